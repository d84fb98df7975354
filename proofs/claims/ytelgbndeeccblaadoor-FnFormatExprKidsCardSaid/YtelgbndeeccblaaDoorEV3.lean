/- Part of the proofs about the heaps and memories: a law is joined in the text whose name ends in W and the law. -/
import Derived.Test.YtelgbndeeccblaaDoorEV2
namespace Go.Vc
open Go Go.Proofs Go.RowKit
set_option linter.all false
/-- how what is known lies in memory -/
structure Rep where
  st : Addr → VwD → Items → Prop
  rd : World → Addr → VwD → Prop
  mono : ∀ {w w2 : World} {a : Addr} {v : VwD}, Sub w w2 → rd w a v → rd w2 a v
  get : ∀ {w : World} {a : Addr} {v : VwD} {I : Items}, st a v I → AtAll w I → rd w a v
/-- a pointer to what is known, or nil -/
structure PV (ρ : Rep) where
  o : Option VwD
instance {ρ : Rep} : Inhabited (PV ρ) := ⟨⟨none⟩⟩
def PV.cells (ρ : Rep) (w : World) (cs : List Value) : Option VwD → Prop
  | none => cs = [.pointer none]
  | some v => ∃ a : Addr, cs = [.pointer (some (a.add 0))] ∧ ρ.rd w a v
def PV.ownC (ρ : Rep) (cs : List Value) (K : Items) : Option VwD → Prop
  | none => cs = [.pointer none] ∧ K = []
  | some v => ∃ a : Addr, cs = [.pointer (some (a.add 0))] ∧ ρ.st a v K
instance {ρ : Rep} : Dat (PV ρ) where
  sz := 1
  cells _ w cs s := PV.cells ρ w cs s.o
  mono := fun {B u w cs s} hs h => by
    unfold PV.cells at *
    split at h
    · exact h
    · obtain ⟨a, h1, h2⟩ := h; exact ⟨a, h1, ρ.mono hs h2⟩
  len := fun {B w cs s} h => by
    unfold PV.cells at h
    split at h
    · rw [h]; rfl
    · obtain ⟨a, h1, h2⟩ := h; rw [h1]; rfl
  one := fun {B w cs s} h v hv => by
    unfold PV.cells at h
    split at h
    · rw [h] at hv; simp at hv; subst hv; rfl
    · obtain ⟨a, h1, h2⟩ := h; rw [h1] at hv; simp at hv; subst hv; rfl
instance {ρ : Rep} : DatO (PV ρ) where
  own cs s K := PV.ownC ρ cs K s.o
  read := by
    intro w cs s I h hA
    show PV.cells ρ w cs s.o
    unfold PV.cells
    unfold PV.ownC at h
    split
    · rename_i e; rw [e] at h; exact h.1
    · rename_i v e; rw [e] at h; obtain ⟨a, h1, h2⟩ := h; exact ⟨a, h1, ρ.get h2 hA⟩
section
variable {ρ : Rep} {u w : World} {v v' o : VwD} {a a1 : Addr} {r t n i : Int} {x y z : Sl} {I J R L : Items} {N B B' : Nat} {F F' : List (Option VwD)}
theorem nth_PV (i : Int) : nth (F.map PV.mk : List (PV ρ)) i = ⟨nth F i⟩ := by
  unfold nth List.getD
  rw [List.getElem?_map]
  cases F[i.toNat]? <;> rfl
theorem PV.put (h : OwnD x (F.map PV.mk : List (PV ρ)) I) (hS : St u w (I ++ (J ++ R))) (h0 : 0 ≤ i) (h1 : i < F.length) (hv : ρ.st a v J) {Kt : World → Prop}
    (k : ∀ w' I', OwnD x ((F.set i.toNat (some v)).map PV.mk : List (PV ρ)) I' → St u w' (I' ++ R) → Kt w') : StoreAt w (elA x i 1) 0 [.pointer (some (a.add 0))] Kt := by
  refine h.store (off := 0) (vals := [.pointer (some (a.add 0))]) hS h0 (by simpa using h1) (⟨some v⟩ : PV ρ) J (by exact Nat.le_refl 1) ?_ ?_
  · intro r K hr
    refine ⟨J, ?_, .inl rfl⟩
    rw [nth_PV] at hr
    have hl : ∃ q, r = [q] := by
      have hr : PV.ownC ρ r K (nth F i) := hr
      unfold PV.ownC at hr
      split at hr
      · exact ⟨_, hr.1⟩
      · obtain ⟨a, h1, _⟩ := hr; exact ⟨_, h1⟩
    obtain ⟨q, rfl⟩ := hl
    exact ⟨a, rfl, hv⟩
  · intro w' I' hO hS
    rw [← List.map_set] at hO
    exact k w' (I' ++ J) hO (by simpa using hS)
end
theorem OwnI.readA {w : World} {x : Sl} {l : List Int} {I : Items} (h : OwnI x l I) (hA : AtAll w I) : Read w x l := by
  obtain ⟨rows, k1, k2, k3⟩ := h w
  exact ⟨rows, k1.rd hA, k2, k3⟩
theorem Cel.loadA {w : World} {a : Addr} {vals : List Value} {I : Items} (h : Cel a vals I) (hA : AtAll w I) {k : Nat} {v : Value} (hv : vals[k]? = some v) : w.cell? (a.add k) = some v := by
  obtain ⟨g, e, rfl, rfl⟩ := h
  rw [cell_blk (hA (g, .cells vals.toArray e (0, 0)) (by simp)).1 rfl]
  simpa using hv
theorem Vst.rdA {w : World} {a : Addr} {v : VwD} {I : Items} (h : Vst a v I) (hA : AtAll w I) : VRd w a v := by
  obtain ⟨x1, x2, x3, x4, x5, x6, x7, I0, J1, J2, J3, J4, J5, J6, J7, hC, o1, o2, o3, o4, o5, o6, o7, rfl⟩ := h
  have hA : ∀ p, p ∈ I0 ∨ p ∈ J1 ∨ p ∈ J2 ∨ p ∈ J3 ∨ p ∈ J4 ∨ p ∈ J5 ∨ p ∈ J6 ∨ p ∈ J7 → w.heap[p.1]? = some p.2 ∧ p.2 ≠ absent := fun p hp => hA p (by simpa using hp)
  have hC' : AtAll w I0 := fun p hp => hA p (by simp [hp])
  exact ⟨x1, x2, x3, x4, x5, x6, x7, ⟨hC.loadA hC' rfl, o1.readA fun p hp => hA p (by simp [hp])⟩, ⟨hC.loadA hC' rfl, o2.readA fun p hp => hA p (by simp [hp])⟩, ⟨hC.loadA hC' rfl, o3.readA fun p hp => hA p (by simp [hp])⟩, ⟨hC.loadA hC' rfl, o4.readA fun p hp => hA p (by simp [hp])⟩,
    ⟨hC.loadA hC' rfl, o5.readA fun p hp => hA p (by simp [hp])⟩, ⟨hC.loadA hC' rfl, o6.readA fun p hp => hA p (by simp [hp])⟩, ⟨hC.loadA hC' rfl, o7.readA fun p hp => hA p (by simp [hp])⟩⟩
def repS : Rep := ⟨Vst, VRd, fun hs h => h.mono hs, fun h hA => h.rdA hA⟩
/-- the reference's flows, in memory -/
def Fst (a : Addr) (F : List (Option VwD)) (I : Items) : Prop := ∃ (x y : Sl) (I0 I1 I2 : Items), Cel a [x.val, y.val] I0 ∧ OwnD x (F.map PV.mk : List (PV repS)) I1 ∧ (∀ u, Own u y (F.map Option.isSome) I2) ∧ I = I0 ++ (I1 ++ I2)
def OpF (u : World) (R : Items) (a : Addr) : Option (List (Option VwD)) → Value → World → Prop
  | none, r, w => r = .bool false ∧ Sub u w
  | some F, r, w => ∃ I, r = .bool true ∧ Fst a F I ∧ St u w (I ++ R)
theorem OpF.use {u : World} {R : Items} {a : Addr} {P : Program} {f : FuncId} {args : Array Value} {w : World} {o : Option (List (Option VwD))} {K : Value → World → Prop} (h : Trip P f args w (OpF u R a o))
    (k1 : o = none → ∀ w', Sub u w' → K (.bool false) w') (k2 : ∀ F I w', o = some F → Fst a F I → St u w' (I ++ R) → K (.bool true) w') : Trip P f args w K := by
  refine h.mono' fun r w' hr => ?_
  cases o with
  | none => obtain ⟨rfl, hs⟩ := hr; exact k1 rfl _ hs
  | some v' => obtain ⟨I, rfl, hV, hS⟩ := hr; exact k2 _ _ _ rfl hV hS
section
variable {u w : World} {v v' o : VwD} {a a1 : Addr} {r t n i e_ at_ f m rr : Int} {k k' : RegK} {x y z ax jx px lx cx : Sl} {I R L : Items} {N B B' : Nat} {ds : List DeclD} {ss : List SigD} {ps : List ProcD} {c : InstrD} {ts : List Int} {F F' : List (Option VwD)} {code : List InstrD}
end
end Go.Vc

namespace Go.Vc
open Go Go.Proofs Go.RowKit
set_option linter.all false
section
variable {u w : World} {v v' o : VwD} {a a1 : Addr} {r t n i e_ at_ f m rr : Int} {k k' : RegK} {x y z ax jx px lx cx : Sl} {I R L : Items} {N B B' : Nat} {ds : List DeclD} {ss : List SigD} {ps : List ProcD} {c : InstrD} {ts : List Int} {F F' : List (Option VwD)} {code : List InstrD}
/-- the code of a valid procedure -/
structure CodD (u : World) (x y cx : Sl) (ds : List DeclD) (ps : List ProcD) (N : Nat) (code : List InstrD) : Prop where
  hx : Read u x ds
  hy : Read u y ps
  hc : Read u cx code
  sg : sigSigs ds (ps.map sigOf)
  hN : N ≤ 2000
  hl : code.length ≤ 2000
  last : (nth code ((code.length : Int) - 1)).op = 23 ∨ (nth code ((code.length : Int) - 1)).op = 24
  ok : ∀ i : Int, 0 ≤ i → i < code.length → instrOk ds (ps.map sigOf) N code.length i (nth code i)
theorem CodD.mono {u' : World} (h : CodD u x y cx ds ps N code) (hs : Sub u u') : CodD u' x y cx ds ps N code := ⟨h.hx.mono hs, h.hy.mono hs, h.hc.mono hs, h.sg, h.hN, h.hl, h.last, h.ok⟩
end
end Go.Vc

namespace Go.Vc
open Go Go.Proofs Go.RowKit
set_option linter.all false
section
variable {u w : World} {v v' o : VwD} {a a1 : Addr} {r t n i e_ at_ f m rr : Int} {k k' : RegK} {x y z ax jx px lx cx : Sl} {I R L : Items} {N B B' : Nat} {ds : List DeclD} {ss : List SigD} {ps : List ProcD} {c : InstrD} {ts ks : List Int} {F F' : List (Option VwD)} {code : List InstrD}
end
end Go.Vc

namespace Go.Vc
open Go Go.Proofs Go.RowKit
set_option linter.all false
section
variable {u w : World} {v v' o : VwD} {a a1 : Addr} {r t n i e_ at_ f m rr : Int} {k k' : RegK} {x y z ax jx px lx cx : Sl} {I R L : Items} {N B B' : Nat} {ds : List DeclD} {ss : List SigD} {ps : List ProcD} {c : InstrD} {ts ks : List Int} {F F' : List (Option VwD)} {code : List InstrD} {p : ProcD}
end
end Go.Vc
