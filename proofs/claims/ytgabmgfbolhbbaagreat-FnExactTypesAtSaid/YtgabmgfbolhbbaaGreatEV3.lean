/- Part of the proofs about the heaps and memories: a law is joined in the text whose name ends in W and the law. -/
import Derived.Test.YtgabmgfbolhbbaaGreatEV2
namespace Go.Vc
open Go Go.Proofs Go.RowKit
set_option linter.all false
/-- how what is known lies in memory -/
structure Rep where
  st : Addr → VwD → Items → Prop
  rd : World → Addr → VwD → Prop
  mono : ∀ {w w2 : World} {a : Addr} {v : VwD}, Sub w w2 → rd w a v → rd w2 a v
  get : ∀ {w : World} {a : Addr} {v : VwD} {I : Items}, st a v I → AtAll w I → rd w a v
/-- a pointer to what is known, or nil -/
structure PV (ρ : Rep) where
  o : Option VwD
instance {ρ : Rep} : Inhabited (PV ρ) := ⟨⟨none⟩⟩
def PV.cells (ρ : Rep) (w : World) (cs : List Value) : Option VwD → Prop
  | none => cs = [.pointer none]
  | some v => ∃ a : Addr, cs = [.pointer (some (a.add 0))] ∧ ρ.rd w a v
def PV.ownC (ρ : Rep) (cs : List Value) (K : Items) : Option VwD → Prop
  | none => cs = [.pointer none] ∧ K = []
  | some v => ∃ a : Addr, cs = [.pointer (some (a.add 0))] ∧ ρ.st a v K
instance {ρ : Rep} : Dat (PV ρ) where
  sz := 1
  cells _ w cs s := PV.cells ρ w cs s.o
  mono := fun {B u w cs s} hs h => by
    unfold PV.cells at *
    split at h
    · exact h
    · obtain ⟨a, h1, h2⟩ := h; exact ⟨a, h1, ρ.mono hs h2⟩
  len := fun {B w cs s} h => by
    unfold PV.cells at h
    split at h
    · rw [h]; rfl
    · obtain ⟨a, h1, h2⟩ := h; rw [h1]; rfl
  one := fun {B w cs s} h v hv => by
    unfold PV.cells at h
    split at h
    · rw [h] at hv; simp at hv; subst hv; rfl
    · obtain ⟨a, h1, h2⟩ := h; rw [h1] at hv; simp at hv; subst hv; rfl
instance {ρ : Rep} : DatO (PV ρ) where
  own cs s K := PV.ownC ρ cs K s.o
  read := by
    intro w cs s I h hA
    show PV.cells ρ w cs s.o
    unfold PV.cells
    unfold PV.ownC at h
    split
    · rename_i e; rw [e] at h; exact h.1
    · rename_i v e; rw [e] at h; obtain ⟨a, h1, h2⟩ := h; exact ⟨a, h1, ρ.get h2 hA⟩
section
variable {ρ : Rep} {u w : World} {v v' o : VwD} {a a1 : Addr} {r t n i : Int} {x y z : Sl} {I J R L : Items} {N B B' : Nat} {F F' : List (Option VwD)}
theorem nth_PV (i : Int) : nth (F.map PV.mk : List (PV ρ)) i = ⟨nth F i⟩ := by
  unfold nth List.getD
  rw [List.getElem?_map]
  cases F[i.toNat]? <;> rfl
theorem PV.none_at (h : OwnD x (F.map PV.mk : List (PV ρ)) I) (h0 : 0 ≤ i) (h1 : i < F.length) (hn : nth F i = none) (hA : AtAll w I) : w.cell? ((elA x i 1).add 0) = some (.pointer none) := by
  obtain ⟨r, hr, hc⟩ := (h.readA hA).row h0 (by simpa using h1)
  rw [nth_PV, hn] at hr
  have hr : r = [.pointer none] := hr
  subst hr
  exact hc 0 _ rfl
/-- one of them is taken out and put back -/
theorem PV.borrow (h : OwnD x (F.map PV.mk : List (PV ρ)) I) (h0 : 0 ≤ i) (h1 : i < F.length) (hn : nth F i = some v) : ∃ (a : Addr) (K Rest : Items), ρ.st a v K ∧ I.Perm (K ++ Rest) ∧ (∀ w : World, AtAll w Rest → w.cell? ((elA x i 1).add 0) = some (.pointer (some (a.add 0)))) ∧
    ∀ (v' : VwD) (K' : Items), ρ.st a v' K' → OwnD x ((F.set i.toNat (some v')).map PV.mk : List (PV ρ)) (K' ++ Rest) := by
  obtain ⟨r, K, Rest, k1, k2, k3, k4⟩ := h.borrow h0 (by simpa using h1)
  rw [nth_PV, hn] at k1
  obtain ⟨a, rfl, k5⟩ : ∃ a : Addr, r = [.pointer (some (a.add 0))] ∧ ρ.st a v K := k1
  refine ⟨a, K, Rest, k5, k2, fun w hA => k3 w hA 0 _ rfl, fun v' K' hv => ?_⟩
  have := k4 ⟨some v'⟩ K' ⟨a, rfl, hv⟩
  rw [List.map_set]
  exact this
theorem PV.put (h : OwnD x (F.map PV.mk : List (PV ρ)) I) (hS : St u w (I ++ (J ++ R))) (h0 : 0 ≤ i) (h1 : i < F.length) (hv : ρ.st a v J) {Kt : World → Prop}
    (k : ∀ w' I', OwnD x ((F.set i.toNat (some v)).map PV.mk : List (PV ρ)) I' → St u w' (I' ++ R) → Kt w') : StoreAt w (elA x i 1) 0 [.pointer (some (a.add 0))] Kt := by
  refine h.store (off := 0) (vals := [.pointer (some (a.add 0))]) hS h0 (by simpa using h1) (⟨some v⟩ : PV ρ) J (by exact Nat.le_refl 1) ?_ ?_
  · intro r K hr
    refine ⟨J, ?_, .inl rfl⟩
    rw [nth_PV] at hr
    have hl : ∃ q, r = [q] := by
      have hr : PV.ownC ρ r K (nth F i) := hr
      unfold PV.ownC at hr
      split at hr
      · exact ⟨_, hr.1⟩
      · obtain ⟨a, h1, _⟩ := hr; exact ⟨_, h1⟩
    obtain ⟨q, rfl⟩ := hl
    exact ⟨a, rfl, hv⟩
  · intro w' I' hO hS
    rw [← List.map_set] at hO
    exact k w' (I' ++ J) hO (by simpa using hS)
theorem PV.make (h : Own u x (List.replicate n.toNat (⟨none⟩ : PV ρ)) I) : OwnD x ((List.replicate n.toNat (none : Option VwD)).map PV.mk : List (PV ρ)) I := by
  obtain ⟨rows, k1, k2, k3⟩ := h
  have hl : rows.length = n.toNat := by rw [k2.1]; simp
  refine ⟨rows, I, List.replicate n.toNat [], [], k1, by simp [hl], by simp, fun j r s K hr hs hK => ?_, by simp, by simpa using k3⟩
  rw [List.map_replicate] at hs
  have hs' : s = ⟨none⟩ := (List.mem_replicate.1 (List.mem_of_getElem? hs)).2
  have hK' : K = [] := (List.mem_replicate.1 (List.mem_of_getElem? hK)).2
  subst hs' hK'
  have := k2.2 j r _ hr hs
  exact ⟨this, rfl⟩
end
theorem OwnI.readA {w : World} {x : Sl} {l : List Int} {I : Items} (h : OwnI x l I) (hA : AtAll w I) : Read w x l := by
  obtain ⟨rows, k1, k2, k3⟩ := h w
  exact ⟨rows, k1.rd hA, k2, k3⟩
theorem Cel.loadA {w : World} {a : Addr} {vals : List Value} {I : Items} (h : Cel a vals I) (hA : AtAll w I) {k : Nat} {v : Value} (hv : vals[k]? = some v) : w.cell? (a.add k) = some v := by
  obtain ⟨g, e, rfl, rfl⟩ := h
  rw [cell_blk (hA (g, .cells vals.toArray e (0, 0)) (by simp)).1 rfl]
  simpa using hv
theorem Vst.rdA {w : World} {a : Addr} {v : VwD} {I : Items} (h : Vst a v I) (hA : AtAll w I) : VRd w a v := by
  obtain ⟨x1, x2, x3, x4, x5, x6, x7, I0, J1, J2, J3, J4, J5, J6, J7, hC, o1, o2, o3, o4, o5, o6, o7, rfl⟩ := h
  have hA : ∀ p, p ∈ I0 ∨ p ∈ J1 ∨ p ∈ J2 ∨ p ∈ J3 ∨ p ∈ J4 ∨ p ∈ J5 ∨ p ∈ J6 ∨ p ∈ J7 → w.heap[p.1]? = some p.2 ∧ p.2 ≠ absent := fun p hp => hA p (by simpa using hp)
  have hC' : AtAll w I0 := fun p hp => hA p (by simp [hp])
  exact ⟨x1, x2, x3, x4, x5, x6, x7, ⟨hC.loadA hC' rfl, o1.readA fun p hp => hA p (by simp [hp])⟩, ⟨hC.loadA hC' rfl, o2.readA fun p hp => hA p (by simp [hp])⟩, ⟨hC.loadA hC' rfl, o3.readA fun p hp => hA p (by simp [hp])⟩, ⟨hC.loadA hC' rfl, o4.readA fun p hp => hA p (by simp [hp])⟩,
    ⟨hC.loadA hC' rfl, o5.readA fun p hp => hA p (by simp [hp])⟩, ⟨hC.loadA hC' rfl, o6.readA fun p hp => hA p (by simp [hp])⟩, ⟨hC.loadA hC' rfl, o7.readA fun p hp => hA p (by simp [hp])⟩⟩
def repS : Rep := ⟨Vst, VRd, fun hs h => h.mono hs, fun h hA => h.rdA hA⟩
/-- the reference's flows, in memory -/
def Fst (a : Addr) (F : List (Option VwD)) (I : Items) : Prop := ∃ (x y : Sl) (I0 I1 I2 : Items), Cel a [x.val, y.val] I0 ∧ OwnD x (F.map PV.mk : List (PV repS)) I1 ∧ (∀ u, Own u y (F.map Option.isSome) I2) ∧ I = I0 ++ (I1 ++ I2)
def OpF (u : World) (R : Items) (a : Addr) : Option (List (Option VwD)) → Value → World → Prop
  | none, r, w => r = .bool false ∧ Sub u w
  | some F, r, w => ∃ I, r = .bool true ∧ Fst a F I ∧ St u w (I ++ R)
theorem OpF.use {u : World} {R : Items} {a : Addr} {P : Program} {f : FuncId} {args : Array Value} {w : World} {o : Option (List (Option VwD))} {K : Value → World → Prop} (h : Trip P f args w (OpF u R a o))
    (k1 : o = none → ∀ w', Sub u w' → K (.bool false) w') (k2 : ∀ F I w', o = some F → Fst a F I → St u w' (I ++ R) → K (.bool true) w') : Trip P f args w K := by
  refine h.mono' fun r w' hr => ?_
  cases o with
  | none => obtain ⟨rfl, hs⟩ := hr; exact k1 rfl _ hs
  | some v' => obtain ⟨I, rfl, hV, hS⟩ := hr; exact k2 _ _ _ rfl hV hS
theorem OpF.weak {u u' w : World} {R : Items} {a : Addr} {o : Option (List (Option VwD))} {r : Value} (h : OpF u' R a o r w) (hs : Sub u u') : OpF u R a o r w := by
  cases o with
  | none => exact ⟨h.1, hs.trans h.2⟩
  | some v => obtain ⟨I, h1, h2, h3⟩ := h; exact ⟨I, h1, h2, h3.weakU hs⟩
section
variable {u w : World} {v v' o : VwD} {a a1 : Addr} {r t n i e_ at_ f m rr : Int} {k k' : RegK} {x y z ax jx px lx cx : Sl} {I R L : Items} {N B B' : Nat} {ds : List DeclD} {ss : List SigD} {ps : List ProcD} {c : InstrD} {ts : List Int} {F F' : List (Option VwD)} {code : List InstrD}
theorem nth_some (i : Int) : nth (F.map Option.isSome) i = (nth F i).isSome := by
  unfold nth List.getD
  rw [List.getElem?_map]
  cases F[i.toNat]? <;> rfl
theorem c_flow (hO : VRd u a1 o) (ho : Wf N B o) (hF : Fst a F I) (hW : WfF N B F) (hS : St u w (I ++ R)) (h0 : 0 ≤ t) (h1 : t < F.length) : Trip Tryz.prog 44 #[.pointer (some (a.add 0)), .int .i64 t, .pointer (some (a1.add 0))] w (OpF u R a (bringV F t o)) := by
  refine of44 _ _ _ _ _ ?_
  unfold vc44
  obtain ⟨x, y, I0, I1, I2, hC, hX, hY, rfl⟩ := hF
  replace hS : St u w (I0 ++ (I1 ++ (I2 ++ R))) := by simpa [List.append_assoc] using hS
  have hYr := (hY u).read hS
  have hxl := hX.le
  simp only [List.length_map] at hxl
  refine ⟨y, hC.load hS rfl, ?_⟩
  refine go_ix hYr h0 (by simpa using h1) ?_
  refine ld_bool hYr h0 (by simpa using h1) ?_
  rw [nth_some]
  unfold bringV
  cases hn : nth F t with
  | none =>
    refine ⟨fun _ => ?_, fun hq => by simp at hq⟩
    refine ⟨y, hC.load hS rfl, ?_⟩
    refine go_ix hYr h0 (by simpa using h1) ?_
    refine st_bool (hY u) hS h0 (by simpa using h1) ?_
    intro w1 I2' hY' hS
    refine ⟨x, hC.load hS rfl, ?_⟩
    refine Mk.use (c_copied hO) hS ?_
    rintro _ w2 J ⟨a', rfl, hV⟩ hS hs
    refine ⟨_, rfl, hs, hX.ix h0 (by simpa using h1), ?_⟩
    refine PV.put (R := I0 ++ (I2' ++ R)) hX (hS.perm (by
      classical
      exact List.perm_iff_count.2 fun a => by simp only [List.count_append]; omega)) h0 h1 (ρ := repS) hV ?_
    intro w3 I1' hX hS
    refine ⟨I0 ++ (I1' ++ I2'), rfl, ⟨x, y, I0, I1', I2', hC, hX, fun u => ?_, rfl⟩, hS.perm (by
      classical
      exact List.perm_iff_count.2 fun a => by simp only [List.count_append]; omega)⟩
    rw [List.map_set]
    exact hY'.ofBools
  | some v0 =>
    refine ⟨fun hq => by simp at hq, fun _ => ?_⟩
    dsimp only
    refine ⟨x, hC.load hS rfl, hX.ix h0 (by simpa using h1), ?_⟩
    obtain ⟨a0, K, Rest, k1, k2, k3, k4⟩ := PV.borrow hX h0 h1 hn
    replace hS : St u w (K ++ (Rest ++ (I0 ++ (I2 ++ R)))) := hS.perm (by
      classical
      exact List.perm_iff_count.2 fun a => by have := k2.count_eq a; simp only [List.count_append] at *; omega)
    refine ⟨⟨_, rfl⟩, k3 w (hS.right.left).at_, ?_⟩
    refine OpR.use (c_merge hO k1 hS (hW t _ hn) ho) (fun hj w' hs => ?_) (fun v' I' w' hj hV hS => ?_)
    · rw [hj]; exact ⟨false, rfl, rfl, hs⟩
    · rw [hj]
      refine ⟨true, rfl, I0 ++ ((I' ++ Rest) ++ I2), rfl, ⟨x, y, I0, I' ++ Rest, I2, hC, k4 v' I' hV, fun u => ?_, rfl⟩, hS.perm (by
        classical
        exact List.perm_iff_count.2 fun a => by simp only [List.count_append]; omega)⟩
      have e : (F.set t.toNat (some v')).map Option.isSome = F.map Option.isSome := by
        rw [List.map_set]
        have := nth_some (F := F) t
        rw [hn] at this
        refine List.ext_getElem? fun j => ?_
        rw [List.getElem?_set]
        split
        · rename_i e
          subst e
          rw [if_pos (by simp; omega)]
          rw [nth_get h0 (by simpa using h1), this]
          rfl
        · rfl
      rw [e]
      exact hY u
end
end Go.Vc

namespace Go.Vc
open Go Go.Proofs Go.RowKit
set_option linter.all false
section
variable {u w : World} {v v' o : VwD} {a a1 : Addr} {r t n i e_ at_ f m rr : Int} {k k' : RegK} {x y z ax jx px lx cx : Sl} {I R L : Items} {N B B' : Nat} {ds : List DeclD} {ss : List SigD} {ps : List ProcD} {c : InstrD} {ts : List Int} {F F' : List (Option VwD)} {code : List InstrD}
/-- a larger number comes behind a single one -/
theorem c_insert1 {v : World} (hx : Read v x [m]) (hm : m ≤ n) (hn : InI n) (hmI : InI m) : Mk Tryz.prog 115 #[x.val, .int .i64 n] v fun r J => ∃ z, r = z.val ∧ Own v z (if n = m then [m] else [m, n]) J := by
  refine of115 _ _ _ _ ?_
  unfold vc115
  have hxn : x.n = 1 := hx.n
  rw [hxn]
  refine St.build (α := Int) (St.refl v) (by (repeat' (first | exact VsOf.nil | apply VsOf.cons | (apply VOf.int; first | assumption | (constructor <;> first | omega | (simp only [List.length_set, List.length_append, List.length_replicate, List.length_cons, List.length_nil, List.length_take, List.length_drop, List.length_map, List.length_singleton] at *; omega))) | exact VOf.bool | exact VOf.str))) rfl (by decide) ?_
  intro z0 w0 I0 hO0 hS hs
  refine ⟨_, rfl, ?_⟩
  refine ⟨fun z q i w => ∃ J, St v w (J ++ []) ∧ ((i = 0 ∧ q = false ∧ Own v z [] J) ∨ (i = 1 ∧ q = decide (m = n) ∧ Own v z [m] J)), fun _ _ i _ => (1 - i).toNat, ⟨I0, hS, .inl ⟨rfl, rfl, hO0⟩⟩, ?_⟩
  clear hO0 hS hs
  rintro z q i w ⟨J, hS, hJ⟩
  dsimp only
  rcases hJ with ⟨rfl, rfl, hO⟩ | ⟨rfl, rfl, hO⟩
  · refine ⟨fun _ => ?_, fun hi => by simp at hi⟩
    refine go_ixg hx (fun _ => ⟨by omega, by simp⟩) ?_
    refine ld_intg (hx.mono hS.sub) (fun _ => ⟨by omega, by simp⟩) ?_
    rw [show nth [m] 0 = m from rfl]
    refine ⟨fun hq => ?_, fun hq => ?_⟩
    · simp only [bls] at hq
      refine go_ix hx (by omega) (by simp) ?_
      refine ld_int (hx.mono hS.sub) (by omega) (by simp) fun _ _ => ?_
      rw [show nth [m] 0 = m from rfl]
      refine ⟨fun hd => ?_, fun hd => ?_⟩
      · simp only [bls] at hd; omega
      · refine go_ix hx (by omega) (by simp) ?_
        refine ld_int (hx.mono hS.sub) (by omega) (by simp) fun _ _ => ?_
        rw [show nth [m] 0 = m from rfl]
        refine St.build (α := Int) hS (by (repeat' (first | exact VsOf.nil | apply VsOf.cons | (apply VOf.int; first | assumption | (constructor <;> first | omega | (simp only [List.length_set, List.length_append, List.length_replicate, List.length_cons, List.length_nil, List.length_take, List.length_drop, List.length_map, List.length_singleton] at *; omega))) | exact VOf.bool | exact VOf.str))) rfl (by decide) ?_
        intro x4 w4 I4 hO4 hS hs
        refine ⟨_, rfl, ?_⟩
        refine Own.append hO hS (hO4.src hS) (by simp) (by decide) ?_
        intro x5 w5 I5 hO5 hS
        refine ⟨_, rfl, ?_⟩
        refine go_wr (by omega) (by omega) ?_
        refine ⟨⟨I5, hS.to, .inr ⟨by omega, by rw [decide_eq_true (by omega)], hO5⟩⟩, by omega⟩
    · simp only [bls] at hq
      refine go_ix hx (by omega) (by simp) ?_
      refine ld_int (hx.mono hS.sub) (by omega) (by simp) fun _ _ => ?_
      rw [show nth [m] 0 = m from rfl]
      refine St.build (α := Int) hS (by (repeat' (first | exact VsOf.nil | apply VsOf.cons | (apply VOf.int; first | assumption | (constructor <;> first | omega | (simp only [List.length_set, List.length_append, List.length_replicate, List.length_cons, List.length_nil, List.length_take, List.length_drop, List.length_map, List.length_singleton] at *; omega))) | exact VOf.bool | exact VOf.str))) rfl (by decide) ?_
      intro x4 w4 I4 hO4 hS hs
      refine ⟨_, rfl, ?_⟩
      refine Own.append hO hS (hO4.src hS) (by simp) (by decide) ?_
      intro x5 w5 I5 hO5 hS
      refine ⟨_, rfl, ?_⟩
      refine go_wr (by omega) (by omega) ?_
      refine ⟨⟨I5, hS.to, .inr ⟨by omega, by rw [decide_eq_false (by omega)], hO5⟩⟩, by omega⟩
  · refine ⟨fun hi => by simp at hi, fun _ => ?_⟩
    refine ⟨fun hq => ?_, fun hq => ?_⟩
    · simp only [bls] at hq
      refine St.build (α := Int) hS (by (repeat' (first | exact VsOf.nil | apply VsOf.cons | (apply VOf.int; first | assumption | (constructor <;> first | omega | (simp only [List.length_set, List.length_append, List.length_replicate, List.length_cons, List.length_nil, List.length_take, List.length_drop, List.length_map, List.length_singleton] at *; omega))) | exact VOf.bool | exact VOf.str))) rfl (by decide) ?_
      intro x4 w4 I4 hO4 hS hs
      refine ⟨_, rfl, ?_⟩
      refine Own.append hO hS (hO4.src hS) (by simp) (by decide) ?_
      intro x5 w5 I5 hO5 hS
      refine ⟨_, rfl, I5, hS.right.left, x5, rfl, ?_⟩
      rw [if_neg (by omega)]
      exact hO5
    · simp only [bls] at hq
      refine ⟨J, by simpa using hS, z, rfl, ?_⟩
      rw [if_pos (by omega)]
      exact hO
/-- the code of a valid procedure -/
structure CodD (u : World) (x y cx : Sl) (ds : List DeclD) (ps : List ProcD) (N : Nat) (code : List InstrD) : Prop where
  hx : Read u x ds
  hy : Read u y ps
  hc : Read u cx code
  sg : sigSigs ds (ps.map sigOf)
  hN : N ≤ 2000
  hl : code.length ≤ 2000
  last : (nth code ((code.length : Int) - 1)).op = 23 ∨ (nth code ((code.length : Int) - 1)).op = 24
  ok : ∀ i : Int, 0 ≤ i → i < code.length → instrOk ds (ps.map sigOf) N code.length i (nth code i)
theorem CodD.mono {u' : World} (h : CodD u x y cx ds ps N code) (hs : Sub u u') : CodD u' x y cx ds ps N code := ⟨h.hx.mono hs, h.hy.mono hs, h.hc.mono hs, h.sg, h.hN, h.hl, h.last, h.ok⟩
theorem CodD.atI (h : CodD u x y cx ds ps N code) (hs : Sub u w) (h0 : 0 ≤ i) (h1 : i < code.length) : ∃ ax jx : Sl, InD u x y ax jx ds ps N code.length i (nth code i) ∧ w.cell? ((elA cx i 6).add 0) = some (.int .i64 (nth code i).op) ∧ w.cell? ((elA cx i 6).add 1) = some (.int .i64 (nth code i).dst) ∧
    w.cell? ((elA cx i 6).add 2) = some (.int .i64 (nth code i).num) ∧ w.cell? ((elA cx i 6).add 3) = some (.int .i64 (nth code i).into) ∧ w.cell? ((elA cx i 6).add 4) = some ax.val ∧ w.cell? ((elA cx i 6).add 5) = some jx.val := by
  obtain ⟨ax, jx, e1, e2, e3, e4, e5, e6, i1, i2, i3, i4, r1, r2⟩ := (h.hc.src hs).ofInstrD h0 h1
  exact ⟨ax, jx, ⟨h.hx, h.hy, r1, r2, h.sg, h.ok i h0 h1, h.hN, h0, by have := h.hl; omega⟩, e1, e2, e3, e4, e5, e6⟩
theorem nextV_bd (h : instrOk ds ss N code.length i c) (h0 : 0 ≤ i) (h1 : i < code.length) (hlast : i = (code.length : Int) - 1 → c.op = 23 ∨ c.op = 24) (hsw : c.op ≠ 21) : ∀ t ∈ nextV c i, 0 ≤ t ∧ t < code.length := by
  intro t ht
  have hnum := h.2.2.2.2.2.2.2.2.1
  unfold nextV at ht
  split at ht
  · cases ht
  rename_i hn
  have hi : i + 1 < code.length := by
    by_cases e : i = (code.length : Int) - 1
    · exact absurd (hlast e) hn
    · omega
  split at ht
  · rename_i hop
    have := (numV_jump (.inr hop)).1 hnum
    simp only [List.mem_singleton] at ht
    omega
  split at ht
  · rename_i hop
    have := (numV_jump (.inl hop)).1 hnum
    split at ht
    · simp only [List.mem_singleton] at ht; omega
    · simp only [List.mem_cons, List.not_mem_nil, or_false] at ht; omega
  · simp only [List.mem_singleton] at ht; omega
theorem c_nextOf {v : World} (h : CodD v x y cx ds ps N code) (h0 : 0 ≤ i) (h1 : i < code.length) (hsw : (nth code i).op ≠ 21) : Mk Tryz.prog 82 #[cx.val, .int .i64 i] v fun r J => ∃ z, r = z.val ∧ Own v z (nextV (nth code i) i) J := by
  refine of82 _ _ _ _ ?_
  unfold vc82
  obtain ⟨ax, jx, hI, e1, e2, e3, e4, e5, e6⟩ := h.atI (.refl v) h0 h1
  have hl := h.hl
  have hnumI := hI.numI
  unfold SmI at hnumI
  have hnum := hI.ok.2.2.2.2.2.2.2.2.1
  have hS := St.refl v
  refine go_ix h.hc h0 h1 ?_
  refine ⟨_, _, _, _, ax, jx, ⟨e1, e2, e3, e4, e5, e6⟩, ?_⟩
  unfold nextV
  by_cases h23 : (nth code i).op = 23
  · repeat (first | refine ⟨fun h => absurd (of_decide_eq_true h) (by omega), fun _ => ?_⟩ | refine ⟨fun _ => ?_, fun h => absurd (of_decide_eq_false h) (by omega)⟩)
    refine St.build (α := Int) hS (by (repeat' (first | exact VsOf.nil | apply VsOf.cons | (apply VOf.int; first | assumption | (constructor <;> first | omega | (simp only [List.length_set, List.length_append, List.length_replicate, List.length_cons, List.length_nil, List.length_take, List.length_drop, List.length_map, List.length_singleton] at *; omega))) | exact VOf.bool | exact VOf.str))) rfl (by decide) ?_
    intro z w1 J hO hS hs
    refine ⟨_, rfl, J, by simpa using hS, z, rfl, ?_⟩
    rw [if_pos (.inl h23)]; exact hO
  by_cases h24 : (nth code i).op = 24
  · repeat (first | refine ⟨fun h => absurd (of_decide_eq_true h) (by omega), fun _ => ?_⟩ | refine ⟨fun _ => ?_, fun h => absurd (of_decide_eq_false h) (by omega)⟩)
    refine St.build (α := Int) hS (by (repeat' (first | exact VsOf.nil | apply VsOf.cons | (apply VOf.int; first | assumption | (constructor <;> first | omega | (simp only [List.length_set, List.length_append, List.length_replicate, List.length_cons, List.length_nil, List.length_take, List.length_drop, List.length_map, List.length_singleton] at *; omega))) | exact VOf.bool | exact VOf.str))) rfl (by decide) ?_
    intro z w1 J hO hS hs
    refine ⟨_, rfl, J, by simpa using hS, z, rfl, ?_⟩
    rw [if_pos (.inr h24)]; exact hO
  rw [if_neg (by omega)]
  by_cases h22 : (nth code i).op = 22
  · repeat (first | refine ⟨fun h => absurd (of_decide_eq_true h) (by omega), fun _ => ?_⟩ | refine ⟨fun _ => ?_, fun h => absurd (of_decide_eq_false h) (by omega)⟩)
    refine St.build (α := Int) hS (by (repeat' (first | exact VsOf.nil | apply VsOf.cons | (apply VOf.int; first | assumption | (constructor <;> first | omega | (simp only [List.length_set, List.length_append, List.length_replicate, List.length_cons, List.length_nil, List.length_take, List.length_drop, List.length_map, List.length_singleton] at *; omega))) | exact VOf.bool | exact VOf.str))) rfl (by decide) ?_
    intro z w1 J hO hS hs
    refine ⟨_, rfl, J, by simpa using hS, z, rfl, ?_⟩
    rw [if_pos h22]; exact hO
  rw [if_neg h22]
  by_cases h20 : (nth code i).op = 20
  · have hj := (numV_jump (.inl h20)).1 hnum
    repeat (first | refine ⟨fun h => absurd (of_decide_eq_true h) (by omega), fun _ => ?_⟩ | refine ⟨fun _ => ?_, fun h => absurd (of_decide_eq_false h) (by omega)⟩)
    rw [if_pos h20]
    refine go_wr (by omega) (by omega) ?_
    refine St.build (α := Int) hS (by (repeat' (first | exact VsOf.nil | apply VsOf.cons | (apply VOf.int; first | assumption | (constructor <;> first | omega | (simp only [List.length_set, List.length_append, List.length_replicate, List.length_cons, List.length_nil, List.length_take, List.length_drop, List.length_map, List.length_singleton] at *; omega))) | exact VOf.bool | exact VOf.str))) rfl (by decide) ?_
    intro z w1 J hO hS hs
    refine ⟨_, rfl, ?_⟩
    refine Mk.usew (c_insert1 (m := i + 1) (n := (nth code i).num) (hO.read hS) (by omega) (by constructor <;> omega) (by constructor <;> omega)) hS ?_
    rintro _ w2 J2 ⟨z2, rfl, hZ⟩ hS hs2
    exact ⟨_, rfl, J2, hS.left, z2, rfl, hZ.ofInts⟩
  · repeat (first | refine ⟨fun h => absurd (of_decide_eq_true h) (by omega), fun _ => ?_⟩ | refine ⟨fun _ => ?_, fun h => absurd (of_decide_eq_false h) (by omega)⟩)
    rw [if_neg h20]
    refine go_wr (by omega) (by omega) ?_
    refine St.build (α := Int) hS (by (repeat' (first | exact VsOf.nil | apply VsOf.cons | (apply VOf.int; first | assumption | (constructor <;> first | omega | (simp only [List.length_set, List.length_append, List.length_replicate, List.length_cons, List.length_nil, List.length_take, List.length_drop, List.length_map, List.length_singleton] at *; omega))) | exact VOf.bool | exact VOf.str))) rfl (by decide) ?_
    intro z w1 J hO hS hs
    exact ⟨_, rfl, J, by simpa using hS, z, rfl, hO⟩
theorem bringsV_wf {l : List Int} (hv : Wf N B v) : ∀ {F F' : List (Option VwD)}, WfF N B F → (∀ t ∈ l, 0 ≤ t ∧ t < F.length) → bringsV v l F = some F' → WfF N B F' ∧ F'.length = F.length := by
  induction l with
  | nil => intro F F' h _ hb; cases hb; exact ⟨h, rfl⟩
  | cons t r ih =>
    intro F F' h ht hb
    obtain ⟨F1, h1, hb⟩ := Option.bind_eq_some_iff.1 hb
    have := ht t (by simp)
    obtain ⟨h2, h3⟩ := bringV_wf h hv this.1 this.2 h1
    obtain ⟨h4, h5⟩ := ih h2 (fun t' ht' => by rw [h3]; exact ht t' (by simp [ht'])) hb
    exact ⟨h4, h5.trans h3⟩
theorem bringsV_snoc {l : List Int} : ∀ {F : List (Option VwD)}, bringsV v (l ++ [t]) F = (bringsV v l F).bind fun F' => bringV F' t v := by
  induction l with
  | nil => intro F; simp [bringsV]
  | cons t r ih =>
    intro F
    show (bringV F t v).bind (bringsV v (r ++ [_])) = ((bringV F t v).bind (bringsV v r)).bind _
    cases bringV F t v with
    | none => rfl
    | some F1 => exact ih
theorem bringsV_app {l l' : List Int} : ∀ {F : List (Option VwD)}, bringsV v (l ++ l') F = (bringsV v l F).bind (bringsV v l') := by
  induction l with
  | nil => intro F; simp [bringsV]
  | cons t r ih =>
    intro F
    show (bringV F t v).bind (bringsV v (r ++ _)) = ((bringV F t v).bind (bringsV v r)).bind _
    cases bringV F t v with
    | none => rfl
    | some F1 => exact ih
end
end Go.Vc

namespace Go.Vc
open Go Go.Proofs Go.RowKit
set_option linter.all false
section
variable {u w : World} {v v' o : VwD} {a a1 : Addr} {r t n i e_ at_ f m rr : Int} {k k' : RegK} {x y z ax jx px lx cx : Sl} {I R L : Items} {N B B' : Nat} {ds : List DeclD} {ss : List SigD} {ps : List ProcD} {c : InstrD} {ts ks : List Int} {F F' : List (Option VwD)} {code : List InstrD}
theorem consL_bd (h : typesOk ds) : ∀ n ∈ consL ds t, 0 ≤ n ∧ n ≤ 15 := by
  intro n hn
  unfold consL at hn
  split at hn
  · rename_i hp
    obtain ⟨k, hk, rfl⟩ := List.mem_map.1 hn
    simp only [List.mem_range] at hk
    have := h.sm.cons _ (nth_mem (l := ds) (i := t - 1) (by omega) (by omega))
    have := h.sm.fc (t - 1).toNat (by omega)
    omega
  · cases hn
theorem switchV_none {i j : Nat} (h : switchV c ks v i F = none) (hij : i ≤ j) : switchV c ks v j F = none := by
  induction j with
  | zero => rw [show i = 0 from by omega] at h; exact h
  | succ j ih =>
    rcases Nat.lt_or_ge i (j + 1) with h1 | h1
    · simp [switchV, ih (by omega)]
    · rw [show i = j + 1 from by omega] at h; exact h
theorem c_leave (h : CodD u x y cx ds ps N code) (h0 : 0 ≤ i) (h1 : i < code.length) (hO : VRd u a1 v) (hv : Wf N B v) (hF : Fst a F I) (hW : WfF N B F) (hFl : F.length = code.length) (hS : St u w (I ++ R)) (hsw : (nth code i).op = 21 → (v.reg (nth (nth code i).args 0)).typ = (nth code i).num) :
    Trip Tryz.prog 48 #[.pointer (some (a.add 0)), .agg #[x.val, y.val], cx.val, .int .i64 i, .pointer (some (a1.add 0))] w (OpF u R a (leaveV ds (nth code i) i v F)) := by
  refine of48 _ _ _ _ _ _ _ _ ?_
  unfold vc48
  obtain ⟨ax, jx, hI, e1, e2, e3, e4, e5, e6⟩ := h.atI hS.sub h0 h1
  have hl := h.hl
  have hnumI := hI.numI
  unfold SmI at hnumI
  have hnum := hI.ok.2.2.2.2.2.2.2.2.1
  refine go_ix h.hc h0 h1 ?_
  refine ⟨_, _, _, _, ax, jx, ⟨e1, e2, e3, e4, e5, e6⟩, ?_⟩
  unfold leaveV
  refine ⟨fun hq => ?_, fun hq => ?_⟩
  · simp only [bls] at hq
    rw [if_neg hq]
    refine Mk.use (c_nextOf h h0 h1 hq) hS ?_
    rintro _ w1 J ⟨z, rfl, hZ⟩ hS hs
    refine ⟨_, rfl, ?_⟩
    obtain ⟨u1, hs1, hS1, hJ⟩ := hS.freeze J
    have hZ := hZ.read1 hJ
    have hzn := hZ.n
    have hzl := hZ.le
    have hbd := nextV_bd hI.ok h0 h1 (fun e => by rw [e]; exact h.last) hq
    rw [hzn]
    refine ⟨fun k w' => ∃ F' I', bringsV v ((nextV (nth code i) i).take k.toNat) F = some F' ∧ Fst a F' I' ∧ WfF N B F' ∧ F'.length = code.length ∧ St u1 w' (I' ++ R) ∧ 0 ≤ k ∧ k ≤ (nextV (nth code i) i).length, fun k _ => ((nextV (nth code i) i).length - k).toNat, ⟨F, I, rfl, hF, hW, hFl, hS1, by omega, by omega⟩, ?_⟩
    clear hF hW hFl hS hS1 hs e1 e2 e3 e4 e5 e6
    rintro k w ⟨F1, I1, hb, hF, hW, hFl, hS, k0, k1⟩
    dsimp only
    refine ⟨fun hi => ?_, fun hi => ?_⟩
    · simp only [bls] at hi
      refine go_ix hZ k0 (by omega) ?_
      refine ld_int (hZ.mono hS.sub) k0 (by omega) fun _ _ => ?_
      have hbk := hbd _ (nth_mem k0 (by omega))
      have hsn : bringsV v ((nextV (nth code i) i).take (k + 1).toNat) F = bringV F1 (nth (nextV (nth code i) i) k) v := by
        rw [take_nth k0 (by omega), bringsV_snoc, hb]; rfl
      have hO1 : VRd u1 a1 v := hO.mono hs1
      refine OpF.use (c_flow hO1 hv hF hW hS hbk.1 (by omega)) (fun hn w' hs => ?_) (fun F2 I2 w' hn hF hS => ?_)
      · refine ⟨false, rfl, fun _ => ?_, fun h => by cases h⟩
        have : bringsV v (nextV (nth code i) i) F = none := by
          rw [← List.take_append_drop (k + 1).toNat (nextV (nth code i) i), bringsV_app, hsn, hn]; rfl
        rw [this]
        exact ⟨rfl, hs1.trans hs⟩
      · refine ⟨true, rfl, (fun h => by cases h), fun _ => ?_⟩
        obtain ⟨hW2, hl2⟩ := bringV_wf hW hv hbk.1 (by omega) hn
        refine go_wr (by omega) (by omega) ?_
        repeat refine go_rf ?_
        exact ⟨⟨F2, I2, hsn.trans hn, hF, hW2, by omega, hS, by omega, by omega⟩, by omega⟩
    · simp only [bls] at hi
      rw [List.take_of_length_le (by omega)] at hb
      rw [hb]
      exact ⟨I1, rfl, hF, hS.weakU hs1⟩
  · simp only [bls] at hq
    rw [if_pos hq]
    have hnsw := (numV_switch hq).1 hnum
    have hlo := hI.al
    rw [(arg_1 (by omega)).1] at hlo
    have hA0 := hI.args 0 (by omega) (by omega)
    have hlv := hv.lenI
    have hsm := h.sg.1.sm
    have hcl := consL_sm (n := (nth code i).num) h.sg.1
    have hcb := consL_bd (t := (nth code i).num) h.sg.1
    refine Mk.use (c_consOf h.hx (by constructor <;> omega) (by have := hsm.len; omega) (fun d hd => by have := hsm.cons d hd; omega) hsm.hb) hS ?_
    rintro _ w1 J ⟨z, rfl, hZ⟩ hS hs
    refine ⟨_, rfl, ?_⟩
    obtain ⟨u1, hs1, hS1, hJ⟩ := hS.freeze J
    have hZ := hZ.read1 hJ
    have hzn := hZ.n
    rw [hzn]
    have hI := hI.mono hs1
    have hO := hO.mono hs1
    refine go_ix hI.hax (by omega) (by omega) ?_
    refine ld_int (hI.hax.mono hS1.sub) (by omega) (by omega) fun _ _ => ?_
    generalize hks : consL ds (nth code i).num = ks at *
    refine ⟨fun k w' => ∃ F' I', switchV (nth code i) ks v k.toNat F = some F' ∧ Fst a F' I' ∧ WfF N B F' ∧ F'.length = code.length ∧ St u1 w' (I' ++ R) ∧ 0 ≤ k ∧ k ≤ ks.length, fun k _ => (ks.length - k).toNat, ⟨F, I, rfl, hF, hW, hFl, hS1, by omega, by omega⟩, ?_⟩
    clear hF hW hFl hS hS1 hs e1 e2 e3 e4 e5 e6
    rintro k w ⟨F1, I1, hb, hF, hW, hFl, hS, k0, k1⟩
    dsimp only
    refine ⟨fun hi => ?_, fun hi => ?_⟩
    · simp only [bls] at hi
      obtain ⟨x5, g5, r5⟩ := (hO.mono hS.sub).k5
      have hsn : switchV (nth code i) ks v (k + 1).toNat F = if (v.reg (nth (nth code i).args 0)).con < 0 ∨ (v.reg (nth (nth code i).args 0)).con = nth ks k then bringV F1 (nth (nth code i).jumps k) (conV v (nth (nth code i).args 0) (nth ks k)) else some F1 := by
        rw [show (k + 1).toNat = k.toNat + 1 from by omega]
        unfold switchV
        rw [hb, Option.bind_some, show ((k.toNat : Nat) : Int) = k from by omega]
      refine ⟨x5, g5, ?_⟩
      refine go_col r5 hA0.1 (by omega) ?_
      refine ld_col r5 hA0.1 (by omega) ?_
      refine ⟨x5, fun _ => g5, ?_⟩
      refine go_colg r5 (fun _ => ⟨hA0.1, by omega⟩) ?_
      refine ld_colg r5 (fun _ => ⟨hA0.1, by omega⟩) ?_
      refine go_ixg hZ (fun _ => ⟨k0, by omega⟩) ?_
      refine ld_intg (hZ.mono hS.sub) (fun _ => ⟨k0, by omega⟩) ?_
      refine ⟨fun hd => ?_, fun hd => ?_⟩
      · simp only [bls] at hd
        rw [if_pos hd] at hsn
        have hkb := hcb _ (nth_mem k0 (by omega))
        have hjb : 0 ≤ nth (nth code i).jumps k ∧ nth (nth code i).jumps k < code.length := by
          have := List.all_eq_true.1 hI.ok.2.2.2.2.2.2.2.1 _ (nth_mem k0 (by omega))
          unfold laterB at this
          simp only [Bool.and_eq_true, decide_eq_true_eq] at this
          omega
        refine Mk.use (c_copied hO) hS ?_
        rintro _ w2 K ⟨a', rfl, hV⟩ hS hs2
        refine ⟨_, rfl, ?_⟩
        obtain ⟨x6, g6, r6, st6⟩ := hV.so5 hS
        refine ⟨x6, g6, ?_⟩
        refine go_ix hZ k0 (by omega) ?_
        refine ld_int (hZ.mono hS.sub) k0 (by omega) fun _ _ => ?_
        refine go_col r6 hA0.1 (by omega) ?_
        refine st6 hA0.1 (by omega) (by constructor <;> omega) rfl ?_
        intro w3 K2 hV hS
        refine go_ix hI.hjx k0 (by omega) ?_
        refine ld_int (hI.hjx.mono hS.sub) k0 (by omega) fun _ _ => ?_
        obtain ⟨u2, hs3, hS3, hJ3⟩ := hS.freeze K2
        have hcw : Wf N B (conV v (nth (nth code i).args 0) (nth ks k)) := conV_wf hv hA0.1 hA0.2 (by omega) (by rw [hsw hq]; have := hcl.2 hnsw.1; omega)
        have hV : Vst a' (conV v (nth (nth code i).args 0) (nth ks k)) K2 := hV
        refine OpF.use (c_flow (hV.rdA hJ3.at_) hcw hF hW hS3 hjb.1 (by omega)) (fun hn w' hs => ?_) (fun F2 I2 w' hn hF hS => ?_)
        · refine ⟨false, rfl, fun _ => ?_, fun h => by cases h⟩
          rw [switchV_none (hsn.trans hn) (by omega)]
          exact ⟨rfl, (hs1.trans hs3).trans hs⟩
        · refine ⟨true, rfl, (fun h => by cases h), fun _ => ?_⟩
          obtain ⟨hW2, hl2⟩ := bringV_wf hW hcw hjb.1 (by omega) hn
          refine go_wr (by omega) (by omega) ?_
          repeat refine go_rf ?_
          exact ⟨⟨F2, I2, hsn.trans hn, hF, hW2, by omega, hS.weakU hs3, by omega, by omega⟩, by omega⟩
      · simp only [bls] at hd
        rw [if_neg (by omega)] at hsn
        refine go_wr (by omega) (by omega) ?_
        repeat refine go_rf ?_
        exact ⟨⟨F1, I1, hsn, hF, hW, hFl, hS, by omega, by omega⟩, by omega⟩
    · simp only [bls] at hi
      rw [show k.toNat = ks.length from by omega] at hb
      rw [hb]
      exact ⟨I1, rfl, hF, hS.weakU hs1⟩
theorem switchV_wf (hv : Wf N B v) (hW : WfF N B F) (hA : 0 ≤ nth c.args 0 ∧ nth c.args 0 < N) (ht : 0 ≤ (v.reg (nth c.args 0)).typ) (hks : ∀ n ∈ ks, 0 ≤ n ∧ n ≤ 15) (hj : ∀ k : Int, 0 ≤ k → k < ks.length → 0 ≤ nth c.jumps k ∧ nth c.jumps k < F.length) :
    ∀ (j : Nat) {F' : List (Option VwD)}, j ≤ ks.length → switchV c ks v j F = some F' → WfF N B F' ∧ F'.length = F.length := by
  intro j
  induction j with
  | zero => intro F' _ h; cases h; exact ⟨hW, rfl⟩
  | succ j ih =>
    intro F' hl h
    obtain ⟨F1, h1, h⟩ := Option.bind_eq_some_iff.1 h
    obtain ⟨w1, l1⟩ := ih (by omega) h1
    split at h
    · have hk := hks _ (nth_mem (l := ks) (i := j) (by omega) (by omega))
      have hjj := hj j (by omega) (by omega)
      obtain ⟨w2, l2⟩ := bringV_wf w1 (conV_wf hv hA.1 hA.2 (by omega) ht) hjj.1 (by omega) h
      exact ⟨w2, l2.trans l1⟩
    · cases h; exact ⟨w1, l1⟩
theorem leaveV_wf (hsg : sigSigs ds ss) (hok : instrOk ds ss N code.length i c) (h0 : 0 ≤ i) (h1 : i < code.length) (hlast : i = (code.length : Int) - 1 → c.op = 23 ∨ c.op = 24) (hv : Wf N B v) (hW : WfF N B F) (hl : F.length = code.length) (hsw : c.op = 21 → (v.reg (nth c.args 0)).typ = c.num) (h : leaveV ds c i v F = some F') : WfF N B F' ∧ F'.length = F.length := by
  unfold leaveV at h
  split at h
  · rename_i hq
    have hnsw := (numV_switch hq).1 hok.2.2.2.2.2.2.2.2.1
    have hcl := consL_sm (n := c.num) hsg.1
    have hal : argLo ds ss c.op c.num ≤ c.args.length := hok.2.2.2.2.2.2.2.2.2.1
    rw [(arg_1 (by omega)).1] at hal
    have hA : ∀ k : Int, 0 ≤ k → k < c.args.length → 0 ≤ nth c.args k ∧ nth c.args k < N := fun k k0 k1 => by
      have := List.all_eq_true.1 hok.2.1 _ (nth_mem k0 k1)
      unfold laterB at this
      simp only [Bool.and_eq_true, decide_eq_true_eq] at this
      omega
    refine switchV_wf hv hW (hA 0 (by omega) (by omega)) (by rw [hsw hq]; have := hcl.2 hnsw.1; omega) (consL_bd hsg.1) (fun k k0 k1 => ?_) _ (Nat.le_refl _) h
    have := List.all_eq_true.1 hok.2.2.2.2.2.2.2.1 _ (nth_mem (l := c.jumps) (i := k) k0 (by omega))
    unfold laterB at this
    simp only [Bool.and_eq_true, decide_eq_true_eq] at this
    omega
  · rename_i hq
    refine bringsV_wf hv hW (fun t ht => ?_) h
    rw [hl]
    exact nextV_bd hok h0 h1 hlast hq t ht
end
end Go.Vc

namespace Go.Vc
open Go Go.Proofs Go.RowKit
set_option linter.all false
instance : SlT Tryz.prog 88 1 8 [.pointer none] := .of (by kernel_rfl) rfl (by decide)
section
variable {u w : World} {v v' o : VwD} {a a1 : Addr} {r t n i e_ at_ f m rr : Int} {k k' : RegK} {x y z ax jx px lx cx : Sl} {I R L : Items} {N B B' : Nat} {ds : List DeclD} {ss : List SigD} {ps : List ProcD} {c : InstrD} {ts ks : List Int} {F F' : List (Option VwD)} {code : List InstrD} {p : ProcD}
theorem nth_replicate_none {k : Nat} : nth (List.replicate k (none : Option VwD)) i = none := by
  unfold nth List.getD
  rw [List.getElem?_replicate]
  split <;> rfl
theorem c_fillInts {v : World} (h0 : 0 ≤ n) (h1 : n ≤ 2000) (hm : InI m) : Mk Tryz.prog 68 #[.int .i64 n, .int .i64 m] v fun r J => ∃ z, r = z.val ∧ Own v z (List.replicate n.toNat m) J := by
  refine of68 _ _ _ _ ?_
  unfold vc68
  refine St.build (α := Int) (St.refl v) (by (repeat' (first | exact VsOf.nil | apply VsOf.cons | (apply VOf.int; first | assumption | (constructor <;> first | omega | (simp only [List.length_set, List.length_append, List.length_replicate, List.length_cons, List.length_nil, List.length_take, List.length_drop, List.length_map, List.length_singleton] at *; omega))) | exact VOf.bool | exact VOf.str))) rfl (by decide) ?_
  intro z0 w0 I0 hO0 hS hs
  refine ⟨_, rfl, ?_⟩
  refine ⟨fun z i w => ∃ J, Own v z (List.replicate i.toNat m) J ∧ St v w (J ++ []) ∧ 0 ≤ i ∧ i ≤ n, fun _ i _ => (n - i).toNat, ⟨I0, hO0, hS, by omega, by omega⟩, ?_⟩
  clear hO0 hS hs
  rintro z i w ⟨J, hO, hS, i0, i1⟩
  dsimp only
  refine ⟨fun hi => ?_, fun hi => ?_⟩
  · simp only [bls] at hi
    refine St.build (α := Int) hS (by (repeat' (first | exact VsOf.nil | apply VsOf.cons | (apply VOf.int; first | assumption | (constructor <;> first | omega | (simp only [List.length_set, List.length_append, List.length_replicate, List.length_cons, List.length_nil, List.length_take, List.length_drop, List.length_map, List.length_singleton] at *; omega))) | exact VOf.bool | exact VOf.str))) rfl (by decide) ?_
    intro x4 w4 I4 hO4 hS hs
    refine ⟨_, rfl, ?_⟩
    refine Own.append hO hS (hO4.src hS) (by simp; omega) (by decide) ?_
    intro x5 w5 I5 hO5 hS
    refine ⟨_, rfl, ?_⟩
    refine go_wr (by omega) (by omega) ?_
    refine ⟨⟨I5, ?_, hS.to, by omega, by omega⟩, by omega⟩
    rw [show (i + 1).toNat = i.toNat + 1 from by omega, List.replicate_succ']
    exact hO5
  · simp only [bls] at hi
    rw [show i.toNat = n.toNat from by omega] at hO
    exact ⟨J, by simpa using hS, z, rfl, hO⟩
/-- what is known at first, the first k parameters being set -/
def firstK (p : ProcD) (k : Nat) : VwD := ⟨(List.range p.regs.toNat).map fun i => if i < k then firstR p i else default, List.replicate p.regs.toNat (-1)⟩
theorem firstK_all : firstK p p.params.length = firstV p := by
  unfold firstK firstV
  congr 1
  refine List.map_congr_left fun i _ => ?_
  split
  · rfl
  · rename_i h
    unfold firstR
    rw [if_neg h]
    rfl
theorem firstK_zero {g : RegK → Int} : (firstK p 0).regs.map g = List.replicate p.regs.toNat (g default) := by
  unfold firstK
  simp [List.map_const']
theorem firstK_len {k : Nat} : (firstK p k).regs.length = p.regs.toNat := by unfold firstK; simp
theorem firstK_reg {k : Nat} {j : Int} (j0 : 0 ≤ j) (j1 : j < p.regs.toNat) : (firstK p k).reg j = if j < k then firstR p j.toNat else default := by
  refine nth_of ?_
  show ((List.range p.regs.toNat).map fun i => if i < k then firstR p i else default)[j.toNat]? = _
  rw [List.getElem?_map, List.getElem?_range (by omega)]
  show some (if j.toNat < k then firstR p j.toNat else default) = _
  by_cases h : j < k
  · rw [if_pos (by omega), if_pos h]
  · rw [if_neg (by omega), if_neg h]
theorem firstK_succ {j : Int} (j0 : 0 ≤ j) (j1 : j < p.regs.toNat) : firstK p (j + 1).toNat = (firstK p j.toNat).upd j (firstR p j.toNat) := by
  refine VwD.ext' (by rw [VwD.upd_len, firstK_len, firstK_len]) (fun i i0 i1 => ?_) rfl
  rw [firstK_len] at i1
  rw [VwD.upd_reg j0 (by rw [firstK_len]; omega) i i0, firstK_reg i0 i1, firstK_reg i0 i1]
  by_cases e : i = j
  · subst e; rw [if_pos (by omega), if_pos rfl]
  · rw [if_neg e]
    by_cases h : i < j
    · rw [if_pos (by omega), if_pos (by omega)]
    · rw [if_neg (by omega), if_neg (by omega)]
theorem c_firstView {v : World} (hpx : Read v px p.params) (hlx : Read v lx p.lent) (hpl : (p.params.length : Int) ≤ p.regs) (hpN : p.regs = N) (hNl : N ≤ 2000) (hpt : ∀ k : Int, 0 ≤ k → k < p.params.length → 0 ≤ nth p.params k ∧ nth p.params k ≤ 1000) :
    Mk Tryz.prog 45 #[.agg #[px.val, lx.val, .int .i64 rr, .int .i64 p.regs, cx.val]] v fun r J => ∃ a : Addr, r = .pointer (some (a.add 0)) ∧ Vst a (firstV p) J := by
  refine of45 _ _ _ _ _ _ _ ?_
  unfold vc45
  have hn := hpx.n
  rw [hn]
  have hm1 : InI (-1) := by constructor <;> omega
  refine Mk.use (c_fillInts (by omega) (by omega) hm1) (.refl v) ?_
  rintro _ w1 K1 ⟨z1, rfl, o1⟩ hS hs
  refine ⟨_, rfl, ?_⟩
  refine Mk.use (c_zeros (by omega) (by omega)) hS ?_
  rintro _ w2 K2 ⟨z2, rfl, o2⟩ hS hs
  refine ⟨_, rfl, ?_⟩
  refine Mk.use (c_fillInts (by omega) (by omega) hm1) hS ?_
  rintro _ w3 K3 ⟨z3, rfl, o3⟩ hS hs
  refine ⟨_, rfl, ?_⟩
  refine Mk.use (c_fillInts (by omega) (by omega) hm1) hS ?_
  rintro _ w4 K4 ⟨z4, rfl, o4⟩ hS hs
  refine ⟨_, rfl, ?_⟩
  refine Mk.use (c_fillInts (by omega) (by omega) hm1) hS ?_
  rintro _ w5 K5 ⟨z5, rfl, o5⟩ hS hs
  refine ⟨_, rfl, ?_⟩
  refine Mk.use (c_fillInts (by omega) (by omega) hm1) hS ?_
  rintro _ w6 K6 ⟨z6, rfl, o6⟩ hS hs
  refine ⟨_, rfl, ?_⟩
  refine Mk.use (c_zeros (by omega) (by omega)) hS ?_
  rintro _ w7 K7 ⟨z7, rfl, o7⟩ hS hs
  refine ⟨_, rfl, ?_⟩
  refine St.box (vals := [z1.val, z2.val, z3.val, z4.val, z5.val, z6.val, z7.val]) hS ?_
  intro a w8 I0 hC hS hs
  have hV : Vst a (firstK p 0) (I0 ++ (K1 ++ (K2 ++ (K3 ++ (K4 ++ (K5 ++ (K6 ++ K7))))))) :=
    ⟨z1, z2, z3, z4, z5, z6, z7, I0, K1, K2, K3, K4, K5, K6, K7, hC, by rw [firstK_zero]; exact o1.toI, by rw [firstK_zero]; exact o2.toI, by rw [firstK_zero]; exact o3.toI, by rw [firstK_zero]; exact o4.toI, by rw [firstK_zero]; exact o5.toI, o6.toI, by rw [firstK_zero]; exact o7.toI, rfl⟩
  have hS : St v w8 ((I0 ++ (K1 ++ (K2 ++ (K3 ++ (K4 ++ (K5 ++ (K6 ++ K7))))))) ++ []) := hS.perm (by
    classical
    exact List.perm_iff_count.2 fun a => by simp only [List.count_append, List.count_nil]; omega)
  refine ⟨fun k w' => ∃ I', Vst a (firstK p k.toNat) I' ∧ St v w' (I' ++ []) ∧ 0 ≤ k ∧ k ≤ p.params.length, fun k _ => (p.params.length - k).toNat, ⟨_, hV, hS, by omega, by omega⟩, ?_⟩
  clear hV hS hs o1 o2 o3 o4 o5 o6 o7 hC
  rintro k w ⟨I', hV, hS, k0, k1⟩
  dsimp only
  refine ⟨fun hi => ?_, fun hi => ?_⟩
  · simp only [bls] at hi
    have hlen : ((firstK p k.toNat).regs.length : Int) = N := by rw [firstK_len]; omega
    have hreg : (firstK p k.toNat).reg k = default := by rw [firstK_reg k0 (by omega), if_neg (by omega)]
    have hpk := hpt k k0 (by omega)
    obtain ⟨x1, e1, r1, st1⟩ := hV.so1 hS
    refine ⟨x1, e1, ?_⟩
    refine go_ix hpx k0 (by omega) ?_
    refine ld_int (hpx.mono hS.sub) k0 (by omega) fun _ _ => ?_
    refine go_col r1 k0 (by omega) ?_
    refine st1 k0 (by omega) (by constructor <;> omega) rfl ?_
    clear hV hS e1 r1 st1
    intro w1 I1 hV hS
    rw [hreg] at hV
    refine ⟨_, c_specIsIn (hlx.mono hS.sub), fun hq => ?_, fun hq => ?_⟩
    · obtain ⟨x7, e7, r7, st7⟩ := hV.so7 hS
      refine ⟨x7, e7, ?_⟩
      refine go_col r7 k0 (by rw [VwD.upd_len]; omega) ?_
      refine st7 (k := ⟨nth p.params k, 0, true, -1, -1, -1⟩) k0 (by rw [VwD.upd_len]; omega) (by rw [VwD.upd_self k0 (by omega)]; rfl) rfl ?_
      intro w2 I2 hV hS
      rw [VwD.upd_upd] at hV
      refine go_wr (by omega) (by omega) ?_
      repeat refine go_rf ?_
      refine ⟨⟨I2, ?_, hS, by omega, by omega⟩, by omega⟩
      rw [firstK_succ k0 (by omega)]
      have : firstR p k.toNat = ⟨nth p.params k, 0, true, -1, -1, -1⟩ := by
        unfold firstR
        rw [if_pos (by omega), show ((k.toNat : Nat) : Int) = k from by omega, any_mem, hq]
        rfl
      rw [this]; exact hV
    · refine go_ix hpx k0 (by omega) ?_
      refine ld_int (hpx.mono hS.sub) k0 (by omega) fun _ _ => ?_
      refine ⟨fun hd => ?_, fun hd => ?_⟩
      · simp only [bls] at hd
        obtain ⟨x2, e2, r2, st2⟩ := hV.so2 hS
        refine ⟨x2, e2, ?_⟩
        refine go_col r2 k0 (by rw [VwD.upd_len]; omega) ?_
        refine st2 k0 (by rw [VwD.upd_len]; omega) (by constructor <;> omega) rfl ?_
        intro w2 I2 hV hS
        rw [VwD.upd_upd, VwD.upd_self k0 (by omega)] at hV
        refine go_wr (by omega) (by omega) ?_
        repeat refine go_rf ?_
        refine ⟨⟨I2, ?_, hS, by omega, by omega⟩, by omega⟩
        rw [firstK_succ k0 (by omega)]
        have : firstR p k.toNat = ⟨nth p.params k, 1, false, -1, -1, -1⟩ := by
          unfold firstR
          rw [if_pos (by omega), show ((k.toNat : Nat) : Int) = k from by omega, any_mem, hq, if_neg (by decide), if_pos hd]
        rw [this]; exact hV
      · simp only [bls] at hd
        refine go_wr (by omega) (by omega) ?_
        repeat refine go_rf ?_
        refine ⟨⟨I1, ?_, hS, by omega, by omega⟩, by omega⟩
        rw [firstK_succ k0 (by omega)]
        have : firstR p k.toNat = ⟨nth p.params k, 0, false, -1, -1, -1⟩ := by
          unfold firstR
          rw [if_pos (by omega), show ((k.toNat : Nat) : Int) = k from by omega, any_mem, hq, if_neg (by decide), if_neg (by simpa using hd)]
        rw [this]; exact hV
  · simp only [bls] at hi
    rw [show k.toNat = p.params.length from by omega, firstK_all] at hV
    exact ⟨I', by simpa using hS, a, rfl, hV⟩
theorem firstV_wf (hN0 : 1 ≤ N) (hpN : p.regs = N) (hpt : ∀ k : Int, 0 ≤ k → k < p.params.length → 0 ≤ nth p.params k ∧ nth p.params k ≤ 1000) : Wf N 1 (firstV p) := by
  have hreg : ∀ j : Int, 0 ≤ j → j < N → (firstV p).reg j = if j < p.params.length then firstR p j.toNat else default := fun j j0 j1 => by
    rw [← firstK_all]; exact firstK_reg j0 (by omega)
  have hR : ∀ j : Int, 0 ≤ j → j < N → -1 ≤ ((firstV p).reg j).typ ∧ ((firstV p).reg j).typ ≤ 1000 ∧ 0 ≤ ((firstV p).reg j).own ∧ ((firstV p).reg j).own ≤ 1 ∧ ((firstV p).reg j).con = -1 ∧ ((firstV p).reg j).frm = -1 ∧ ((firstV p).reg j).field = -1 := by
    intro j j0 j1
    rw [hreg j j0 j1]
    split
    · rename_i h
      have := hpt j j0 h
      unfold firstR
      rw [if_pos (by omega), show ((j.toNat : Nat) : Int) = j from by omega]
      dsimp only
      refine ⟨by omega, by omega, ?_, ?_, rfl, rfl, rfl⟩
      · repeat' split
        all_goals omega
      · repeat' split
        all_goals omega
    · exact ⟨by decide, by decide, by decide, by decide, rfl, rfl, rfl⟩
  refine ⟨by rw [← firstK_all, firstK_len]; omega, by unfold firstV; simp; omega, fun j j0 j1 => ?_, fun j j0 j1 => ?_, fun j j0 j1 => ?_, fun j j0 j1 => ?_, fun j j0 j1 => ?_, fun k hk => ?_, fun _ => 0, fun j j0 j1 => ?_⟩
  · have := hR j j0 j1; omega
  · have := hR j j0 j1; omega
  · have := hR j j0 j1; exact ⟨by omega, fun _ => ⟨this.2.2.2.2.1, this.2.2.2.2.2.1, this.2.2.2.2.2.2⟩⟩
  · have := hR j j0 j1; omega
  · have := hR j j0 j1; omega
  · have := (List.mem_replicate.1 hk).2; omega
  · have := hR j j0 j1; intro hh; omega
theorem flowV_none {i j : Nat} {F : List (Option VwD)} (h : flowV ds ss p i F = none) (hij : i ≤ j) : flowV ds ss p j F = none := by
  induction j with
  | zero => rw [show i = 0 from by omega] at h; exact h
  | succ j ih =>
    rcases Nat.lt_or_ge i (j + 1) with h1 | h1
    · simp [flowV, ih (by omega)]
    · rw [show i = j + 1 from by omega] at h; exact h
theorem passV_sw (hop : c.op = 21) (h : passV ds ss rr c v = some v') : (v'.reg (nth c.args 0)).typ = c.num := by
  classical
  rw [show passV ds ss rr c v = if (v.reg (nth c.args 0)).typ = c.num ∧ Al v (nth c.args 0) then some v else none from by unfold passV; repeat (first | rw [if_neg (by omega)] | rw [if_pos (by omega)])] at h
  split at h
  · rename_i hk; cases h; exact hk.1
  · cases h
theorem c_verifyS {v : World} (h : CodD v x y cx ds ps N p.code) (hpx : Read v px p.params) (hlx : Read v lx p.lent) (hpl : (p.params.length : Int) ≤ p.regs) (hpN : p.regs = N) (hN0 : 1 ≤ N) (hcl0 : 1 ≤ p.code.length) (hrr : 0 ≤ p.result ∧ p.result ≤ 1000) (hpt : ∀ k : Int, 0 ≤ k → k < p.params.length → 0 ≤ nth p.params k ∧ nth p.params k ≤ 1000) :
    Mk Tryz.prog 26 #[.agg #[x.val, y.val], .agg #[px.val, lx.val, .int .i64 p.result, .int .i64 p.regs, cx.val]] v fun r J => ∃ (a : Addr) (q : Bool), r = .tuple #[.pointer (some (a.add 0)), .bool q] ∧ match verifyV ds (ps.map sigOf) p with
      | none => q = false
      | some F => q = true ∧ Fst a F J := by
  refine of26 _ _ _ _ _ _ _ _ _ ?_
  unfold vc26
  have hcn := h.hc.n
  have hcl := h.hl
  have hNl := h.hN
  refine ⟨?_, ?_⟩
  · rw [hcn]
    refine St.make (α := PV repS) (St.refl v) (a0 := ⟨none⟩) (by exact (rfl : [Value.pointer none] = _)) (by omega) (by omega) (by decide) ?_
    intro x1 w1 I1 hX hS hs
    refine ⟨_, rfl, hs, ?_⟩
    refine St.makeBools hS (by omega) (by omega) (by decide) ?_
    intro x2 w2 I2 hY hS hs
    refine ⟨_, rfl, hs, ?_⟩
    refine St.box (vals := [x1.val, x2.val]) hS ?_
    intro a w8 C hC hS hs
    have hF0 : Fst a (List.replicate p.code.length (none : Option VwD)) (C ++ (I1 ++ I2)) := ⟨x1, x2, C, I1, I2, hC, by simpa using PV.make hX, fun u => by simpa using (hY.ofBools : Own u _ _ _), rfl⟩
    have hS : St v w8 ((C ++ (I1 ++ I2)) ++ []) := hS.perm (by
      classical
      exact List.perm_iff_count.2 fun a => by simp only [List.count_append, List.count_nil]; omega)
    refine Mk.use (c_firstView hpx hlx hpl hpN hNl hpt) hS ?_
    rintro _ w9 J9 ⟨a1, rfl, hV⟩ hS hs2
    refine ⟨_, rfl, ?_⟩
    obtain ⟨u1, hs1, hS1, hJ⟩ := hS.freeze J9
    have h1 := h.mono hs1
    have hWf := firstV_wf (p := p) hN0 hpN hpt
    refine OpF.use (c_flow (N := N) (B := 1) (hV.rdA hJ.at_) hWf hF0 (fun i v hv => by
      have : nth (List.replicate p.code.length (none : Option VwD)) i = none := nth_replicate_none
      rw [this] at hv; cases hv) hS1 (Int.le_refl 0) (by simp; omega)) (fun hn w' hs => ?_) (fun F I w' hn hF hS => ?_)
    · exfalso
      unfold bringV at hn
      rw [show nth (List.replicate p.code.length (none : Option VwD)) 0 = none from nth_replicate_none] at hn
      cases hn
    have hF : Fst a (start0 p) I := by
      unfold bringV at hn
      rw [show nth (List.replicate p.code.length (none : Option VwD)) 0 = none from nth_replicate_none] at hn
      cases hn
      exact hF
    have hW0 : WfF N 1 (start0 p) := by
      unfold start0
      exact WfF.set (i := 0) (fun i v hv => by
        have : nth (List.replicate p.code.length (none : Option VwD)) i = none := nth_replicate_none
        rw [this] at hv; cases hv) hWf (Int.le_refl 0) (by simp; omega)
    refine ⟨true, rfl, ?_⟩
    refine ⟨fun k w' => ∃ F' I', flowV ds (ps.map sigOf) p k.toNat (start0 p) = some F' ∧ Fst a F' I' ∧ WfF N (3 * k.toNat + 1) F' ∧ F'.length = p.code.length ∧ St u1 w' (I' ++ []) ∧ 0 ≤ k ∧ k ≤ p.code.length, fun k _ => (p.code.length - k).toNat, ⟨start0 p, I, rfl, hF, hW0, by unfold start0; simp, hS, by omega, by omega⟩, ?_⟩
    clear hF0 hS hS1 hn hF hs hs2
    rintro k w ⟨F1, I1, hb, hF, hW, hFl, hS, k0, k1⟩
    dsimp only
    refine ⟨fun hi => ?_, fun hi => ?_⟩
    · simp only [bls] at hi
      obtain ⟨xx, yy, K0, K1, K2, hC, hXX, hYY, rfl⟩ := hF
      have hS' : St u1 w (K0 ++ (K1 ++ (K2 ++ []))) := by simpa [List.append_assoc] using hS
      have hYr := (hYY u1).read hS'
      refine ⟨yy, hC.load hS' rfl, ?_⟩
      refine go_ix hYr k0 (by simp; omega) ?_
      refine ld_bool hYr k0 (by simp; omega) ?_
      rw [nth_some]
      have hsn : flowV ds (ps.map sigOf) p (k + 1).toNat (start0 p) = (match nth F1 k with
        | none => some F1
        | some v => (passV ds (ps.map sigOf) p.result (nth p.code k) v).bind fun v' => leaveV ds (nth p.code k) k v' F1) := by
        rw [show (k + 1).toNat = k.toNat + 1 from by omega]
        unfold flowV
        rw [hb, Option.bind_some, show ((k.toNat : Nat) : Int) = k from by omega]
        cases nth F1 k <;> rfl
      cases hn : nth F1 k with
      | none =>
        rw [hn] at hsn
        refine ⟨fun hq => by simp at hq, fun _ => ?_⟩
        refine go_wr (by omega) (by omega) ?_
        repeat refine go_rf ?_
        exact ⟨⟨F1, _, hsn, ⟨xx, yy, K0, K1, K2, hC, hXX, hYY, rfl⟩, hW.mono (by omega), hFl, hS, by omega, by omega⟩, by omega⟩
      | some v0 =>
        rw [hn] at hsn
        dsimp only at hsn
        refine ⟨fun _ => ?_, fun hq => by simp at hq⟩
        refine ⟨xx, hC.load hS' rfl, hXX.ix k0 (by simp; omega), ?_⟩
        obtain ⟨a0, Kx, Rest, q1, q2, q3, q4⟩ := PV.borrow hXX k0 (by omega) hn
        have hS2 : St u1 w (Kx ++ (Rest ++ (K0 ++ (K2 ++ [])))) := hS'.perm (by
          classical
          exact List.perm_iff_count.2 fun a => by have := q2.count_eq a; simp only [List.count_append] at *; omega)
        refine ⟨⟨_, rfl⟩, q3 w (hS2.right.left).at_, ?_⟩
        have hw0 := hW k v0 hn
        refine Mk.usew (c_copied (Vst.rdA q1 hS2.left.at_)) hS ?_
        rintro _ w2 J2 ⟨a2, rfl, hV2⟩ hS hs3
        refine ⟨_, rfl, ?_⟩
        obtain ⟨ax, jx, hI, g1, g2, g3, g4, g5, g6⟩ := h1.atI hS.sub k0 (by omega)
        refine go_ix h1.hc k0 (by omega) ?_
        refine ⟨_, _, _, _, ax, jx, ⟨g1, g2, g3, g4, g5, g6⟩, ?_⟩
        have hF : Fst a F1 (K0 ++ (K1 ++ K2)) := ⟨xx, yy, K0, K1, K2, hC, hXX, hYY, rfl⟩
        refine OpR.use (c_vPass (px := px) (lx := lx) (n1 := p.regs) (cx := cx) hrr hI hV2 hS hw0 (by omega)) (fun hm w' hs => ?_) (fun v' I' w' hm hV hS => ?_)
        · refine ⟨false, rfl, (fun h => by cases h), fun _ => ?_⟩
          have : flowV ds (ps.map sigOf) p p.code.length (start0 p) = none := flowV_none (i := (k + 1).toNat) (by rw [hsn, hm]; rfl) (by omega)
          exact ⟨[], ⟨hs1.trans hs, by simp, by simp, by simp [AtAll]⟩, a, false, rfl, by unfold verifyV; rw [this]⟩
        refine ⟨true, rfl, fun _ => ?_, fun h => by cases h⟩
        have hw1 := passV_wf hI.P hrr hw0 (by omega) hm
        rw [hm, Option.bind_some] at hsn
        obtain ⟨u2, hs4, hS4, hJ4⟩ := hS.freeze I'
        have hsw : (nth p.code k).op = 21 → (v'.reg (nth (nth p.code k).args 0)).typ = (nth p.code k).num := fun hop => passV_sw hop hm
        refine OpF.use (c_leave (h1.mono hs4) k0 (by omega) (hV.rdA hJ4.at_) hw1 hF (hW.mono (by omega)) hFl hS4 hsw) (fun hm w' hs => ?_) (fun F2 I2 w' hm2 hF hS => ?_)
        · refine ⟨false, rfl, fun _ => ?_, fun h => by cases h⟩
          have : flowV ds (ps.map sigOf) p p.code.length (start0 p) = none := flowV_none (i := (k + 1).toNat) (by rw [hsn, hm]) (by omega)
          exact ⟨[], ⟨(hs1.trans hs4).trans hs, by simp, by simp, by simp [AtAll]⟩, a, false, rfl, by unfold verifyV; rw [this]⟩
        · refine ⟨true, rfl, (fun h => by cases h), fun _ => ?_⟩
          obtain ⟨hW2, hl2⟩ := leaveV_wf h.sg (h.ok k k0 (by omega)) k0 (by omega) (fun e => by rw [e]; exact h.last) hw1 (hW.mono (by omega)) hFl hsw hm2
          refine go_wr (by omega) (by omega) ?_
          repeat refine go_rf ?_
          exact ⟨⟨F2, I2, hsn.trans hm2, hF, hW2.mono (by omega), by omega, hS.weakU hs4, by omega, by omega⟩, by omega⟩
    · simp only [bls] at hi
      rw [show k.toNat = p.code.length from by omega] at hb
      exact ⟨I1, by simpa using hS.weakU hs1, a, true, rfl, by unfold verifyV; rw [hb]; exact ⟨rfl, hF⟩⟩
  · rw [hcn]
    refine St.makeBools (St.refl v) (by omega) (by omega) (by decide) ?_
    intro x2 w2 I2 hY hS hs
    refine ⟨_, rfl, hs, ?_⟩
    refine St.make (α := PV repS) hS (a0 := ⟨none⟩) (by exact (rfl : [Value.pointer none] = _)) (by omega) (by omega) (by decide) ?_
    intro x1 w1 I1 hX hS hs
    refine ⟨_, rfl, hs, ?_⟩
    refine St.box (vals := [x1.val, x2.val]) hS ?_
    intro a w8 C hC hS hs
    have hF0 : Fst a (List.replicate p.code.length (none : Option VwD)) (C ++ (I1 ++ I2)) := ⟨x1, x2, C, I1, I2, hC, by simpa using PV.make hX, fun u => by simpa using (hY.ofBools : Own u _ _ _), rfl⟩
    have hS : St v w8 ((C ++ (I1 ++ I2)) ++ []) := hS.perm (by
      classical
      exact List.perm_iff_count.2 fun a => by simp only [List.count_append, List.count_nil]; omega)
    refine Mk.use (c_firstView hpx hlx hpl hpN hNl hpt) hS ?_
    rintro _ w9 J9 ⟨a1, rfl, hV⟩ hS hs2
    refine ⟨_, rfl, ?_⟩
    obtain ⟨u1, hs1, hS1, hJ⟩ := hS.freeze J9
    have h1 := h.mono hs1
    have hWf := firstV_wf (p := p) hN0 hpN hpt
    refine OpF.use (c_flow (N := N) (B := 1) (hV.rdA hJ.at_) hWf hF0 (fun i v hv => by
      have : nth (List.replicate p.code.length (none : Option VwD)) i = none := nth_replicate_none
      rw [this] at hv; cases hv) hS1 (Int.le_refl 0) (by simp; omega)) (fun hn w' hs => ?_) (fun F I w' hn hF hS => ?_)
    · exfalso
      unfold bringV at hn
      rw [show nth (List.replicate p.code.length (none : Option VwD)) 0 = none from nth_replicate_none] at hn
      cases hn
    have hF : Fst a (start0 p) I := by
      unfold bringV at hn
      rw [show nth (List.replicate p.code.length (none : Option VwD)) 0 = none from nth_replicate_none] at hn
      cases hn
      exact hF
    have hW0 : WfF N 1 (start0 p) := by
      unfold start0
      exact WfF.set (i := 0) (fun i v hv => by
        have : nth (List.replicate p.code.length (none : Option VwD)) i = none := nth_replicate_none
        rw [this] at hv; cases hv) hWf (Int.le_refl 0) (by simp; omega)
    refine ⟨true, rfl, ?_⟩
    refine ⟨fun k w' => ∃ F' I', flowV ds (ps.map sigOf) p k.toNat (start0 p) = some F' ∧ Fst a F' I' ∧ WfF N (3 * k.toNat + 1) F' ∧ F'.length = p.code.length ∧ St u1 w' (I' ++ []) ∧ 0 ≤ k ∧ k ≤ p.code.length, fun k _ => (p.code.length - k).toNat, ⟨start0 p, I, rfl, hF, hW0, by unfold start0; simp, hS, by omega, by omega⟩, ?_⟩
    clear hF0 hS hS1 hn hF hs hs2
    rintro k w ⟨F1, I1, hb, hF, hW, hFl, hS, k0, k1⟩
    dsimp only
    refine ⟨fun hi => ?_, fun hi => ?_⟩
    · simp only [bls] at hi
      obtain ⟨xx, yy, K0, K1, K2, hC, hXX, hYY, rfl⟩ := hF
      have hS' : St u1 w (K0 ++ (K1 ++ (K2 ++ []))) := by simpa [List.append_assoc] using hS
      have hYr := (hYY u1).read hS'
      refine ⟨yy, hC.load hS' rfl, ?_⟩
      refine go_ix hYr k0 (by simp; omega) ?_
      refine ld_bool hYr k0 (by simp; omega) ?_
      rw [nth_some]
      have hsn : flowV ds (ps.map sigOf) p (k + 1).toNat (start0 p) = (match nth F1 k with
        | none => some F1
        | some v => (passV ds (ps.map sigOf) p.result (nth p.code k) v).bind fun v' => leaveV ds (nth p.code k) k v' F1) := by
        rw [show (k + 1).toNat = k.toNat + 1 from by omega]
        unfold flowV
        rw [hb, Option.bind_some, show ((k.toNat : Nat) : Int) = k from by omega]
        cases nth F1 k <;> rfl
      cases hn : nth F1 k with
      | none =>
        rw [hn] at hsn
        refine ⟨fun hq => by simp at hq, fun _ => ?_⟩
        refine go_wr (by omega) (by omega) ?_
        repeat refine go_rf ?_
        exact ⟨⟨F1, _, hsn, ⟨xx, yy, K0, K1, K2, hC, hXX, hYY, rfl⟩, hW.mono (by omega), hFl, hS, by omega, by omega⟩, by omega⟩
      | some v0 =>
        rw [hn] at hsn
        dsimp only at hsn
        refine ⟨fun _ => ?_, fun hq => by simp at hq⟩
        refine ⟨xx, hC.load hS' rfl, hXX.ix k0 (by simp; omega), ?_⟩
        obtain ⟨a0, Kx, Rest, q1, q2, q3, q4⟩ := PV.borrow hXX k0 (by omega) hn
        have hS2 : St u1 w (Kx ++ (Rest ++ (K0 ++ (K2 ++ [])))) := hS'.perm (by
          classical
          exact List.perm_iff_count.2 fun a => by have := q2.count_eq a; simp only [List.count_append] at *; omega)
        refine ⟨⟨_, rfl⟩, q3 w (hS2.right.left).at_, ?_⟩
        have hw0 := hW k v0 hn
        refine Mk.usew (c_copied (Vst.rdA q1 hS2.left.at_)) hS ?_
        rintro _ w2 J2 ⟨a2, rfl, hV2⟩ hS hs3
        refine ⟨_, rfl, ?_⟩
        obtain ⟨ax, jx, hI, g1, g2, g3, g4, g5, g6⟩ := h1.atI hS.sub k0 (by omega)
        refine go_ix h1.hc k0 (by omega) ?_
        refine ⟨_, _, _, _, ax, jx, ⟨g1, g2, g3, g4, g5, g6⟩, ?_⟩
        have hF : Fst a F1 (K0 ++ (K1 ++ K2)) := ⟨xx, yy, K0, K1, K2, hC, hXX, hYY, rfl⟩
        refine OpR.use (c_vPass (px := px) (lx := lx) (n1 := p.regs) (cx := cx) hrr hI hV2 hS hw0 (by omega)) (fun hm w' hs => ?_) (fun v' I' w' hm hV hS => ?_)
        · refine ⟨false, rfl, (fun h => by cases h), fun _ => ?_⟩
          have : flowV ds (ps.map sigOf) p p.code.length (start0 p) = none := flowV_none (i := (k + 1).toNat) (by rw [hsn, hm]; rfl) (by omega)
          exact ⟨[], ⟨hs1.trans hs, by simp, by simp, by simp [AtAll]⟩, a, false, rfl, by unfold verifyV; rw [this]⟩
        refine ⟨true, rfl, fun _ => ?_, fun h => by cases h⟩
        have hw1 := passV_wf hI.P hrr hw0 (by omega) hm
        rw [hm, Option.bind_some] at hsn
        obtain ⟨u2, hs4, hS4, hJ4⟩ := hS.freeze I'
        have hsw : (nth p.code k).op = 21 → (v'.reg (nth (nth p.code k).args 0)).typ = (nth p.code k).num := fun hop => passV_sw hop hm
        refine OpF.use (c_leave (h1.mono hs4) k0 (by omega) (hV.rdA hJ4.at_) hw1 hF (hW.mono (by omega)) hFl hS4 hsw) (fun hm w' hs => ?_) (fun F2 I2 w' hm2 hF hS => ?_)
        · refine ⟨false, rfl, fun _ => ?_, fun h => by cases h⟩
          have : flowV ds (ps.map sigOf) p p.code.length (start0 p) = none := flowV_none (i := (k + 1).toNat) (by rw [hsn, hm]) (by omega)
          exact ⟨[], ⟨(hs1.trans hs4).trans hs, by simp, by simp, by simp [AtAll]⟩, a, false, rfl, by unfold verifyV; rw [this]⟩
        · refine ⟨true, rfl, (fun h => by cases h), fun _ => ?_⟩
          obtain ⟨hW2, hl2⟩ := leaveV_wf h.sg (h.ok k k0 (by omega)) k0 (by omega) (fun e => by rw [e]; exact h.last) hw1 (hW.mono (by omega)) hFl hsw hm2
          refine go_wr (by omega) (by omega) ?_
          repeat refine go_rf ?_
          exact ⟨⟨F2, I2, hsn.trans hm2, hF, hW2.mono (by omega), by omega, hS.weakU hs4, by omega, by omega⟩, by omega⟩
    · simp only [bls] at hi
      rw [show k.toNat = p.code.length from by omega] at hb
      exact ⟨I1, by simpa using hS.weakU hs1, a, true, rfl, by unfold verifyV; rw [hb]; exact ⟨rfl, hF⟩⟩
end
end Go.Vc
