/- Part of the proofs about the heaps and memories: a law is joined in the text whose name ends in W and the law. -/
import Derived.Test.YtlcegaeioheikaaEV1
namespace Go.Vc
open Go Go.Proofs Go.RowKit
set_option linter.all false
/-- how what is known lies in memory -/
structure Rep where
 st : Addr → VwD → Items → Prop
 rd : World → Addr → VwD → Prop
 mono : ∀ {w w2 : World} {a : Addr} {v : VwD}, Sub w w2 → rd w a v → rd w2 a v
 get : ∀ {w : World} {a : Addr} {v : VwD} {I : Items}, st a v I → AtAll w I → rd w a v
/-- a pointer to what is known, or nil -/
structure PV (ρ : Rep) where
 o : Option VwD
instance {ρ : Rep} : Inhabited (PV ρ) := ⟨⟨none⟩⟩
def PV.cells (ρ : Rep) (w : World) (cs : List Value) : Option VwD → Prop
 | none => cs = [.pointer none]
 | some v => ∃ a : Addr, cs = [.pointer (some (a.add 0))] ∧ ρ.rd w a v
def PV.ownC (ρ : Rep) (cs : List Value) (K : Items) : Option VwD → Prop
 | none => cs = [.pointer none] ∧ K = []
 | some v => ∃ a : Addr, cs = [.pointer (some (a.add 0))] ∧ ρ.st a v K
instance {ρ : Rep} : Dat (PV ρ) where
 sz := 1
 cells _ w cs s := PV.cells ρ w cs s.o
 mono := fun {B u w cs s} hs h => by
  unfold PV.cells at *
  split at h
  ·exact h
  ·obtain ⟨a, h1, h2⟩ := h; exact ⟨a, h1, ρ.mono hs h2⟩
 len := fun {B w cs s} h => by
  unfold PV.cells at h
  split at h
  ·rw [h]; rfl
  ·obtain ⟨a, h1, h2⟩ := h; rw [h1]; rfl
 one := fun {B w cs s} h v hv => by
  unfold PV.cells at h
  split at h
  ·rw [h] at hv; simp at hv; subst hv; rfl
  ·obtain ⟨a, h1, h2⟩ := h; rw [h1] at hv; simp at hv; subst hv; rfl
instance {ρ : Rep} : DatO (PV ρ) where
 own cs s K := PV.ownC ρ cs K s.o
 read := by
  intro w cs s I h hA
  show PV.cells ρ w cs s.o
  unfold PV.cells
  unfold PV.ownC at h
  split
  ·rename_i e; rw [e] at h; exact h.1
  ·rename_i v e; rw [e] at h; obtain ⟨a, h1, h2⟩ := h; exact ⟨a, h1, ρ.get h2 hA⟩
section
variable {ρ : Rep} {u w : World} {v v' o : VwD} {a a1 : Addr} {r t n i : Int} {x y z : Sl} {I J R L : Items} {N B B' : Nat} {F F' : List (Option VwD)}
theorem nth_PV (i : Int) : nth (F.map PV.mk : List (PV ρ)) i = ⟨nth F i⟩ := by
 unfold nth List.getD
 rw [List.getElem?_map]
 cases F[i.toNat]? <;> rfl
theorem PV.put (h : OwnD x (F.map PV.mk : List (PV ρ)) I) (hS : St u w (I ++ (J ++ R))) (h0 : 0 ≤ i) (h1 : i < F.length) (hv : ρ.st a v J) {Kt : World → Prop}
  (k : ∀ w' I', OwnD x ((F.set i.toNat (some v)).map PV.mk : List (PV ρ)) I' → St u w' (I' ++ R) → Kt w') : StoreAt w (elA x i 1) 0 [.pointer (some (a.add 0))] Kt := by
 refine h.store (off := 0) (vals := [.pointer (some (a.add 0))]) hS h0 (by simpa using h1) (⟨some v⟩ : PV ρ) J (by exact Nat.le_refl 1) ?_ ?_
 ·intro r K hr
  refine ⟨J, ?_, .inl rfl⟩
  rw [nth_PV] at hr
  have hl : ∃ q, r = [q] := by
   have hr : PV.ownC ρ r K (nth F i) := hr
   unfold PV.ownC at hr
   split at hr
   ·exact ⟨_, hr.1⟩
   ·obtain ⟨a, h1, _⟩ := hr; exact ⟨_, h1⟩
  obtain ⟨q, rfl⟩ := hl
  exact ⟨a, rfl, hv⟩
 ·intro w' I' hO hS
  rw [← List.map_set] at hO
  exact k w' (I' ++ J) hO (by simpa using hS)
theorem PV.make (h : Own u x (List.replicate n.toNat (⟨none⟩ : PV ρ)) I) : OwnD x ((List.replicate n.toNat (none : Option VwD)).map PV.mk : List (PV ρ)) I := by
 obtain ⟨rows, k1, k2, k3⟩ := h
 have hl : rows.length = n.toNat := by rw [k2.1]; simp
 refine ⟨rows, I, List.replicate n.toNat [], [], k1, by simp [hl], by simp, fun j r s K hr hs hK => ?_, by simp, by simpa using k3⟩
 rw [List.map_replicate] at hs
 have hs' : s = ⟨none⟩ := (List.mem_replicate.1 (List.mem_of_getElem? hs)).2
 have hK' : K = [] := (List.mem_replicate.1 (List.mem_of_getElem? hK)).2
 subst hs' hK'
 have := k2.2 j r _ hr hs
 exact ⟨this, rfl⟩
end
theorem OwnI.readA {w : World} {x : Sl} {l : List Int} {I : Items} (h : OwnI x l I) (hA : AtAll w I) : Read w x l := by
 obtain ⟨rows, k1, k2, k3⟩ := h w
 exact ⟨rows, k1.rd hA, k2, k3⟩
theorem Cel.loadA {w : World} {a : Addr} {vals : List Value} {I : Items} (h : Cel a vals I) (hA : AtAll w I) {k : Nat} {v : Value} (hv : vals[k]? = some v) : w.cell? (a.add k) = some v := by
 obtain ⟨g, e, rfl, rfl⟩ := h
 rw [cell_blk (hA (g, .cells vals.toArray e (0, 0)) (by simp)).1 rfl]
 simpa using hv
theorem Vst.rdA {w : World} {a : Addr} {v : VwD} {I : Items} (h : Vst a v I) (hA : AtAll w I) : VRd w a v := by
 obtain ⟨x1, x2, x3, x4, x5, x6, x7, I0, J1, J2, J3, J4, J5, J6, J7, hC, o1, o2, o3, o4, o5, o6, o7, rfl⟩ := h
 have hA : ∀ p, p ∈ I0 ∨ p ∈ J1 ∨ p ∈ J2 ∨ p ∈ J3 ∨ p ∈ J4 ∨ p ∈ J5 ∨ p ∈ J6 ∨ p ∈ J7 → w.heap[p.1]? = some p.2 ∧ p.2 ≠ absent := fun p hp => hA p (by simpa using hp)
 have hC' : AtAll w I0 := fun p hp => hA p (by simp [hp])
 exact ⟨x1, x2, x3, x4, x5, x6, x7, ⟨hC.loadA hC' rfl, o1.readA fun p hp => hA p (by simp [hp])⟩, ⟨hC.loadA hC' rfl, o2.readA fun p hp => hA p (by simp [hp])⟩, ⟨hC.loadA hC' rfl, o3.readA fun p hp => hA p (by simp [hp])⟩, ⟨hC.loadA hC' rfl, o4.readA fun p hp => hA p (by simp [hp])⟩,
  ⟨hC.loadA hC' rfl, o5.readA fun p hp => hA p (by simp [hp])⟩, ⟨hC.loadA hC' rfl, o6.readA fun p hp => hA p (by simp [hp])⟩, ⟨hC.loadA hC' rfl, o7.readA fun p hp => hA p (by simp [hp])⟩⟩
def repS : Rep := ⟨Vst, VRd, fun hs h => h.mono hs, fun h hA => h.rdA hA⟩
/-- the reference's flows, in memory -/
def Fst (a : Addr) (F : List (Option VwD)) (I : Items) : Prop := ∃ (x y : Sl) (I0 I1 I2 : Items), Cel a [x.val, y.val] I0 ∧ OwnD x (F.map PV.mk : List (PV repS)) I1 ∧ (∀ u, Own u y (F.map Option.isSome) I2) ∧ I = I0 ++ (I1 ++ I2)
def OpF (u : World) (R : Items) (a : Addr) : Option (List (Option VwD)) → Value → World → Prop
 | none, r, w => r = .bool false ∧ Sub u w
 | some F, r, w => ∃ I, r = .bool true ∧ Fst a F I ∧ St u w (I ++ R)
theorem OpF.use {u : World} {R : Items} {a : Addr} {P : Program} {f : FuncId} {args : Array Value} {w : World} {o : Option (List (Option VwD))} {K : Value → World → Prop} (h : Trip P f args w (OpF u R a o))
  (k1 : o = none → ∀ w', Sub u w' → K (.bool false) w') (k2 : ∀ F I w', o = some F → Fst a F I → St u w' (I ++ R) → K (.bool true) w') : Trip P f args w K := by
 refine h.mono' fun r w' hr => ?_
 cases o with
 | none => obtain ⟨rfl, hs⟩ := hr; exact k1 rfl _ hs
 | some v' => obtain ⟨I, rfl, hV, hS⟩ := hr; exact k2 _ _ _ rfl hV hS
section
variable {u w : World} {v v' o : VwD} {a a1 : Addr} {r t n i e_ at_ f m rr : Int} {k k' : RegK} {x y z ax jx px lx cx : Sl} {I R L : Items} {N B B' : Nat} {ds : List DeclD} {ss : List SigD} {ps : List ProcD} {c : InstrD} {ts : List Int} {F F' : List (Option VwD)} {code : List InstrD}
end
end Go.Vc

namespace Go.Vc
open Go Go.Proofs Go.RowKit
set_option linter.all false
section
variable {u w : World} {v v' o : VwD} {a a1 : Addr} {r t n i e_ at_ f m rr : Int} {k k' : RegK} {x y z ax jx px lx cx : Sl} {I R L : Items} {N B B' : Nat} {ds : List DeclD} {ss : List SigD} {ps : List ProcD} {c : InstrD} {ts : List Int} {F F' : List (Option VwD)} {code : List InstrD}
/-- the code of a valid procedure -/
structure CodD (u : World) (x y cx : Sl) (ds : List DeclD) (ps : List ProcD) (N : Nat) (code : List InstrD) : Prop where
 hx : Read u x ds
 hy : Read u y ps
 hc : Read u cx code
 sg : sigSigs ds (ps.map sigOf)
 hN : N ≤ 2000
 hl : code.length ≤ 2000
 last : (nth code ((code.length : Int) - 1)).op = 23 ∨ (nth code ((code.length : Int) - 1)).op = 24
 ok : ∀ i : Int, 0 ≤ i → i < code.length → instrOk ds (ps.map sigOf) N code.length i (nth code i)
theorem CodD.mono {u' : World} (h : CodD u x y cx ds ps N code) (hs : Sub u u') : CodD u' x y cx ds ps N code := ⟨h.hx.mono hs, h.hy.mono hs, h.hc.mono hs, h.sg, h.hN, h.hl, h.last, h.ok⟩
end
end Go.Vc

namespace Go.Vc
open Go Go.Proofs Go.RowKit
set_option linter.all false
section
variable {u w : World} {v v' o : VwD} {a a1 : Addr} {r t n i e_ at_ f m rr : Int} {k k' : RegK} {x y z ax jx px lx cx : Sl} {I R L : Items} {N B B' : Nat} {ds : List DeclD} {ss : List SigD} {ps : List ProcD} {c : InstrD} {ts ks : List Int} {F F' : List (Option VwD)} {code : List InstrD}
end
end Go.Vc

namespace Go.Vc
open Go Go.Proofs Go.RowKit
set_option linter.all false
section
variable {u w : World} {v v' o : VwD} {a a1 : Addr} {r t n i e_ at_ f m rr : Int} {k k' : RegK} {x y z ax jx px lx cx : Sl} {I R L : Items} {N B B' : Nat} {ds : List DeclD} {ss : List SigD} {ps : List ProcD} {c : InstrD} {ts ks : List Int} {F F' : List (Option VwD)} {code : List InstrD} {p : ProcD}
end
end Go.Vc

namespace Go.Vc
open Go Go.Proofs Go.RowKit
set_option linter.all false
instance : Dat RegK where
 sz := 6
 cells _ _ cs r := cs = [intV r.typ, intV r.own, .bool r.lent, intV r.con, intV r.frm, intV r.field] ∧ InI r.typ ∧ InI r.own ∧ InI r.con ∧ InI r.frm ∧ InI r.field
 mono := fun _ h => h
 len := fun h => by rw [h.1]; rfl
 one := fun h v hv => by
  have hv := h.1 ▸ hv
  simp only [List.mem_cons, List.not_mem_nil, or_false] at hv
  rcases hv with rfl | rfl | rfl | rfl | rfl | rfl <;> rfl
/-- what the program knows, in memory -/
def KstX (a : Addr) (x y : Sl) (v : VwD) (I : Items) : Prop := ∃ (I0 I1 I2 : Items), Cel a [x.val, y.val] I0 ∧ (∀ u, Own u x v.regs I1) ∧ OwnI y v.kept I2 ∧ I = I0 ++ (I1 ++ I2)
def Kst (a : Addr) (v : VwD) (I : Items) : Prop := ∃ x y, KstX a x y v I
def KRd (w : World) (a : Addr) (v : VwD) : Prop := ∃ (x y : Sl), w.cell? (a.add 0) = some x.val ∧ w.cell? (a.add 1) = some y.val ∧ Read w x v.regs ∧ Read w y v.kept
theorem KRd.mono {w w2 : World} {a : Addr} {v : VwD} (h : KRd w a v) (hs : Sub w w2) : KRd w2 a v := let ⟨x, y, h1, h2, h3, h4⟩ := h; ⟨x, y, cell_sub hs h1, cell_sub hs h2, h3.mono hs, h4.mono hs⟩
theorem Kst.rdA {w : World} {a : Addr} {v : VwD} {I : Items} (h : Kst a v I) (hA : AtAll w I) : KRd w a v := by
 obtain ⟨x, y, I0, I1, I2, hC, o1, o2, rfl⟩ := h
 have hA : ∀ p, p ∈ I0 ∨ p ∈ I1 ∨ p ∈ I2 → w.heap[p.1]? = some p.2 ∧ p.2 ≠ absent := fun p hp => hA p (by simpa using hp)
 have hC' : AtAll w I0 := fun p hp => hA p (by simp [hp])
 refine ⟨x, y, hC.loadA hC' rfl, hC.loadA hC' rfl, ?_, o2.readA fun p hp => hA p (by simp [hp])⟩
 obtain ⟨rows, k1, k2, k3⟩ := o1 w
 exact ⟨rows, k1.rd fun p hp => hA p (by simp [hp]), k2, k3⟩
/-- the end of a function that changes what is known -/
def OpK (u : World) (R : Items) (a : Addr) : Option VwD → Value → World → Prop
 | none, r, w => r = .bool false ∧ Sub u w
 | some v, r, w => ∃ I, r = .bool true ∧ Kst a v I ∧ St u w (I ++ R)
theorem OpK.use {u : World} {R : Items} {a : Addr} {P : Program} {f : FuncId} {args : Array Value} {w : World} {o : Option VwD} {K : Value → World → Prop} (h : Trip P f args w (OpK u R a o))
  (k1 : o = none → ∀ w', Sub u w' → K (.bool false) w') (k2 : ∀ v' I w', o = some v' → Kst a v' I → St u w' (I ++ R) → K (.bool true) w') : Trip P f args w K := by
 refine h.mono' fun r w' hr => ?_
 cases o with
 | none => obtain ⟨rfl, hs⟩ := hr; exact k1 rfl _ hs
 | some v' => obtain ⟨I, rfl, hV, hS⟩ := hr; exact k2 _ _ _ rfl hV hS
theorem OpK.ret {P : Program} {f : FuncId} {args : Array Value} {u w : World} {R : Items} {a : Addr} {o : Option VwD} (h : Trip P f args w (OpK u R a o)) : Trip P f args w fun r w' => ∃ q : Bool, r = .bool q ∧ OpK u R a o (.bool q) w' := by
 refine OpK.use h (fun hn w' hs => ?_) (fun v' I' w' hn hV hS => ?_)
 ·subst hn; exact ⟨false, rfl, rfl, hs⟩
 ·subst hn; exact ⟨true, rfl, I', rfl, hV, hS⟩
theorem OpK.bind {P : Program} {f f2 : FuncId} {args args2 : Array Value} {u w : World} {R : Items} {a : Addr} {o : Option VwD} {g : VwD → Option VwD} (h : Trip P f args w (OpK u R a o))
  (k : ∀ v' I w', o = some v' → Kst a v' I → St u w' (I ++ R) → Trip P f2 args2 w' (OpK u R a (g v'))) :
  Trip P f args w fun r w' => ∃ q : Bool, r = .bool q ∧ (q = true → Trip P f2 args2 w' fun r1 w2 => ∃ q : Bool, r1 = .bool q ∧ OpK u R a (o.bind g) (.bool q) w2) ∧ (q = false → OpK u R a (o.bind g) (.bool false) w') := by
 refine OpK.use h (fun hn w' hs => ?_) (fun v' I' w' hn hV hS => ?_)
 ·subst hn; exact ⟨false, rfl, (fun h => by cases h), fun _ => ⟨rfl, hs⟩⟩
 ·have := k v' I' w' hn hV hS
  subst hn
  exact ⟨true, rfl, fun _ => OpK.ret this, fun h => by cases h⟩
section
variable {u w : World} {v v' o : VwD} {a a1 : Addr} {r t n i m : Int} {k k' : RegK} {x y z : Sl} {I R L : Items} {N B : Nat} {l : List RegK}
theorem rkL (hr : Read w x l) (h0 : 0 ≤ r) (h1 : r < l.length) : w.cell? ((elA x r 6).add 0) = some (.int .i64 (nth l r).typ) ∧ w.cell? ((elA x r 6).add 1) = some (.int .i64 (nth l r).own) ∧ w.cell? ((elA x r 6).add 2) = some (.bool (nth l r).lent) ∧
  w.cell? ((elA x r 6).add 3) = some (.int .i64 (nth l r).con) ∧ w.cell? ((elA x r 6).add 4) = some (.int .i64 (nth l r).frm) ∧ w.cell? ((elA x r 6).add 5) = some (.int .i64 (nth l r).field) := by
 obtain ⟨row, ⟨rfl, _⟩, hc⟩ := hr.row h0 h1
 exact ⟨hc 0 _ rfl, hc 1 _ rfl, hc 2 _ rfl, hc 3 _ rfl, hc 4 _ rfl, hc 5 _ rfl⟩
theorem rk (hr : Read w x v.regs) (h0 : 0 ≤ r) (h1 : r < v.regs.length) : w.cell? ((elA x r 6).add 0) = some (.int .i64 (v.reg r).typ) ∧ w.cell? ((elA x r 6).add 1) = some (.int .i64 (v.reg r).own) ∧ w.cell? ((elA x r 6).add 2) = some (.bool (v.reg r).lent) ∧
  w.cell? ((elA x r 6).add 3) = some (.int .i64 (v.reg r).con) ∧ w.cell? ((elA x r 6).add 4) = some (.int .i64 (v.reg r).frm) ∧ w.cell? ((elA x r 6).add 5) = some (.int .i64 (v.reg r).field) := rkL hr h0 h1
theorem KstX.rd (h : KstX a x y v I) (hS : St u w (I ++ R)) : Read w x v.regs := by
 obtain ⟨I0, I1, I2, hC, o1, o2, rfl⟩ := h
 have : St u w (I0 ++ (I1 ++ (I2 ++ R))) := by simpa [List.append_assoc] using hS
 exact (o1 u).read this
theorem KstX.rk (h : KstX a x y v I) (hS : St u w (I ++ R)) : Read w y v.kept := by
 obtain ⟨I0, I1, I2, hC, o1, o2, rfl⟩ := h
 have : St u w (I0 ++ (I1 ++ (I2 ++ R))) := by simpa [List.append_assoc] using hS
 exact o2.read this
theorem KstX.st {off : Nat} {vals : List Value} {K : World → Prop} (h : KstX a x y v I) (hS : St u w (I ++ R)) (h0 : 0 ≤ r) (h1 : r < v.regs.length) (hv : off + vals.length ≤ 6)
  (hc : Dat.cells BB u [intV (v.reg r).typ, intV (v.reg r).own, .bool (v.reg r).lent, intV (v.reg r).con, intV (v.reg r).frm, intV (v.reg r).field] (v.reg r) → Dat.cells BB u (putR [intV (v.reg r).typ, intV (v.reg r).own, .bool (v.reg r).lent, intV (v.reg r).con, intV (v.reg r).frm, intV (v.reg r).field] off vals) k)
  (kk : ∀ w' I', KstX a x y (v.upd r k) I' → St u w' (I' ++ R) → K w') : StoreAt w (elA x r 6) off vals K := by
 obtain ⟨I0, I1, I2, hC, o1, o2, rfl⟩ := h
 have hS : St u w (I0 ++ (I1 ++ (I2 ++ R))) := by simpa [List.append_assoc] using hS
 refine (o1 u).store hS h0 h1 (off := off) (vals := vals) k hv ?_ ?_
 ·rintro row ⟨rfl, hb⟩
  exact hc ⟨rfl, hb⟩
 ·intro w' I1' hO hS
  exact kk w' (I0 ++ (I1' ++ I2)) ⟨I0, I1', I2, hC, fun u => let ⟨rows, q1, q2, q3⟩ := hO; ⟨rows, q1, q2, q3⟩, o2, rfl⟩ (by simpa [List.append_assoc] using hS)
theorem KstX.s1 {K : World → Prop} (h : KstX a x y v I) (hS : St u w (I ++ R)) (h0 : 0 ≤ r) (h1 : r < v.regs.length) (hn : InI n) (hk : k = ⟨(v.reg r).typ, n, (v.reg r).lent, (v.reg r).con, (v.reg r).frm, (v.reg r).field⟩) (kk : ∀ w' I', KstX a x y (v.upd r k) I' → St u w' (I' ++ R) → K w') : StoreAt w (elA x r 6) 1 [.int .i64 n] K := by
 subst hk
 refine h.st hS h0 h1 (by simp) ?_ kk
 rintro ⟨_, b_typ, b_own, b_con, b_frm, b_field⟩
 exact ⟨rfl, b_typ, hn, b_con, b_frm, b_field⟩
theorem KstX.s2 {q : Bool} {K : World → Prop} (h : KstX a x y v I) (hS : St u w (I ++ R)) (h0 : 0 ≤ r) (h1 : r < v.regs.length) (hk : k = ⟨(v.reg r).typ, (v.reg r).own, q, (v.reg r).con, (v.reg r).frm, (v.reg r).field⟩) (kk : ∀ w' I', KstX a x y (v.upd r k) I' → St u w' (I' ++ R) → K w') : StoreAt w (elA x r 6) 2 [.bool q] K := by
 subst hk
 refine h.st hS h0 h1 (by simp) ?_ kk
 rintro ⟨_, b_typ, b_own, b_con, b_frm, b_field⟩
 exact ⟨rfl, b_typ, b_own, b_con, b_frm, b_field⟩
theorem KstX.s3 {K : World → Prop} (h : KstX a x y v I) (hS : St u w (I ++ R)) (h0 : 0 ≤ r) (h1 : r < v.regs.length) (hn : InI n) (hk : k = ⟨(v.reg r).typ, (v.reg r).own, (v.reg r).lent, n, (v.reg r).frm, (v.reg r).field⟩) (kk : ∀ w' I', KstX a x y (v.upd r k) I' → St u w' (I' ++ R) → K w') : StoreAt w (elA x r 6) 3 [.int .i64 n] K := by
 subst hk
 refine h.st hS h0 h1 (by simp) ?_ kk
 rintro ⟨_, b_typ, b_own, b_con, b_frm, b_field⟩
 exact ⟨rfl, b_typ, b_own, hn, b_frm, b_field⟩
theorem KstX.s4 {K : World → Prop} (h : KstX a x y v I) (hS : St u w (I ++ R)) (h0 : 0 ≤ r) (h1 : r < v.regs.length) (hn : InI n) (hk : k = ⟨(v.reg r).typ, (v.reg r).own, (v.reg r).lent, (v.reg r).con, n, (v.reg r).field⟩) (kk : ∀ w' I', KstX a x y (v.upd r k) I' → St u w' (I' ++ R) → K w') : StoreAt w (elA x r 6) 4 [.int .i64 n] K := by
 subst hk
 refine h.st hS h0 h1 (by simp) ?_ kk
 rintro ⟨_, b_typ, b_own, b_con, b_frm, b_field⟩
 exact ⟨rfl, b_typ, b_own, b_con, hn, b_field⟩
theorem KstX.s5 {K : World → Prop} (h : KstX a x y v I) (hS : St u w (I ++ R)) (h0 : 0 ≤ r) (h1 : r < v.regs.length) (hn : InI n) (hk : k = ⟨(v.reg r).typ, (v.reg r).own, (v.reg r).lent, (v.reg r).con, (v.reg r).frm, n⟩) (kk : ∀ w' I', KstX a x y (v.upd r k) I' → St u w' (I' ++ R) → K w') : StoreAt w (elA x r 6) 5 [.int .i64 n] K := by
 subst hk
 refine h.st hS h0 h1 (by simp) ?_ kk
 rintro ⟨_, b_typ, b_own, b_con, b_frm, b_field⟩
 exact ⟨rfl, b_typ, b_own, b_con, b_frm, hn⟩
theorem c_slicesEqualK {v : World} {x y : Sl} {l ws : List Int} (hx : Read v x l) (hy : Read v y ws) : Fn Try.prog 71 #[x.val, y.val] v (.bool (decide (l = ws))) := by
 refine of71 _ _ _ _ ?_
 unfold vc71
 have hn := hx.n
 have hl := hx.le
 have hyn := hy.n
 refine ⟨fun hc => ?_, fun hc => ?_⟩
 ·simp only [bls] at hc
  exact ⟨val_false (fun e => by rw [e] at hn; omega), .refl v⟩
 simp only [bls] at hc
 refine ⟨fun i w => Sub v w ∧ 0 ≤ i ∧ i ≤ l.length ∧ l.take i.toNat = ws.take i.toNat, fun i _ => (l.length - i).toNat, ⟨.refl v, by omega, by omega, by simp⟩, ?_⟩
 rintro i w ⟨hs, h0, h1, h2⟩
 dsimp only
 refine ⟨fun hi => ?_, fun hi => ?_⟩
 ·simp only [bls] at hi
  refine go_ix hx h0 (by omega) ?_
  refine ld_int (hx.mono hs) h0 (by omega) ?_
  intro _ _
  refine go_ix hy h0 (by omega) ?_
  refine ld_int (hy.mono hs) h0 (by omega) ?_
  intro _ _
  refine ⟨fun hq => ?_, fun hq => ?_⟩
  ·simp only [bls] at hq
   exact ⟨val_false (fun e => hq (by rw [e])), hs⟩
  ·simp only [bls] at hq
   refine go_wr (by omega) (by omega) ?_
   refine ⟨⟨hs, by omega, by omega, ?_⟩, by omega⟩
   rw [take_nth h0 (by omega), take_nth h0 (by omega), h2, hq]
 ·simp only [bls] at hi
  rw [take_all (by omega), take_all (by omega)] at h2
  exact ⟨val_true h2, hs⟩
end
end Go.Vc

namespace Go.Vc
open Go Go.Proofs Go.RowKit
set_option linter.all false
theorem two_el {T : List Int} (h : T.length = 2) : T = [nth T 0, nth T 1] := by
 match T, h with
 | [p, q], _ => rfl
section
variable {u v w : World} {vv v' o : VwD} {a a1 : Addr} {r t n i m op num rr f e_ at_ : Int} {x y z s ax jx tx : Sl} {I R L : Items} {N B : Nat} {ds : List DeclD} {ss : List SigD} {T : List Int} {c : InstrD}
theorem c_kArrowOf (hx : Read v x ds) (hl : ds.length ≤ 4) : Fn Try.prog 72 #[x.val, .int .i64 f, .int .i64 t] v (.int .i64 (arrI ds f t)) := by
 refine of72 _ _ _ _ _ ?_
 unfold vc72
 have hn := hx.n
 refine ⟨fun i w => v = w ∧ 0 ≤ i ∧ i ≤ ds.length ∧ ∀ j : Int, 0 ≤ j → j < i → ¬ arrP ds f t j, fun i _ => (ds.length - i).toNat, ⟨rfl, by omega, by omega, fun j j0 j1 => by omega⟩, ?_⟩
 rintro i _ ⟨rfl, i0, i1, hj⟩
 refine ⟨fun hi => ?_, fun hi => ?_⟩
 ·simp only [bls] at hi
  have hil : i < ds.length := by omega
  obtain ⟨f_cons, e1, e2, e3, j1, j2, r1⟩ := (hx.src (.refl v)).ofDeclD i0 hil
  have hcn := r1.n
  refine go_ix hx i0 hil ?_
  refine ⟨_, _, f_cons, ⟨e1, e2, e3⟩, ?_⟩
  refine ⟨fun hq => ?_, fun hq => ?_⟩
  ·simp only [bls] at hq
   refine go_wr (by omega) (by omega) ?_
   exact ⟨by rw [arrI_some i0 hil ⟨by omega, hq.1.2, hq.2⟩ hj], .refl _⟩
  ·refine go_wr (by omega) (by omega) ?_
   refine ⟨⟨rfl, by omega, by omega, fun j j0 j1 => ?_⟩, by dsimp only; omega⟩
   by_cases e : j = i
   ·subst e
    rintro ⟨q1, q2, q3⟩
    have : f_cons.n = 0 := by omega
    simp [this, q2, q3] at hq
   ·exact hj j j0 (by omega)
 ·simp only [bls] at hi
  exact ⟨by rw [arrI_none fun j j0 j1 => hj j j0 (by omega)], .refl _⟩
theorem c_arrowAt (hx : Read v x ds) (hl : ds.length ≤ 4) : ∃ (b c : Int) (z : Sl) (q : Bool), (q = true ↔ isArr ds t) ∧ (q = true → b = (nth ds (t - 1)).frm ∧ c = (nth ds (t - 1)).to_) ∧ Fn Try.prog 70 #[x.val, .int .i64 t] v (.tuple #[.agg #[.int .i64 b, .int .i64 c, z.val], .bool q]) := by
 have hn := hx.n
 by_cases hk : isArr ds t
 ·obtain ⟨k1, k2, k3⟩ := hk
  obtain ⟨f_cons, e1, e2, e3, j1, j2, r1⟩ := (hx.src (.refl v)).ofDeclD (i := t - 1) (by omega) (by omega)
  have hcn := r1.n
  refine ⟨_, _, f_cons, true, ⟨fun _ => ⟨k1, k2, k3⟩, fun _ => rfl⟩, fun _ => ⟨rfl, rfl⟩, ?_⟩
  refine of70 _ _ _ _ ?_
  unfold vc70
  refine go_wrg (fun _ => by omega) ?_
  refine go_ixg hx (fun _ => by omega) ?_
  refine ⟨f_cons, fun _ => e3, fun hq => ?_, fun hq => ?_⟩
  ·simp only [bls] at hq; omega
  ·refine go_wr (by omega) (by omega) ?_
   refine go_ix hx (by omega) (by omega) ?_
   exact ⟨_, _, f_cons, ⟨e1, e2, e3⟩, rfl, .refl _⟩
 ·refine ⟨0, 0, ⟨none, 0, 0⟩, false, ⟨(fun h => by cases h), fun h => absurd h hk⟩, (fun h => by cases h), ?_⟩
  refine of70 _ _ _ _ ?_
  unfold vc70
  have hg : ((decide (t < 1)) || (decide (t > (x.n : Int)))) = false → 1 ≤ t ∧ t ≤ ds.length := fun h => by simp only [bls] at h; omega
  refine go_wrg (fun h => by have := hg h; omega) ?_
  refine go_ixg hx (fun h => by have := hg h; omega) ?_
  refine ldg_decl_cons (hx.src (.refl v)) (fun h => by have := hg h; omega) ?_
  intro g hr
  refine ⟨fun hq => ⟨rfl, .refl _⟩, fun hq => ?_⟩
  exfalso
  simp only [bls] at hq
  have := (hr (by simp only [Bool.or_eq_false_iff, decide_eq_false_iff_not]; omega)).n
  exact hk ⟨by omega, by omega, by omega⟩
end
end Go.Vc
