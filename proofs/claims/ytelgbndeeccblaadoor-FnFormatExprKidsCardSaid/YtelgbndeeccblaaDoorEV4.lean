/- Part of the proofs about the heaps and memories: a law is joined in the text whose name ends in W and the law. -/
import Derived.Test.YtelgbndeeccblaaDoorEV3
namespace Go.Vc
open Go Go.Proofs Go.RowKit
set_option linter.all false
instance : Dat RegK where
  sz := 6
  cells _ _ cs r := cs = [intV r.typ, intV r.own, .bool r.lent, intV r.con, intV r.frm, intV r.field] ∧ InI r.typ ∧ InI r.own ∧ InI r.con ∧ InI r.frm ∧ InI r.field
  mono := fun _ h => h
  len := fun h => by rw [h.1]; rfl
  one := fun h v hv => by
    have hv := h.1 ▸ hv
    simp only [List.mem_cons, List.not_mem_nil, or_false] at hv
    rcases hv with rfl | rfl | rfl | rfl | rfl | rfl <;> rfl
/-- what the program knows, in memory -/
def KstX (a : Addr) (x y : Sl) (v : VwD) (I : Items) : Prop := ∃ (I0 I1 I2 : Items), Cel a [x.val, y.val] I0 ∧ (∀ u, Own u x v.regs I1) ∧ OwnI y v.kept I2 ∧ I = I0 ++ (I1 ++ I2)
def Kst (a : Addr) (v : VwD) (I : Items) : Prop := ∃ x y, KstX a x y v I
def KRd (w : World) (a : Addr) (v : VwD) : Prop := ∃ (x y : Sl), w.cell? (a.add 0) = some x.val ∧ w.cell? (a.add 1) = some y.val ∧ Read w x v.regs ∧ Read w y v.kept
theorem KRd.mono {w w2 : World} {a : Addr} {v : VwD} (h : KRd w a v) (hs : Sub w w2) : KRd w2 a v := let ⟨x, y, h1, h2, h3, h4⟩ := h; ⟨x, y, cell_sub hs h1, cell_sub hs h2, h3.mono hs, h4.mono hs⟩
theorem Kst.rdA {w : World} {a : Addr} {v : VwD} {I : Items} (h : Kst a v I) (hA : AtAll w I) : KRd w a v := by
  obtain ⟨x, y, I0, I1, I2, hC, o1, o2, rfl⟩ := h
  have hA : ∀ p, p ∈ I0 ∨ p ∈ I1 ∨ p ∈ I2 → w.heap[p.1]? = some p.2 ∧ p.2 ≠ absent := fun p hp => hA p (by simpa using hp)
  have hC' : AtAll w I0 := fun p hp => hA p (by simp [hp])
  refine ⟨x, y, hC.loadA hC' rfl, hC.loadA hC' rfl, ?_, o2.readA fun p hp => hA p (by simp [hp])⟩
  obtain ⟨rows, k1, k2, k3⟩ := o1 w
  exact ⟨rows, k1.rd fun p hp => hA p (by simp [hp]), k2, k3⟩
/-- the end of a function that changes what is known -/
def OpK (u : World) (R : Items) (a : Addr) : Option VwD → Value → World → Prop
  | none, r, w => r = .bool false ∧ Sub u w
  | some v, r, w => ∃ I, r = .bool true ∧ Kst a v I ∧ St u w (I ++ R)
theorem OpK.use {u : World} {R : Items} {a : Addr} {P : Program} {f : FuncId} {args : Array Value} {w : World} {o : Option VwD} {K : Value → World → Prop} (h : Trip P f args w (OpK u R a o))
    (k1 : o = none → ∀ w', Sub u w' → K (.bool false) w') (k2 : ∀ v' I w', o = some v' → Kst a v' I → St u w' (I ++ R) → K (.bool true) w') : Trip P f args w K := by
  refine h.mono' fun r w' hr => ?_
  cases o with
  | none => obtain ⟨rfl, hs⟩ := hr; exact k1 rfl _ hs
  | some v' => obtain ⟨I, rfl, hV, hS⟩ := hr; exact k2 _ _ _ rfl hV hS
theorem OpK.ret {P : Program} {f : FuncId} {args : Array Value} {u w : World} {R : Items} {a : Addr} {o : Option VwD} (h : Trip P f args w (OpK u R a o)) : Trip P f args w fun r w' => ∃ q : Bool, r = .bool q ∧ OpK u R a o (.bool q) w' := by
  refine OpK.use h (fun hn w' hs => ?_) (fun v' I' w' hn hV hS => ?_)
  · subst hn; exact ⟨false, rfl, rfl, hs⟩
  · subst hn; exact ⟨true, rfl, I', rfl, hV, hS⟩
theorem OpK.bind {P : Program} {f f2 : FuncId} {args args2 : Array Value} {u w : World} {R : Items} {a : Addr} {o : Option VwD} {g : VwD → Option VwD} (h : Trip P f args w (OpK u R a o))
    (k : ∀ v' I w', o = some v' → Kst a v' I → St u w' (I ++ R) → Trip P f2 args2 w' (OpK u R a (g v'))) :
    Trip P f args w fun r w' => ∃ q : Bool, r = .bool q ∧ (q = true → Trip P f2 args2 w' fun r1 w2 => ∃ q : Bool, r1 = .bool q ∧ OpK u R a (o.bind g) (.bool q) w2) ∧ (q = false → OpK u R a (o.bind g) (.bool false) w') := by
  refine OpK.use h (fun hn w' hs => ?_) (fun v' I' w' hn hV hS => ?_)
  · subst hn; exact ⟨false, rfl, (fun h => by cases h), fun _ => ⟨rfl, hs⟩⟩
  · have := k v' I' w' hn hV hS
    subst hn
    exact ⟨true, rfl, fun _ => OpK.ret this, fun h => by cases h⟩
section
variable {u w : World} {v v' o : VwD} {a a1 : Addr} {r t n i m : Int} {k k' : RegK} {x y z : Sl} {I R L : Items} {N B : Nat} {l : List RegK}
theorem rkL (hr : Read w x l) (h0 : 0 ≤ r) (h1 : r < l.length) : w.cell? ((elA x r 6).add 0) = some (.int .i64 (nth l r).typ) ∧ w.cell? ((elA x r 6).add 1) = some (.int .i64 (nth l r).own) ∧ w.cell? ((elA x r 6).add 2) = some (.bool (nth l r).lent) ∧
    w.cell? ((elA x r 6).add 3) = some (.int .i64 (nth l r).con) ∧ w.cell? ((elA x r 6).add 4) = some (.int .i64 (nth l r).frm) ∧ w.cell? ((elA x r 6).add 5) = some (.int .i64 (nth l r).field) := by
  obtain ⟨row, ⟨rfl, _⟩, hc⟩ := hr.row h0 h1
  exact ⟨hc 0 _ rfl, hc 1 _ rfl, hc 2 _ rfl, hc 3 _ rfl, hc 4 _ rfl, hc 5 _ rfl⟩
theorem rk (hr : Read w x v.regs) (h0 : 0 ≤ r) (h1 : r < v.regs.length) : w.cell? ((elA x r 6).add 0) = some (.int .i64 (v.reg r).typ) ∧ w.cell? ((elA x r 6).add 1) = some (.int .i64 (v.reg r).own) ∧ w.cell? ((elA x r 6).add 2) = some (.bool (v.reg r).lent) ∧
    w.cell? ((elA x r 6).add 3) = some (.int .i64 (v.reg r).con) ∧ w.cell? ((elA x r 6).add 4) = some (.int .i64 (v.reg r).frm) ∧ w.cell? ((elA x r 6).add 5) = some (.int .i64 (v.reg r).field) := rkL hr h0 h1
theorem KstX.rd (h : KstX a x y v I) (hS : St u w (I ++ R)) : Read w x v.regs := by
  obtain ⟨I0, I1, I2, hC, o1, o2, rfl⟩ := h
  have : St u w (I0 ++ (I1 ++ (I2 ++ R))) := by simpa [List.append_assoc] using hS
  exact (o1 u).read this
theorem KstX.rk (h : KstX a x y v I) (hS : St u w (I ++ R)) : Read w y v.kept := by
  obtain ⟨I0, I1, I2, hC, o1, o2, rfl⟩ := h
  have : St u w (I0 ++ (I1 ++ (I2 ++ R))) := by simpa [List.append_assoc] using hS
  exact o2.read this
theorem KstX.st {off : Nat} {vals : List Value} {K : World → Prop} (h : KstX a x y v I) (hS : St u w (I ++ R)) (h0 : 0 ≤ r) (h1 : r < v.regs.length) (hv : off + vals.length ≤ 6)
    (hc : Dat.cells BB u [intV (v.reg r).typ, intV (v.reg r).own, .bool (v.reg r).lent, intV (v.reg r).con, intV (v.reg r).frm, intV (v.reg r).field] (v.reg r) → Dat.cells BB u (putR [intV (v.reg r).typ, intV (v.reg r).own, .bool (v.reg r).lent, intV (v.reg r).con, intV (v.reg r).frm, intV (v.reg r).field] off vals) k)
    (kk : ∀ w' I', KstX a x y (v.upd r k) I' → St u w' (I' ++ R) → K w') : StoreAt w (elA x r 6) off vals K := by
  obtain ⟨I0, I1, I2, hC, o1, o2, rfl⟩ := h
  have hS : St u w (I0 ++ (I1 ++ (I2 ++ R))) := by simpa [List.append_assoc] using hS
  refine (o1 u).store hS h0 h1 (off := off) (vals := vals) k hv ?_ ?_
  · rintro row ⟨rfl, hb⟩
    exact hc ⟨rfl, hb⟩
  · intro w' I1' hO hS
    exact kk w' (I0 ++ (I1' ++ I2)) ⟨I0, I1', I2, hC, fun u => let ⟨rows, q1, q2, q3⟩ := hO; ⟨rows, q1, q2, q3⟩, o2, rfl⟩ (by simpa [List.append_assoc] using hS)
theorem KstX.s1 {K : World → Prop} (h : KstX a x y v I) (hS : St u w (I ++ R)) (h0 : 0 ≤ r) (h1 : r < v.regs.length) (hn : InI n) (hk : k = ⟨(v.reg r).typ, n, (v.reg r).lent, (v.reg r).con, (v.reg r).frm, (v.reg r).field⟩) (kk : ∀ w' I', KstX a x y (v.upd r k) I' → St u w' (I' ++ R) → K w') : StoreAt w (elA x r 6) 1 [.int .i64 n] K := by
  subst hk
  refine h.st hS h0 h1 (by simp) ?_ kk
  rintro ⟨_, b_typ, b_own, b_con, b_frm, b_field⟩
  exact ⟨rfl, b_typ, hn, b_con, b_frm, b_field⟩
theorem KstX.s2 {q : Bool} {K : World → Prop} (h : KstX a x y v I) (hS : St u w (I ++ R)) (h0 : 0 ≤ r) (h1 : r < v.regs.length) (hk : k = ⟨(v.reg r).typ, (v.reg r).own, q, (v.reg r).con, (v.reg r).frm, (v.reg r).field⟩) (kk : ∀ w' I', KstX a x y (v.upd r k) I' → St u w' (I' ++ R) → K w') : StoreAt w (elA x r 6) 2 [.bool q] K := by
  subst hk
  refine h.st hS h0 h1 (by simp) ?_ kk
  rintro ⟨_, b_typ, b_own, b_con, b_frm, b_field⟩
  exact ⟨rfl, b_typ, b_own, b_con, b_frm, b_field⟩
theorem KstX.s3 {K : World → Prop} (h : KstX a x y v I) (hS : St u w (I ++ R)) (h0 : 0 ≤ r) (h1 : r < v.regs.length) (hn : InI n) (hk : k = ⟨(v.reg r).typ, (v.reg r).own, (v.reg r).lent, n, (v.reg r).frm, (v.reg r).field⟩) (kk : ∀ w' I', KstX a x y (v.upd r k) I' → St u w' (I' ++ R) → K w') : StoreAt w (elA x r 6) 3 [.int .i64 n] K := by
  subst hk
  refine h.st hS h0 h1 (by simp) ?_ kk
  rintro ⟨_, b_typ, b_own, b_con, b_frm, b_field⟩
  exact ⟨rfl, b_typ, b_own, hn, b_frm, b_field⟩
theorem KstX.s4 {K : World → Prop} (h : KstX a x y v I) (hS : St u w (I ++ R)) (h0 : 0 ≤ r) (h1 : r < v.regs.length) (hn : InI n) (hk : k = ⟨(v.reg r).typ, (v.reg r).own, (v.reg r).lent, (v.reg r).con, n, (v.reg r).field⟩) (kk : ∀ w' I', KstX a x y (v.upd r k) I' → St u w' (I' ++ R) → K w') : StoreAt w (elA x r 6) 4 [.int .i64 n] K := by
  subst hk
  refine h.st hS h0 h1 (by simp) ?_ kk
  rintro ⟨_, b_typ, b_own, b_con, b_frm, b_field⟩
  exact ⟨rfl, b_typ, b_own, b_con, hn, b_field⟩
theorem KstX.s5 {K : World → Prop} (h : KstX a x y v I) (hS : St u w (I ++ R)) (h0 : 0 ≤ r) (h1 : r < v.regs.length) (hn : InI n) (hk : k = ⟨(v.reg r).typ, (v.reg r).own, (v.reg r).lent, (v.reg r).con, (v.reg r).frm, n⟩) (kk : ∀ w' I', KstX a x y (v.upd r k) I' → St u w' (I' ++ R) → K w') : StoreAt w (elA x r 6) 5 [.int .i64 n] K := by
  subst hk
  refine h.st hS h0 h1 (by simp) ?_ kk
  rintro ⟨_, b_typ, b_own, b_con, b_frm, b_field⟩
  exact ⟨rfl, b_typ, b_own, b_con, b_frm, hn⟩
end
end Go.Vc

namespace Go.Vc
open Go Go.Proofs Go.RowKit
set_option linter.all false
section
variable {u v w : World} {vv v' o : VwD} {a a1 : Addr} {r t n i m op num rr f e_ at_ : Int} {x y z s ax jx tx : Sl} {I R L : Items} {N B : Nat} {ds : List DeclD} {ss : List SigD} {T : List Int} {c : InstrD}
end
end Go.Vc
