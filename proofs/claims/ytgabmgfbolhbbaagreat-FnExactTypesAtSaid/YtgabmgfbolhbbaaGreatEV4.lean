/- Part of the proofs about the heaps and memories: a law is joined in the text whose name ends in W and the law. -/
import Derived.Test.YtgabmgfbolhbbaaGreatEV3
namespace Go.Vc
open Go Go.Proofs Go.RowKit
set_option linter.all false
instance : Dat RegK where
  sz := 6
  cells _ _ cs r := cs = [intV r.typ, intV r.own, .bool r.lent, intV r.con, intV r.frm, intV r.field] ∧ InI r.typ ∧ InI r.own ∧ InI r.con ∧ InI r.frm ∧ InI r.field
  mono := fun _ h => h
  len := fun h => by rw [h.1]; rfl
  one := fun h v hv => by
    have hv := h.1 ▸ hv
    simp only [List.mem_cons, List.not_mem_nil, or_false] at hv
    rcases hv with rfl | rfl | rfl | rfl | rfl | rfl <;> rfl
instance : SlT Tryz.prog 67 6 48 [intV 0, intV 0, .bool false, intV 0, intV 0, intV 0] := .of (by kernel_rfl) rfl (by decide)
/-- what the program knows, in memory -/
def KstX (a : Addr) (x y : Sl) (v : VwD) (I : Items) : Prop := ∃ (I0 I1 I2 : Items), Cel a [x.val, y.val] I0 ∧ (∀ u, Own u x v.regs I1) ∧ OwnI y v.kept I2 ∧ I = I0 ++ (I1 ++ I2)
def Kst (a : Addr) (v : VwD) (I : Items) : Prop := ∃ x y, KstX a x y v I
def KRd (w : World) (a : Addr) (v : VwD) : Prop := ∃ (x y : Sl), w.cell? (a.add 0) = some x.val ∧ w.cell? (a.add 1) = some y.val ∧ Read w x v.regs ∧ Read w y v.kept
theorem KRd.mono {w w2 : World} {a : Addr} {v : VwD} (h : KRd w a v) (hs : Sub w w2) : KRd w2 a v := let ⟨x, y, h1, h2, h3, h4⟩ := h; ⟨x, y, cell_sub hs h1, cell_sub hs h2, h3.mono hs, h4.mono hs⟩
theorem Kst.rdA {w : World} {a : Addr} {v : VwD} {I : Items} (h : Kst a v I) (hA : AtAll w I) : KRd w a v := by
  obtain ⟨x, y, I0, I1, I2, hC, o1, o2, rfl⟩ := h
  have hA : ∀ p, p ∈ I0 ∨ p ∈ I1 ∨ p ∈ I2 → w.heap[p.1]? = some p.2 ∧ p.2 ≠ absent := fun p hp => hA p (by simpa using hp)
  have hC' : AtAll w I0 := fun p hp => hA p (by simp [hp])
  refine ⟨x, y, hC.loadA hC' rfl, hC.loadA hC' rfl, ?_, o2.readA fun p hp => hA p (by simp [hp])⟩
  obtain ⟨rows, k1, k2, k3⟩ := o1 w
  exact ⟨rows, k1.rd fun p hp => hA p (by simp [hp]), k2, k3⟩
def repK : Rep := ⟨Kst, KRd, fun hs h => h.mono hs, fun h hA => h.rdA hA⟩
/-- the end of a function that changes what is known -/
def OpK (u : World) (R : Items) (a : Addr) : Option VwD → Value → World → Prop
  | none, r, w => r = .bool false ∧ Sub u w
  | some v, r, w => ∃ I, r = .bool true ∧ Kst a v I ∧ St u w (I ++ R)
theorem OpK.use {u : World} {R : Items} {a : Addr} {P : Program} {f : FuncId} {args : Array Value} {w : World} {o : Option VwD} {K : Value → World → Prop} (h : Trip P f args w (OpK u R a o))
    (k1 : o = none → ∀ w', Sub u w' → K (.bool false) w') (k2 : ∀ v' I w', o = some v' → Kst a v' I → St u w' (I ++ R) → K (.bool true) w') : Trip P f args w K := by
  refine h.mono' fun r w' hr => ?_
  cases o with
  | none => obtain ⟨rfl, hs⟩ := hr; exact k1 rfl _ hs
  | some v' => obtain ⟨I, rfl, hV, hS⟩ := hr; exact k2 _ _ _ rfl hV hS
theorem OpK.weak {u u' w : World} {R : Items} {a : Addr} {o : Option VwD} {r : Value} (h : OpK u' R a o r w) (hs : Sub u u') : OpK u R a o r w := by
  cases o with
  | none => exact ⟨h.1, hs.trans h.2⟩
  | some v => obtain ⟨I, h1, h2, h3⟩ := h; exact ⟨I, h1, h2, h3.weakU hs⟩
theorem OpK.ret {P : Program} {f : FuncId} {args : Array Value} {u w : World} {R : Items} {a : Addr} {o : Option VwD} (h : Trip P f args w (OpK u R a o)) : Trip P f args w fun r w' => ∃ q : Bool, r = .bool q ∧ OpK u R a o (.bool q) w' := by
  refine OpK.use h (fun hn w' hs => ?_) (fun v' I' w' hn hV hS => ?_)
  · subst hn; exact ⟨false, rfl, rfl, hs⟩
  · subst hn; exact ⟨true, rfl, I', rfl, hV, hS⟩
theorem OpK.bind {P : Program} {f f2 : FuncId} {args args2 : Array Value} {u w : World} {R : Items} {a : Addr} {o : Option VwD} {g : VwD → Option VwD} (h : Trip P f args w (OpK u R a o))
    (k : ∀ v' I w', o = some v' → Kst a v' I → St u w' (I ++ R) → Trip P f2 args2 w' (OpK u R a (g v'))) :
    Trip P f args w fun r w' => ∃ q : Bool, r = .bool q ∧ (q = true → Trip P f2 args2 w' fun r1 w2 => ∃ q : Bool, r1 = .bool q ∧ OpK u R a (o.bind g) (.bool q) w2) ∧ (q = false → OpK u R a (o.bind g) (.bool false) w') := by
  refine OpK.use h (fun hn w' hs => ?_) (fun v' I' w' hn hV hS => ?_)
  · subst hn; exact ⟨false, rfl, (fun h => by cases h), fun _ => ⟨rfl, hs⟩⟩
  · have := k v' I' w' hn hV hS
    subst hn
    exact ⟨true, rfl, fun _ => OpK.ret this, fun h => by cases h⟩
section
variable {u w : World} {v v' o : VwD} {a a1 : Addr} {r t n i m : Int} {k k' : RegK} {x y z : Sl} {I R L : Items} {N B : Nat} {l : List RegK}
theorem rkL (hr : Read w x l) (h0 : 0 ≤ r) (h1 : r < l.length) : w.cell? ((elA x r 6).add 0) = some (.int .i64 (nth l r).typ) ∧ w.cell? ((elA x r 6).add 1) = some (.int .i64 (nth l r).own) ∧ w.cell? ((elA x r 6).add 2) = some (.bool (nth l r).lent) ∧
    w.cell? ((elA x r 6).add 3) = some (.int .i64 (nth l r).con) ∧ w.cell? ((elA x r 6).add 4) = some (.int .i64 (nth l r).frm) ∧ w.cell? ((elA x r 6).add 5) = some (.int .i64 (nth l r).field) := by
  obtain ⟨row, ⟨rfl, _⟩, hc⟩ := hr.row h0 h1
  exact ⟨hc 0 _ rfl, hc 1 _ rfl, hc 2 _ rfl, hc 3 _ rfl, hc 4 _ rfl, hc 5 _ rfl⟩
theorem rk (hr : Read w x v.regs) (h0 : 0 ≤ r) (h1 : r < v.regs.length) : w.cell? ((elA x r 6).add 0) = some (.int .i64 (v.reg r).typ) ∧ w.cell? ((elA x r 6).add 1) = some (.int .i64 (v.reg r).own) ∧ w.cell? ((elA x r 6).add 2) = some (.bool (v.reg r).lent) ∧
    w.cell? ((elA x r 6).add 3) = some (.int .i64 (v.reg r).con) ∧ w.cell? ((elA x r 6).add 4) = some (.int .i64 (v.reg r).frm) ∧ w.cell? ((elA x r 6).add 5) = some (.int .i64 (v.reg r).field) := rkL hr h0 h1
theorem rku (hr : Read w x (v.upd r k).regs) (h0 : 0 ≤ r) (h1 : r < v.regs.length) : w.cell? ((elA x r 6).add 0) = some (.int .i64 k.typ) ∧ w.cell? ((elA x r 6).add 1) = some (.int .i64 k.own) ∧ w.cell? ((elA x r 6).add 2) = some (.bool k.lent) ∧
    w.cell? ((elA x r 6).add 3) = some (.int .i64 k.con) ∧ w.cell? ((elA x r 6).add 4) = some (.int .i64 k.frm) ∧ w.cell? ((elA x r 6).add 5) = some (.int .i64 k.field) := by
  have := rk hr h0 (by rw [VwD.upd_len]; exact h1)
  rwa [VwD.upd_self h0 h1] at this
theorem KstX.ld0 (h : KstX a x y v I) (hS : St u w (I ++ R)) : w.cell? (a.add 0) = some x.val := by
  obtain ⟨I0, I1, I2, hC, o1, o2, rfl⟩ := h
  exact hC.load (hS.left.left : St u w I0) (R := []) (F := fun I' => I' ++ []) (p := ⟨by simp, fun I' => by simp⟩) rfl
theorem KstX.ld1 (h : KstX a x y v I) (hS : St u w (I ++ R)) : w.cell? (a.add 1) = some y.val := by
  obtain ⟨I0, I1, I2, hC, o1, o2, rfl⟩ := h
  exact hC.load (hS.left.left : St u w I0) (R := []) (F := fun I' => I' ++ []) (p := ⟨by simp, fun I' => by simp⟩) rfl
theorem KstX.rd (h : KstX a x y v I) (hS : St u w (I ++ R)) : Read w x v.regs := by
  obtain ⟨I0, I1, I2, hC, o1, o2, rfl⟩ := h
  have : St u w (I0 ++ (I1 ++ (I2 ++ R))) := by simpa [List.append_assoc] using hS
  exact (o1 u).read this
theorem KstX.rk (h : KstX a x y v I) (hS : St u w (I ++ R)) : Read w y v.kept := by
  obtain ⟨I0, I1, I2, hC, o1, o2, rfl⟩ := h
  have : St u w (I0 ++ (I1 ++ (I2 ++ R))) := by simpa [List.append_assoc] using hS
  exact o2.read this
theorem KstX.krd (h : KstX a x y v I) (hS : St u w (I ++ R)) : KRd w a v := ⟨x, y, h.ld0 hS, h.ld1 hS, h.rd hS, h.rk hS⟩
theorem Kst.krd (h : Kst a v I) (hS : St u w (I ++ R)) : KRd w a v := let ⟨_, _, h⟩ := h; h.krd hS
theorem KstX.st {off : Nat} {vals : List Value} {K : World → Prop} (h : KstX a x y v I) (hS : St u w (I ++ R)) (h0 : 0 ≤ r) (h1 : r < v.regs.length) (hv : off + vals.length ≤ 6)
    (hc : Dat.cells BB u [intV (v.reg r).typ, intV (v.reg r).own, .bool (v.reg r).lent, intV (v.reg r).con, intV (v.reg r).frm, intV (v.reg r).field] (v.reg r) → Dat.cells BB u (putR [intV (v.reg r).typ, intV (v.reg r).own, .bool (v.reg r).lent, intV (v.reg r).con, intV (v.reg r).frm, intV (v.reg r).field] off vals) k)
    (kk : ∀ w' I', KstX a x y (v.upd r k) I' → St u w' (I' ++ R) → K w') : StoreAt w (elA x r 6) off vals K := by
  obtain ⟨I0, I1, I2, hC, o1, o2, rfl⟩ := h
  have hS : St u w (I0 ++ (I1 ++ (I2 ++ R))) := by simpa [List.append_assoc] using hS
  refine (o1 u).store hS h0 h1 (off := off) (vals := vals) k hv ?_ ?_
  · rintro row ⟨rfl, hb⟩
    exact hc ⟨rfl, hb⟩
  · intro w' I1' hO hS
    exact kk w' (I0 ++ (I1' ++ I2)) ⟨I0, I1', I2, hC, fun u => let ⟨rows, q1, q2, q3⟩ := hO; ⟨rows, q1, q2, q3⟩, o2, rfl⟩ (by simpa [List.append_assoc] using hS)
theorem KstX.sk {K : World → Prop} (h : KstX a x y v I) (hS : St u w (I ++ R)) (h0 : 0 ≤ r) (h1 : r < v.kept.length) (hn : InI n) (kk : ∀ w' I', KstX a x y (keepV v r n) I' → St u w' (I' ++ R) → K w') : StoreAt w (elA y r 1) 0 [.int .i64 n] K := by
  obtain ⟨I0, I1, I2, hC, o1, o2, rfl⟩ := h
  have hS : St u w (I0 ++ (I1 ++ (I2 ++ R))) := by simpa [List.append_assoc] using hS
  refine st_int (o2 u) hS h0 h1 hn ?_
  intro w' I2' hO hS
  exact kk w' (I0 ++ (I1 ++ I2')) ⟨I0, I1, I2', hC, o1, hO.toI, rfl⟩ (by simpa [List.append_assoc] using hS)
theorem KstX.s0 {K : World → Prop} (h : KstX a x y v I) (hS : St u w (I ++ R)) (h0 : 0 ≤ r) (h1 : r < v.regs.length) (hn : InI n) (hk : k = ⟨n, (v.reg r).own, (v.reg r).lent, (v.reg r).con, (v.reg r).frm, (v.reg r).field⟩) (kk : ∀ w' I', KstX a x y (v.upd r k) I' → St u w' (I' ++ R) → K w') : StoreAt w (elA x r 6) 0 [.int .i64 n] K := by
  subst hk
  refine h.st hS h0 h1 (by simp) ?_ kk
  rintro ⟨_, b_typ, b_own, b_con, b_frm, b_field⟩
  exact ⟨rfl, hn, b_own, b_con, b_frm, b_field⟩
theorem KstX.s1 {K : World → Prop} (h : KstX a x y v I) (hS : St u w (I ++ R)) (h0 : 0 ≤ r) (h1 : r < v.regs.length) (hn : InI n) (hk : k = ⟨(v.reg r).typ, n, (v.reg r).lent, (v.reg r).con, (v.reg r).frm, (v.reg r).field⟩) (kk : ∀ w' I', KstX a x y (v.upd r k) I' → St u w' (I' ++ R) → K w') : StoreAt w (elA x r 6) 1 [.int .i64 n] K := by
  subst hk
  refine h.st hS h0 h1 (by simp) ?_ kk
  rintro ⟨_, b_typ, b_own, b_con, b_frm, b_field⟩
  exact ⟨rfl, b_typ, hn, b_con, b_frm, b_field⟩
theorem KstX.s2 {q : Bool} {K : World → Prop} (h : KstX a x y v I) (hS : St u w (I ++ R)) (h0 : 0 ≤ r) (h1 : r < v.regs.length) (hk : k = ⟨(v.reg r).typ, (v.reg r).own, q, (v.reg r).con, (v.reg r).frm, (v.reg r).field⟩) (kk : ∀ w' I', KstX a x y (v.upd r k) I' → St u w' (I' ++ R) → K w') : StoreAt w (elA x r 6) 2 [.bool q] K := by
  subst hk
  refine h.st hS h0 h1 (by simp) ?_ kk
  rintro ⟨_, b_typ, b_own, b_con, b_frm, b_field⟩
  exact ⟨rfl, b_typ, b_own, b_con, b_frm, b_field⟩
theorem KstX.s3 {K : World → Prop} (h : KstX a x y v I) (hS : St u w (I ++ R)) (h0 : 0 ≤ r) (h1 : r < v.regs.length) (hn : InI n) (hk : k = ⟨(v.reg r).typ, (v.reg r).own, (v.reg r).lent, n, (v.reg r).frm, (v.reg r).field⟩) (kk : ∀ w' I', KstX a x y (v.upd r k) I' → St u w' (I' ++ R) → K w') : StoreAt w (elA x r 6) 3 [.int .i64 n] K := by
  subst hk
  refine h.st hS h0 h1 (by simp) ?_ kk
  rintro ⟨_, b_typ, b_own, b_con, b_frm, b_field⟩
  exact ⟨rfl, b_typ, b_own, hn, b_frm, b_field⟩
theorem KstX.s4 {K : World → Prop} (h : KstX a x y v I) (hS : St u w (I ++ R)) (h0 : 0 ≤ r) (h1 : r < v.regs.length) (hn : InI n) (hk : k = ⟨(v.reg r).typ, (v.reg r).own, (v.reg r).lent, (v.reg r).con, n, (v.reg r).field⟩) (kk : ∀ w' I', KstX a x y (v.upd r k) I' → St u w' (I' ++ R) → K w') : StoreAt w (elA x r 6) 4 [.int .i64 n] K := by
  subst hk
  refine h.st hS h0 h1 (by simp) ?_ kk
  rintro ⟨_, b_typ, b_own, b_con, b_frm, b_field⟩
  exact ⟨rfl, b_typ, b_own, b_con, hn, b_field⟩
theorem KstX.s5 {K : World → Prop} (h : KstX a x y v I) (hS : St u w (I ++ R)) (h0 : 0 ≤ r) (h1 : r < v.regs.length) (hn : InI n) (hk : k = ⟨(v.reg r).typ, (v.reg r).own, (v.reg r).lent, (v.reg r).con, (v.reg r).frm, n⟩) (kk : ∀ w' I', KstX a x y (v.upd r k) I' → St u w' (I' ++ R) → K w') : StoreAt w (elA x r 6) 5 [.int .i64 n] K := by
  subst hk
  refine h.st hS h0 h1 (by simp) ?_ kk
  rintro ⟨_, b_typ, b_own, b_con, b_frm, b_field⟩
  exact ⟨rfl, b_typ, b_own, b_con, b_frm, hn⟩
theorem c_slicesEqualK {v : World} {x y : Sl} {l ws : List Int} (hx : Read v x l) (hy : Read v y ws) : Fn Tryz.prog 141 #[x.val, y.val] v (.bool (decide (l = ws))) := by
  refine of141 _ _ _ _ ?_
  unfold vc141
  have hn := hx.n
  have hl := hx.le
  have hyn := hy.n
  refine ⟨fun hc => ?_, fun hc => ?_⟩
  · simp only [bls] at hc
    exact ⟨val_false (fun e => by rw [e] at hn; omega), .refl v⟩
  simp only [bls] at hc
  refine ⟨fun i w => Sub v w ∧ 0 ≤ i ∧ i ≤ l.length ∧ l.take i.toNat = ws.take i.toNat, fun i _ => (l.length - i).toNat, ⟨.refl v, by omega, by omega, by simp⟩, ?_⟩
  rintro i w ⟨hs, h0, h1, h2⟩
  dsimp only
  refine ⟨fun hi => ?_, fun hi => ?_⟩
  · simp only [bls] at hi
    refine go_ix hx h0 (by omega) ?_
    refine ld_int (hx.mono hs) h0 (by omega) ?_
    intro _ _
    refine go_ix hy h0 (by omega) ?_
    refine ld_int (hy.mono hs) h0 (by omega) ?_
    intro _ _
    refine ⟨fun hq => ?_, fun hq => ?_⟩
    · simp only [bls] at hq
      exact ⟨val_false (fun e => hq (by rw [e])), hs⟩
    · simp only [bls] at hq
      refine go_wr (by omega) (by omega) ?_
      refine ⟨⟨hs, by omega, by omega, ?_⟩, by omega⟩
      rw [take_nth h0 (by omega), take_nth h0 (by omega), h2, hq]
  · simp only [bls] at hi
    rw [take_all (by omega), take_all (by omega)] at h2
    exact ⟨val_true h2, hs⟩
theorem c_unknownReg {v : World} : Fn Tryz.prog 53 #[] v (.agg #[.int .i64 (-1), .int .i64 0, .bool false, .int .i64 (-1), .int .i64 (-1), .int .i64 (-1)]) := by
  refine of53 _ _ ?_
  unfold vc53
  exact ⟨rfl, .refl v⟩
theorem c_cloneRegs {v : World} (hx : Read v x l) : Mk Tryz.prog 126 #[x.val] v fun r J => ∃ y, r = y.val ∧ Own v y l J := by
  refine of126 _ _ _ ?_
  unfold vc126
  have hS := St.refl v
  have hl := hx.le
  refine go_nil ⟨fun hc => ?_, fun _ => ?_⟩
  · have := hx.nil_of (Option.isNone_iff_eq_none.1 hc)
    subst this
    exact ⟨[], hS, _, rfl, Own.nil v⟩
  refine St.build (α := RegK) (l := []) hS (by (repeat' (first | exact VsOf.nil | apply VsOf.cons | (apply VOf.int; first | assumption | (constructor <;> first | omega | (simp only [List.length_set, List.length_append, List.length_replicate, List.length_cons, List.length_nil, List.length_take, List.length_drop, List.length_map, List.length_singleton] at *; omega))) | exact VOf.bool | exact VOf.str))) rfl (by decide) ?_
  intro x1 w1 I1 hO hS hs
  refine ⟨_, rfl, ?_⟩
  refine Own.append hO hS (hx.src hS.sub) (by simp; omega) (by decide) ?_
  intro x2 w2 I2 hO hS
  exact ⟨_, rfl, I2, by simpa using hS, _, rfl, by simpa using hO⟩
theorem c_kClone (hO : KRd u a o) : Mk Tryz.prog 95 #[.pointer (some (a.add 0))] u fun r J => ∃ a' : Addr, r = .pointer (some (a'.add 0)) ∧ Kst a' o J := by
  refine of95 _ _ _ ?_
  unfold vc95
  obtain ⟨x1, x2, e1, e2, r1, r2⟩ := hO
  refine ⟨x1, e1, x2, e2, ?_⟩
  refine Mk.use (c_cloneRegs r1) (.refl u) ?_
  rintro _ w1 K1 ⟨z1, rfl, o1⟩ hS hs
  refine ⟨_, rfl, hs, ?_⟩
  refine Mk.use (c_cloneInts r2) hS ?_
  rintro _ w2 K2 ⟨z2, rfl, o2⟩ hS hs
  refine ⟨_, rfl, ?_⟩
  refine St.box (vals := [z1.val, z2.val]) hS ?_
  intro a' w8 I0 hC hS hs
  refine ⟨I0 ++ (K1 ++ K2), hS.perm (by
    classical
    exact List.perm_iff_count.2 fun a => by simp only [List.count_append, List.count_nil]; omega), a', rfl, z1, z2, I0, K1, K2, hC, fun u => let ⟨rows, q1, q2, q3⟩ := o1; ⟨rows, q1, q2, q3⟩, o2.toI, rfl⟩
theorem c_kAlive (hV : KRd w a v) (hw : Wf N B v) (h0 : 0 ≤ r) (h1 : r < N) : Fn Tryz.prog 128 #[.pointer (some (a.add 0)), .int .i64 r] w (.bool (alB v r)) := by
  refine of128 _ _ _ _ ?_
  unfold vc128
  obtain ⟨f, hf⟩ := hw.rank
  have hl := hw.lenI
  obtain ⟨x, y, e1, e2, r1, r2⟩ := hV
  refine ⟨fun k w' => w = w' ∧ -1 ≤ k ∧ k < N ∧ ((0 ≤ k ∧ Al v k) ↔ Al v r), fun k _ => if 0 ≤ k then f k + 1 else 0, ⟨rfl, by omega, h1, ⟨fun h => h.2, fun h => ⟨h0, h⟩⟩⟩, ?_⟩
  rintro k _ ⟨rfl, k0, k1, hk⟩
  refine ⟨fun hi => ?_, fun hi => ?_⟩
  · simp only [bls] at hi
    obtain ⟨c1, c2, c3, c4, c5, c6⟩ := rk r1 hi (by omega)
    refine ⟨x, e1, r1.ix hi (by omega), _, c2, x, fun _ => e1, fun _ => r1.ix hi (by omega), _, fun _ => c3, ?_⟩
    refine ⟨fun hc => ?_, fun hc => ?_⟩
    · simp only [bls] at hc
      have : Al v r := hk.1 ⟨hi, .here hc⟩
      exact ⟨by simp [alB, this], .refl _⟩
    · simp only [bls] at hc
      refine ⟨x, e1, r1.ix hi (by omega), _, c5, ?_⟩
      have hfr := hw.frm k hi k1
      refine ⟨⟨rfl, hfr.1, hfr.2, ⟨fun h => hk.1 ⟨hi, .up h.1 h.2⟩, fun h => ?_⟩⟩, ?_⟩
      · rcases (hk.2 h).2.inv with (h | h) | h
        · omega
        · rw [hc.2] at h; cases h
        · exact h
      · dsimp only
        rw [if_pos hi]
        split
        · have := hf k hi k1 (by assumption); omega
        · omega
  · simp only [bls] at hi
    have : ¬ Al v r := fun h => by have := (hk.2 h).1; omega
    exact ⟨by simp [alB, this], .refl _⟩
theorem c_kTake (hV : Kst a v I) (hS : St u w (I ++ R)) (hw : Wf N B v) (hB : B ≤ 1099511627776) (h0 : 0 ≤ r) (h1 : r < N) : Trip Tryz.prog 129 #[.pointer (some (a.add 0)), .int .i64 r] w (OpK u R a (if (v.reg r).own < 1 then none else some (decV v r))) := by
  refine of129 _ _ _ _ ?_
  unfold vc129
  have hl := hw.lenI
  have ho := hw.own0 r h0 h1
  obtain ⟨x, y, hX⟩ := hV
  have r1 := hX.rd hS
  obtain ⟨c1, c2, _⟩ := rk r1 h0 (by omega)
  refine ⟨x, hX.ld0 hS, r1.ix h0 (by omega), _, c2, ?_⟩
  refine go_wr (by omega) (by omega) ?_
  refine ⟨r1.ix h0 (by omega), ?_⟩
  refine hX.s1 hS h0 (by omega) (by constructor <;> omega) rfl ?_
  intro w1 I1 hX hS
  have r1 := hX.rd hS
  obtain ⟨c1, c2, _⟩ := rku r1 h0 (by omega)
  refine ⟨x, hX.ld0 hS, r1.ix h0 (by rw [VwD.upd_len]; omega), _, c2, ?_⟩
  dsimp only
  by_cases hc : (v.reg r).own < 1
  · rw [if_pos hc]
    exact ⟨by simp; omega, hS.sub⟩
  · rw [if_neg hc]
    exact ⟨I1, by simp; omega, ⟨x, y, hX⟩, hS⟩
theorem c_kSet (hV : Kst a v I) (hS : St u w (I ++ R)) (hw : Wf N B v) (h0 : 0 ≤ r) (h1 : r < N) (ht : InI t) (hm : InI m) : Trip Tryz.prog 131 #[.pointer (some (a.add 0)), .int .i64 r, .int .i64 t, .int .i64 m] w (OpK u R a (setW v r t m)) := by
  refine of131 _ _ _ _ _ _ ?_
  unfold vc131
  have hl := hw.lenI
  have ho := hw.own0 r h0 h1
  obtain ⟨x, y, hX⟩ := hV
  have r1 := hX.rd hS
  have hb := r1.le
  have hxn := r1.n
  obtain ⟨c1, c2, _⟩ := rk r1 h0 (by omega)
  refine ⟨x, hX.ld0 hS, r1.ix h0 (by omega), _, c2, fun hc => ?_, fun hc => ?_⟩
  · simp only [bls] at hc
    rw [show setW v r t m = none from if_pos (by omega)]
    exact ⟨rfl, hS.sub⟩
  simp only [bls] at hc
  rw [show setW v r t m = some (setV v r t m) from if_neg (by omega)]
  refine ⟨x, hX.ld0 hS, ?_⟩
  refine Trip.mono' (c_unknownReg (v := w)) ?_
  rintro _ w1 ⟨rfl, hs⟩
  refine ⟨_, _, _, _, _, _, rfl, hs, ?_⟩
  have hS := hS.sub_w hs
  have h1u : ∀ {K : RegK}, r < (v.upd r K).regs.length := by intro K; rw [VwD.upd_len]; omega
  refine ⟨(hX.rd hS).ix h0 (by omega), ?_⟩
  refine hX.st (k := ⟨-1, 0, false, -1, -1, -1⟩) hS h0 (by omega) (by simp) (fun _ => ⟨rfl, by decide, by decide, by decide, by decide, by decide⟩) ?_
  clear hX hS r1 c1 c2
  intro w2 I2 hX hS
  refine ⟨x, hX.ld0 hS, x, hX.ld0 hS, (hX.rd hS).ix h0 h1u, ?_⟩
  refine hX.s0 hS h0 h1u ht rfl ?_
  clear hX hS
  intro w3 I3 hX hS
  rw [VwD.upd_upd, VwD.upd_self h0 (by omega)] at hX
  try dsimp only at hX
  refine ⟨(hX.rd hS).ix h0 h1u, ?_⟩
  refine hX.s1 hS h0 h1u hm rfl ?_
  clear hX hS
  intro w4 I4 hX hS
  rw [VwD.upd_upd, VwD.upd_self h0 (by omega)] at hX
  try dsimp only at hX
  refine ⟨x, hX.ld0 hS, ?_⟩
  rw [hxn]
  refine ⟨fun k w' => ∃ v' I', KstX a x y v' I' ∧ St u w' (I' ++ R) ∧ 0 ≤ k ∧ k ≤ N ∧ v'.regs.length = v.regs.length ∧ v'.kept = v.kept ∧ (∀ j : Int, 0 ≤ j → j < N → v'.reg j = if j = r then ⟨t, m, false, -1, -1, -1⟩ else if j < k then clr1 r (v.reg j) else v.reg j), fun k _ => (N - k).toNat, ⟨_, I4, hX, hS, by omega, by omega, VwD.upd_len, rfl, fun j j0 j1 => by rw [VwD.upd_reg h0 (by omega) j j0, if_neg (show ¬ j < 0 by omega)]⟩, ?_⟩
  clear hX hS
  rintro k w ⟨v', I', hX, hS, k0, k1, hl', hk', hj⟩
  dsimp only
  refine ⟨fun hi => ?_, fun hi => ?_⟩
  · simp only [bls] at hi
    have r1 := hX.rd hS
    obtain ⟨_, _, _, _, c5, _⟩ := rk r1 k0 (by omega)
    have hjk := hj k k0 (by omega)
    refine ⟨x, hX.ld0 hS, r1.ix k0 (by omega), _, c5, fun hd => ?_, fun hd => ?_⟩
    · simp only [bls] at hd
      have hkr : k ≠ r := fun e => by
        rw [if_pos e] at hjk; rw [hjk] at hd; dsimp only at hd; omega
      rw [if_neg hkr, if_neg (by omega)] at hjk
      refine ⟨x, hX.ld0 hS, x, hX.ld0 hS, r1.ix k0 (by omega), ?_⟩
      refine hX.s4 hS k0 (by omega) (by constructor <;> omega) rfl ?_
      intro w1 I1 hX hS
      refine ⟨(hX.rd hS).ix k0 (by rw [VwD.upd_len]; omega), ?_⟩
      refine hX.s5 hS k0 (by rw [VwD.upd_len]; omega) (by constructor <;> omega) rfl ?_
      intro w2 I2 hX hS
      rw [VwD.upd_upd, VwD.upd_self k0 (by omega)] at hX
      dsimp only at hX
      refine go_wr (by omega) (by omega) ?_
      refine ⟨⟨_, I2, hX, hS, by omega, by omega, by rw [VwD.upd_len]; exact hl', hk', fun j j0 j1 => ?_⟩, by omega⟩
      rw [VwD.upd_reg k0 (by omega) j j0]
      by_cases e : j = k
      · subst e
        rw [if_pos rfl, if_neg hkr, if_pos (by omega)]
        unfold clr1
        rw [hjk] at hd ⊢
        rw [if_pos hd]
      · rw [if_neg e, hj j j0 j1]
        by_cases e3 : j = r
        · rw [if_pos e3, if_pos e3]
        rw [if_neg e3, if_neg e3]
        by_cases e2 : j < k
        · rw [if_pos e2, if_pos (by omega)]
        · rw [if_neg e2, if_neg (by omega)]
    · simp only [bls] at hd
      refine go_wr (by omega) (by omega) ?_
      refine ⟨⟨v', I', hX, hS, by omega, by omega, hl', hk', fun j j0 j1 => ?_⟩, by omega⟩
      rw [hj j j0 j1]
      by_cases e3 : j = r
      · rw [if_pos e3, if_pos e3]
      rw [if_neg e3, if_neg e3]
      by_cases e : j = k
      · subst e
        rw [if_neg (by omega), if_pos (by omega)]
        rw [if_neg e3, if_neg (by omega)] at hjk
        unfold clr1
        rw [hjk] at hd
        rw [if_neg hd]
      · by_cases e2 : j < k
        · rw [if_pos e2, if_pos (by omega)]
        · rw [if_neg e2, if_neg (by omega)]
  · simp only [bls] at hi
    refine ⟨I', rfl, ?_, hS⟩
    rw [show setV v r t m = v' from ?_]
    · exact ⟨x, y, hX⟩
    refine VwD.ext' (by rw [hl']; unfold setV; simp) (fun j j0 j1 => ?_) hk'.symm
    have j1' : j < v.regs.length := by unfold setV at j1; simpa using j1
    rw [setV_reg h0 (by omega) j j0 j1', hj j j0 (by omega), if_pos (show j < k by omega)]
theorem c_kJoin (hO : ∀ w', AtAll w' R → KRd w' a1 o) (hV : Kst a v I) (hS : St u w (I ++ R)) (hw : Wf N B v) (ho : Wf N B o) : Trip Tryz.prog 134 #[.pointer (some (a.add 0)), .pointer (some (a1.add 0))] w (OpK u R a (joinV v o)) := by
  refine of134 _ _ _ _ ?_
  unfold vc134
  have hl := hw.lenI
  have hlo := ho.lenI
  obtain ⟨x, y, hX⟩ := hV
  obtain ⟨z, s, g1, g2, g3, g4⟩ := hO _ hS.right.at_
  have hb := (hX.rd hS).le
  have hxn := (hX.rd hS).n
  refine ⟨y, hX.ld1 hS, s, g2, _, c_slicesEqualK (hX.rk hS) g4, fun hc => ?_, fun hc => ?_⟩
  · simp only [bls] at hc
    unfold joinV
    rw [if_neg (fun hh => hc hh.2)]
    exact ⟨rfl, hS.sub⟩
  simp only [bls] at hc
  refine ⟨x, hX.ld0 hS, ?_⟩
  rw [hxn]
  refine ⟨fun k w' => ∃ v' I', KstX a x y v' I' ∧ St u w' (I' ++ R) ∧ 0 ≤ k ∧ k ≤ N ∧ v'.regs.length = v.regs.length ∧ v'.kept = v.kept ∧ (∀ j : Int, 0 ≤ j → j < k → (v.reg j).own = (o.reg j).own) ∧ (∀ j : Int, 0 ≤ j → j < N → v'.reg j = if j < k then joinR (v.reg j) (o.reg j) else v.reg j), fun k _ => (N - k).toNat, ⟨v, I, hX, hS, by omega, by omega, rfl, rfl, (fun j j0 j1 => by omega), fun j j0 j1 => by rw [if_neg (by omega)]⟩, ?_⟩
  clear hX hS g1 g2 g3 g4
  rintro k w ⟨v', I', hX, hS, k0, k1, hl', hk', hown, hj⟩
  dsimp only
  refine ⟨fun hi => ?_, fun hi => ?_⟩
  · simp only [bls] at hi
    have hk1 : k < v'.regs.length := by omega
    have hk2 : k < o.regs.length := by omega
    have hjk := hj k k0 (by omega)
    rw [if_neg (by omega)] at hjk
    have hownk : (v.reg k).own = (o.reg k).own → ∀ j : Int, 0 ≤ j → j < k + 1 → (v.reg j).own = (o.reg j).own := fun h j j0 j1 => by
      by_cases e : j = k
      · subst e; exact h
      · exact hown j j0 (by omega)
    have hnj : (v.reg k).own ≠ (o.reg k).own → joinV v o = none := fun h => by
      unfold joinV
      rw [if_neg]
      rintro ⟨q1, q2⟩
      apply h
      have e1 := nth_col (f := RegK.own) k0 (show k < v.regs.length by omega)
      have e2 := nth_col (f := RegK.own) k0 hk2
      unfold VwD.reg
      rw [← e1, ← e2]
      have q1 : v.regs.map RegK.own = o.regs.map RegK.own := q1
      rw [q1]
    have hneg := (hw.neg k k0 (by omega)).2
    generalize hA : v.reg k = A at hjk hownk hnj hneg
    have hk1u : ∀ {K : RegK}, k < (v'.upd k K).regs.length := by intro K; rw [VwD.upd_len]; exact hk1
    rw [← VwD.upd_id k0 hk1 (v := v'), hjk] at hX
    obtain ⟨z, s, g1, g2, g3, g4⟩ := hO _ hS.right.at_
    obtain ⟨d1, d2, d3, d4, d5, d6⟩ := rk g3 k0 hk2
    obtain ⟨a1, a2, _⟩ := rku (hX.rd hS) k0 hk1
    refine ⟨x, hX.ld0 hS, (hX.rd hS).ix k0 hk1u, z, g1, g3.ix k0 hk2, ?_⟩
    refine ⟨_, _, _, _, _, _, ⟨d1, d2, d3, d4, d5, d6⟩, .refl _, _, a2, fun hq => ?_, fun hq => ?_⟩
    · simp only [bls] at hq
      rw [hnj hq]
      exact ⟨rfl, hS.sub⟩
    simp only [bls] at hq
    have hown' := hownk hq
    refine ⟨_, a1, fun hq1 => ?_, fun hq1 => ?_⟩
    · simp only [bls] at hq1
      refine hX.s0 hS k0 hk1u (by constructor <;> omega) rfl ?_
      clear hX hS g1 g2 g3 g4 d1 d2 d3 d4 d5 d6 a1 a2
      intro w2 I2 hX hS
      rw [VwD.upd_upd, VwD.upd_self k0 hk1] at hX
      try dsimp only at hX
      obtain ⟨b1, _, _, b4, _, _⟩ := rku (hX.rd hS) k0 hk1
      refine ⟨_, b4, ?_⟩
      refine ⟨_, fun _ => b1, ?_⟩
      refine ⟨fun hq2 => ?_, fun hq2 => ?_⟩
      · simp only [bls] at hq2
        refine hX.s3 hS k0 hk1u (by constructor <;> omega) rfl ?_
        clear hX hS b1 b4
        intro w6 I6 hX hS
        rw [VwD.upd_upd, VwD.upd_self k0 hk1] at hX
        try dsimp only at hX
        obtain ⟨c1, _, _, _, c5, c6⟩ := rku (hX.rd hS) k0 hk1
        refine ⟨_, c5, ?_⟩
        refine ⟨_, fun _ => c6, _, fun _ => c1, ?_⟩
        refine ⟨fun hq3 => ?_, fun hq3 => ?_⟩
        · simp only [bls] at hq3
          refine hX.s4 hS k0 hk1u (by constructor <;> omega) rfl ?_
          clear hX hS c1 c5 c6
          intro w7 I7 hX hS
          rw [VwD.upd_upd, VwD.upd_self k0 hk1] at hX
          try dsimp only at hX
          refine hX.s5 hS k0 hk1u (by constructor <;> omega) rfl ?_
          clear hX hS
          intro w8 I8 hX hS
          rw [VwD.upd_upd, VwD.upd_self k0 hk1] at hX
          try dsimp only at hX
          obtain ⟨_, _, d3, _, _, _⟩ := rku (hX.rd hS) k0 hk1
          refine ⟨_, d3, ?_⟩
          refine hX.s2 hS k0 hk1u rfl ?_
          clear hX hS
          intro w9 I9 hX hS
          rw [VwD.upd_upd, VwD.upd_self k0 hk1] at hX
          try dsimp only at hX
          refine go_wr (by omega) (by omega) ?_
          refine ⟨⟨_, I9, hX, hS, by omega, by omega, by rw [VwD.upd_len]; exact hl', hk', hown', fun j j0 j1 => ?_⟩, by omega⟩
          rw [VwD.upd_reg k0 hk1 j j0]
          by_cases e : j = k
          · subst e
            rw [if_pos rfl, if_pos (by omega), hA]
            unfold joinR
            dsimp only
            congr 1
            all_goals
              repeat' split
              all_goals omega
          · rw [if_neg e, hj j j0 j1]
            by_cases e2 : j < k
            · rw [if_pos e2, if_pos (by omega)]
            · rw [if_neg e2, if_neg (by omega)]
        · simp only [bls] at hq3
          obtain ⟨_, _, d3, _, _, _⟩ := rku (hX.rd hS) k0 hk1
          refine ⟨_, d3, ?_⟩
          refine hX.s2 hS k0 hk1u rfl ?_
          clear hX hS
          intro w9 I9 hX hS
          rw [VwD.upd_upd, VwD.upd_self k0 hk1] at hX
          try dsimp only at hX
          refine go_wr (by omega) (by omega) ?_
          refine ⟨⟨_, I9, hX, hS, by omega, by omega, by rw [VwD.upd_len]; exact hl', hk', hown', fun j j0 j1 => ?_⟩, by omega⟩
          rw [VwD.upd_reg k0 hk1 j j0]
          by_cases e : j = k
          · subst e
            rw [if_pos rfl, if_pos (by omega), hA]
            unfold joinR
            dsimp only
            congr 1
            all_goals
              repeat' split
              all_goals omega
          · rw [if_neg e, hj j j0 j1]
            by_cases e2 : j < k
            · rw [if_pos e2, if_pos (by omega)]
            · rw [if_neg e2, if_neg (by omega)]
      · simp only [bls] at hq2
        obtain ⟨c1, _, _, _, c5, c6⟩ := rku (hX.rd hS) k0 hk1
        refine ⟨_, c5, ?_⟩
        refine ⟨_, fun _ => c6, _, fun _ => c1, ?_⟩
        refine ⟨fun hq3 => ?_, fun hq3 => ?_⟩
        · simp only [bls] at hq3
          refine hX.s4 hS k0 hk1u (by constructor <;> omega) rfl ?_
          clear hX hS c1 c5 c6
          intro w7 I7 hX hS
          rw [VwD.upd_upd, VwD.upd_self k0 hk1] at hX
          try dsimp only at hX
          refine hX.s5 hS k0 hk1u (by constructor <;> omega) rfl ?_
          clear hX hS
          intro w8 I8 hX hS
          rw [VwD.upd_upd, VwD.upd_self k0 hk1] at hX
          try dsimp only at hX
          obtain ⟨_, _, d3, _, _, _⟩ := rku (hX.rd hS) k0 hk1
          refine ⟨_, d3, ?_⟩
          refine hX.s2 hS k0 hk1u rfl ?_
          clear hX hS
          intro w9 I9 hX hS
          rw [VwD.upd_upd, VwD.upd_self k0 hk1] at hX
          try dsimp only at hX
          refine go_wr (by omega) (by omega) ?_
          refine ⟨⟨_, I9, hX, hS, by omega, by omega, by rw [VwD.upd_len]; exact hl', hk', hown', fun j j0 j1 => ?_⟩, by omega⟩
          rw [VwD.upd_reg k0 hk1 j j0]
          by_cases e : j = k
          · subst e
            rw [if_pos rfl, if_pos (by omega), hA]
            unfold joinR
            dsimp only
            congr 1
            all_goals
              repeat' split
              all_goals omega
          · rw [if_neg e, hj j j0 j1]
            by_cases e2 : j < k
            · rw [if_pos e2, if_pos (by omega)]
            · rw [if_neg e2, if_neg (by omega)]
        · simp only [bls] at hq3
          obtain ⟨_, _, d3, _, _, _⟩ := rku (hX.rd hS) k0 hk1
          refine ⟨_, d3, ?_⟩
          refine hX.s2 hS k0 hk1u rfl ?_
          clear hX hS
          intro w9 I9 hX hS
          rw [VwD.upd_upd, VwD.upd_self k0 hk1] at hX
          try dsimp only at hX
          refine go_wr (by omega) (by omega) ?_
          refine ⟨⟨_, I9, hX, hS, by omega, by omega, by rw [VwD.upd_len]; exact hl', hk', hown', fun j j0 j1 => ?_⟩, by omega⟩
          rw [VwD.upd_reg k0 hk1 j j0]
          by_cases e : j = k
          · subst e
            rw [if_pos rfl, if_pos (by omega), hA]
            unfold joinR
            dsimp only
            congr 1
            all_goals
              repeat' split
              all_goals omega
          · rw [if_neg e, hj j j0 j1]
            by_cases e2 : j < k
            · rw [if_pos e2, if_pos (by omega)]
            · rw [if_neg e2, if_neg (by omega)]
    · simp only [bls] at hq1
      obtain ⟨b1, _, _, b4, _, _⟩ := rku (hX.rd hS) k0 hk1
      refine ⟨_, b4, ?_⟩
      refine ⟨_, fun _ => b1, ?_⟩
      refine ⟨fun hq2 => ?_, fun hq2 => ?_⟩
      · simp only [bls] at hq2
        refine hX.s3 hS k0 hk1u (by constructor <;> omega) rfl ?_
        clear hX hS b1 b4
        intro w6 I6 hX hS
        rw [VwD.upd_upd, VwD.upd_self k0 hk1] at hX
        try dsimp only at hX
        obtain ⟨c1, _, _, _, c5, c6⟩ := rku (hX.rd hS) k0 hk1
        refine ⟨_, c5, ?_⟩
        refine ⟨_, fun _ => c6, _, fun _ => c1, ?_⟩
        refine ⟨fun hq3 => ?_, fun hq3 => ?_⟩
        · simp only [bls] at hq3
          refine hX.s4 hS k0 hk1u (by constructor <;> omega) rfl ?_
          clear hX hS c1 c5 c6
          intro w7 I7 hX hS
          rw [VwD.upd_upd, VwD.upd_self k0 hk1] at hX
          try dsimp only at hX
          refine hX.s5 hS k0 hk1u (by constructor <;> omega) rfl ?_
          clear hX hS
          intro w8 I8 hX hS
          rw [VwD.upd_upd, VwD.upd_self k0 hk1] at hX
          try dsimp only at hX
          obtain ⟨_, _, d3, _, _, _⟩ := rku (hX.rd hS) k0 hk1
          refine ⟨_, d3, ?_⟩
          refine hX.s2 hS k0 hk1u rfl ?_
          clear hX hS
          intro w9 I9 hX hS
          rw [VwD.upd_upd, VwD.upd_self k0 hk1] at hX
          try dsimp only at hX
          refine go_wr (by omega) (by omega) ?_
          refine ⟨⟨_, I9, hX, hS, by omega, by omega, by rw [VwD.upd_len]; exact hl', hk', hown', fun j j0 j1 => ?_⟩, by omega⟩
          rw [VwD.upd_reg k0 hk1 j j0]
          by_cases e : j = k
          · subst e
            rw [if_pos rfl, if_pos (by omega), hA]
            unfold joinR
            dsimp only
            congr 1
            all_goals
              repeat' split
              all_goals omega
          · rw [if_neg e, hj j j0 j1]
            by_cases e2 : j < k
            · rw [if_pos e2, if_pos (by omega)]
            · rw [if_neg e2, if_neg (by omega)]
        · simp only [bls] at hq3
          obtain ⟨_, _, d3, _, _, _⟩ := rku (hX.rd hS) k0 hk1
          refine ⟨_, d3, ?_⟩
          refine hX.s2 hS k0 hk1u rfl ?_
          clear hX hS
          intro w9 I9 hX hS
          rw [VwD.upd_upd, VwD.upd_self k0 hk1] at hX
          try dsimp only at hX
          refine go_wr (by omega) (by omega) ?_
          refine ⟨⟨_, I9, hX, hS, by omega, by omega, by rw [VwD.upd_len]; exact hl', hk', hown', fun j j0 j1 => ?_⟩, by omega⟩
          rw [VwD.upd_reg k0 hk1 j j0]
          by_cases e : j = k
          · subst e
            rw [if_pos rfl, if_pos (by omega), hA]
            unfold joinR
            dsimp only
            congr 1
            all_goals
              repeat' split
              all_goals omega
          · rw [if_neg e, hj j j0 j1]
            by_cases e2 : j < k
            · rw [if_pos e2, if_pos (by omega)]
            · rw [if_neg e2, if_neg (by omega)]
      · simp only [bls] at hq2
        obtain ⟨c1, _, _, _, c5, c6⟩ := rku (hX.rd hS) k0 hk1
        refine ⟨_, c5, ?_⟩
        refine ⟨_, fun _ => c6, _, fun _ => c1, ?_⟩
        refine ⟨fun hq3 => ?_, fun hq3 => ?_⟩
        · simp only [bls] at hq3
          refine hX.s4 hS k0 hk1u (by constructor <;> omega) rfl ?_
          clear hX hS c1 c5 c6
          intro w7 I7 hX hS
          rw [VwD.upd_upd, VwD.upd_self k0 hk1] at hX
          try dsimp only at hX
          refine hX.s5 hS k0 hk1u (by constructor <;> omega) rfl ?_
          clear hX hS
          intro w8 I8 hX hS
          rw [VwD.upd_upd, VwD.upd_self k0 hk1] at hX
          try dsimp only at hX
          obtain ⟨_, _, d3, _, _, _⟩ := rku (hX.rd hS) k0 hk1
          refine ⟨_, d3, ?_⟩
          refine hX.s2 hS k0 hk1u rfl ?_
          clear hX hS
          intro w9 I9 hX hS
          rw [VwD.upd_upd, VwD.upd_self k0 hk1] at hX
          try dsimp only at hX
          refine go_wr (by omega) (by omega) ?_
          refine ⟨⟨_, I9, hX, hS, by omega, by omega, by rw [VwD.upd_len]; exact hl', hk', hown', fun j j0 j1 => ?_⟩, by omega⟩
          rw [VwD.upd_reg k0 hk1 j j0]
          by_cases e : j = k
          · subst e
            rw [if_pos rfl, if_pos (by omega), hA]
            unfold joinR
            dsimp only
            congr 1
            all_goals
              repeat' split
              all_goals omega
          · rw [if_neg e, hj j j0 j1]
            by_cases e2 : j < k
            · rw [if_pos e2, if_pos (by omega)]
            · rw [if_neg e2, if_neg (by omega)]
        · simp only [bls] at hq3
          obtain ⟨_, _, d3, _, _, _⟩ := rku (hX.rd hS) k0 hk1
          refine ⟨_, d3, ?_⟩
          refine hX.s2 hS k0 hk1u rfl ?_
          clear hX hS
          intro w9 I9 hX hS
          rw [VwD.upd_upd, VwD.upd_self k0 hk1] at hX
          try dsimp only at hX
          refine go_wr (by omega) (by omega) ?_
          refine ⟨⟨_, I9, hX, hS, by omega, by omega, by rw [VwD.upd_len]; exact hl', hk', hown', fun j j0 j1 => ?_⟩, by omega⟩
          rw [VwD.upd_reg k0 hk1 j j0]
          by_cases e : j = k
          · subst e
            rw [if_pos rfl, if_pos (by omega), hA]
            unfold joinR
            dsimp only
            congr 1
            all_goals
              repeat' split
              all_goals omega
          · rw [if_neg e, hj j j0 j1]
            by_cases e2 : j < k
            · rw [if_pos e2, if_pos (by omega)]
            · rw [if_neg e2, if_neg (by omega)]
  · simp only [bls] at hi
    have hmap : v.regs.map (fun k => k.own) = o.regs.map (fun k => k.own) := by
      refine List.ext_getElem (by simp; omega) fun j j1 j2 => ?_
      simp only [List.length_map] at j1 j2
      simp only [List.getElem_map]
      have := hown j (by omega) (by omega)
      unfold VwD.reg nth at this
      simpa [List.getD, j1, j2] using this
    have e : joinV v o = some v' := by
      unfold joinV
      rw [if_pos ⟨hmap, hc⟩]
      congr 1
      refine VwD.ext' (by simp only [List.length_zipWith]; omega) (fun j j0 j1 => ?_) hk'.symm
      simp only [List.length_zipWith] at j1
      rw [hj j j0 (by omega), if_pos (by omega)]
      exact zip_reg (by omega) j0 (by omega)
    rw [e]
    exact ⟨I', rfl, ⟨x, y, hX⟩, hS⟩
end
end Go.Vc

namespace Go.Vc
open Go Go.Proofs Go.RowKit
set_option linter.all false
open Classical in
/-- the types that the arguments must have, and the result's -/
noncomputable def wantT (ds : List DeclD) (ss : List SigD) (rr op num t0 : Int) : Option (List Int × Int) :=
  if op = 0 then some ([], 0)
  else if op = 1 ∨ op = 2 ∨ op = 3 ∨ op = 4 then some ([0, 0], 0)
  else if op = 5 ∨ op = 20 then some ([0], 0)
  else if op = 6 then some (conF ds num, conTyV ds num)
  else if op = 9 then some ((nth ss num).params, (nth ss num).result)
  else if op = 24 then (if (nth ss num).result = rr then some ((nth ss num).params, (nth ss num).result) else none)
  else if op = 10 then (if 0 < arrI ds (nth (nth ss num).params (((nth ss num).params.length : Int) - 1)) (nth ss num).result then some ((nth ss num).params.take ((nth ss num).params.length - 1), arrI ds (nth (nth ss num).params (((nth ss num).params.length : Int) - 1)) (nth ss num).result) else none)
  else if op = 11 then (if isArr ds t0 then some ([t0, (nth ds (t0 - 1)).frm], (nth ds (t0 - 1)).to_) else none)
  else if op = 23 then some ([rr], 0)
  else none
open Classical in
/-- what comes behind the consuming -/
noncomputable def finV (c : InstrD) (res : Int) (v : VwD) : Option VwD :=
  if c.op = 23 ∨ c.op = 24 then (if closedV v then some v else none) else (intoV c v).bind fun v' => if setsR c.op = true then setW v' c.dst res (min res 1) else some v'
theorem two_el {T : List Int} (h : T.length = 2) : T = [nth T 0, nth T 1] := by
  match T, h with
  | [p, q], _ => rfl
section
variable {u v w : World} {vv v' o : VwD} {a a1 : Addr} {r t n i m op num rr f e_ at_ : Int} {x y z s ax jx tx : Sl} {I R L : Items} {N B : Nat} {ds : List DeclD} {ss : List SigD} {T : List Int} {c : InstrD}
theorem min_own (h : 0 ≤ t) : min t 1 = ownOf t := by unfold ownOf; split <;> omega
theorem c_kArrowOf (hx : Read v x ds) (hl : ds.length ≤ 4) : Fn Tryz.prog 143 #[x.val, .int .i64 f, .int .i64 t] v (.int .i64 (arrI ds f t)) := by
  refine of143 _ _ _ _ _ ?_
  unfold vc143
  have hn := hx.n
  refine ⟨fun i w => v = w ∧ 0 ≤ i ∧ i ≤ ds.length ∧ ∀ j : Int, 0 ≤ j → j < i → ¬ arrP ds f t j, fun i _ => (ds.length - i).toNat, ⟨rfl, by omega, by omega, fun j j0 j1 => by omega⟩, ?_⟩
  rintro i _ ⟨rfl, i0, i1, hj⟩
  refine ⟨fun hi => ?_, fun hi => ?_⟩
  · simp only [bls] at hi
    have hil : i < ds.length := by omega
    obtain ⟨f_cons, e1, e2, e3, j1, j2, r1⟩ := (hx.src (.refl v)).ofDeclD i0 hil
    have hcn := r1.n
    refine go_ix hx i0 hil ?_
    refine ⟨_, _, f_cons, ⟨e1, e2, e3⟩, ?_⟩
    refine ⟨fun hq => ?_, fun hq => ?_⟩
    · simp only [bls] at hq
      refine go_wr (by omega) (by omega) ?_
      exact ⟨by rw [arrI_some i0 hil ⟨by omega, hq.1.2, hq.2⟩ hj], .refl _⟩
    · refine go_wr (by omega) (by omega) ?_
      refine ⟨⟨rfl, by omega, by omega, fun j j0 j1 => ?_⟩, by dsimp only; omega⟩
      by_cases e : j = i
      · subst e
        rintro ⟨q1, q2, q3⟩
        have : f_cons.n = 0 := by omega
        simp [this, q2, q3] at hq
      · exact hj j j0 (by omega)
  · simp only [bls] at hi
    exact ⟨by rw [arrI_none fun j j0 j1 => hj j j0 (by omega)], .refl _⟩
theorem c_arrowAt (hx : Read v x ds) (hl : ds.length ≤ 4) : ∃ (b c : Int) (z : Sl) (q : Bool), (q = true ↔ isArr ds t) ∧ (q = true → b = (nth ds (t - 1)).frm ∧ c = (nth ds (t - 1)).to_) ∧ Fn Tryz.prog 142 #[x.val, .int .i64 t] v (.tuple #[.agg #[.int .i64 b, .int .i64 c, z.val], .bool q]) := by
  have hn := hx.n
  by_cases hk : isArr ds t
  · obtain ⟨k1, k2, k3⟩ := hk
    obtain ⟨f_cons, e1, e2, e3, j1, j2, r1⟩ := (hx.src (.refl v)).ofDeclD (i := t - 1) (by omega) (by omega)
    have hcn := r1.n
    refine ⟨_, _, f_cons, true, ⟨fun _ => ⟨k1, k2, k3⟩, fun _ => rfl⟩, fun _ => ⟨rfl, rfl⟩, ?_⟩
    refine of142 _ _ _ _ ?_
    unfold vc142
    refine go_wrg (fun _ => by omega) ?_
    refine go_ixg hx (fun _ => by omega) ?_
    refine ⟨f_cons, fun _ => e3, fun hq => ?_, fun hq => ?_⟩
    · simp only [bls] at hq; omega
    · refine go_wr (by omega) (by omega) ?_
      refine go_ix hx (by omega) (by omega) ?_
      exact ⟨_, _, f_cons, ⟨e1, e2, e3⟩, rfl, .refl _⟩
  · refine ⟨0, 0, ⟨none, 0, 0⟩, false, ⟨(fun h => by cases h), fun h => absurd h hk⟩, (fun h => by cases h), ?_⟩
    refine of142 _ _ _ _ ?_
    unfold vc142
    have hg : ((decide (t < 1)) || (decide (t > (x.n : Int)))) = false → 1 ≤ t ∧ t ≤ ds.length := fun h => by simp only [bls] at h; omega
    refine go_wrg (fun h => by have := hg h; omega) ?_
    refine go_ixg hx (fun h => by have := hg h; omega) ?_
    refine ldg_decl_cons (hx.src (.refl v)) (fun h => by have := hg h; omega) ?_
    intro g hr
    refine ⟨fun hq => ⟨rfl, .refl _⟩, fun hq => ?_⟩
    exfalso
    simp only [bls] at hq
    have := (hr (by simp only [Bool.or_eq_false_iff, decide_eq_false_iff_not]; omega)).n
    exact hk ⟨by omega, by omega, by omega⟩
theorem c_simpleType (hx : Read v x ds) (hs : Read v s ss) (hT : Read v tx T) (hsg : sigSigs ds ss) (hop : op = 0 ∨ (op = 1 ∨ op = 2 ∨ op = 3 ∨ op = 4) ∨ op = 5 ∨ op = 6 ∨ op = 9 ∨ op = 10 ∨ op = 11)
    (hn0 : op = 0 → -999 ≤ num ∧ num ≤ 999) (hn1 : (op = 1 ∨ op = 2 ∨ op = 3 ∨ op = 4 ∨ op = 5 ∨ op = 11) → num = 0) (hn6 : op = 6 → 0 ≤ conTyV ds num ∧ -1000000 ≤ num ∧ num ≤ 1000000) (hn9 : op = 9 ∨ op = 10 → 0 ≤ num ∧ num < ss.length) (hn10 : op = 10 → 1 ≤ (nth ss num).params.length) (hT11 : op = 11 → T.length = 2) :
    ∃ (n : Int) (q : Bool), Fn Tryz.prog 139 #[.agg #[x.val, s.val], .int .i64 op, .int .i64 num, tx.val] v (.tuple #[.int .i64 n, .bool q]) ∧ (q = true → wantT ds ss rr op num (nth T 0) = some (T, n)) ∧ (q = false → ∀ n, wantT ds ss rr op num (nth T 0) ≠ some (T, n)) := by
  classical
  have hTn := hT.n
  have hsn := hs.n
  have hS := St.refl v
  rcases hop with hop | hop | hop | hop | hop | hop | hop
  · have hb := hn0 hop
    refine ⟨0, decide (T = []), ?_, fun hq => ?_, fun hq n => ?_⟩
    · refine of139 _ _ _ _ _ _ _ ?_
      unfold vc139
      repeat (first | refine ⟨fun h => absurd (of_decide_eq_true h) (by omega), fun _ => ?_⟩ | refine ⟨fun _ => ?_, fun h => absurd (of_decide_eq_false h) (by omega)⟩)
      refine ⟨?_, .refl _⟩
      have e : ((decide (num ≥ (-999)) && decide (num ≤ 999)) && decide ((tx.n : Int) = 0)) = decide (T = []) := by
        rw [Bool.eq_iff_iff]
        simp only [Bool.and_eq_true, decide_eq_true_eq, ← List.length_eq_zero_iff]
        constructor
        · intro h; omega
        · intro h; exact ⟨⟨by omega, by omega⟩, by omega⟩
      rw [e]
    · rw [show wantT ds ss rr op num (nth T 0) = some ([], 0) from by (unfold wantT; repeat (first | rw [if_neg (by omega)] | rw [if_pos (by omega)])), of_decide_eq_true hq]
    · rw [show wantT ds ss rr op num (nth T 0) = some ([], 0) from by (unfold wantT; repeat (first | rw [if_neg (by omega)] | rw [if_pos (by omega)]))]
      intro h; cases h; simp at hq
  · have hb := hn1 (by omega)
    refine ⟨0, decide (T = [0, 0]), ?_, fun hq => ?_, fun hq n => ?_⟩
    · refine of139 _ _ _ _ _ _ _ ?_
      unfold vc139
      rcases hop with hop | hop | hop | hop
      all_goals
        repeat (first | refine ⟨fun h => absurd (of_decide_eq_true h) (by omega), fun _ => ?_⟩ | refine ⟨fun _ => ?_, fun h => absurd (of_decide_eq_false h) (by omega)⟩)
        refine St.build (α := Int) hS (by (repeat' (first | exact VsOf.nil | apply VsOf.cons | (apply VOf.int; first | assumption | (constructor <;> first | omega | (simp only [List.length_set, List.length_append, List.length_replicate, List.length_cons, List.length_nil, List.length_take, List.length_drop, List.length_map, List.length_singleton] at *; omega))) | exact VOf.bool | exact VOf.str))) rfl (by decide) ?_
        intro z w1 J hO hS hs
        refine ⟨_, rfl, _, fun _ => c_slicesEqualK (hT.mono hs) (hO.read hS), ?_, hS.sub⟩
        rw [hb]; simp
    · rw [show wantT ds ss rr op num (nth T 0) = some ([0, 0], 0) from by (unfold wantT; repeat (first | rw [if_neg (by omega)] | rw [if_pos (by omega)])), of_decide_eq_true hq]
    · rw [show wantT ds ss rr op num (nth T 0) = some ([0, 0], 0) from by (unfold wantT; repeat (first | rw [if_neg (by omega)] | rw [if_pos (by omega)]))]
      intro h; cases h; simp at hq
  · have hb := hn1 (by omega)
    refine ⟨0, decide (T = [0]), ?_, fun hq => ?_, fun hq n => ?_⟩
    · refine of139 _ _ _ _ _ _ _ ?_
      unfold vc139
      repeat (first | refine ⟨fun h => absurd (of_decide_eq_true h) (by omega), fun _ => ?_⟩ | refine ⟨fun _ => ?_, fun h => absurd (of_decide_eq_false h) (by omega)⟩)
      refine St.build (α := Int) hS (by (repeat' (first | exact VsOf.nil | apply VsOf.cons | (apply VOf.int; first | assumption | (constructor <;> first | omega | (simp only [List.length_set, List.length_append, List.length_replicate, List.length_cons, List.length_nil, List.length_take, List.length_drop, List.length_map, List.length_singleton] at *; omega))) | exact VOf.bool | exact VOf.str))) rfl (by decide) ?_
      intro z w1 J hO hS hs
      refine ⟨_, rfl, _, fun _ => c_slicesEqualK (hT.mono hs) (hO.read hS), ?_, hS.sub⟩
      rw [hb]; simp
    · rw [show wantT ds ss rr op num (nth T 0) = some ([0], 0) from by (unfold wantT; repeat (first | rw [if_neg (by omega)] | rw [if_pos (by omega)])), of_decide_eq_true hq]
    · rw [show wantT ds ss rr op num (nth T 0) = some ([0], 0) from by (unfold wantT; repeat (first | rw [if_neg (by omega)] | rw [if_pos (by omega)]))]
      intro h; cases h; simp at hq
  · obtain ⟨hb, hb1⟩ := hn6 hop
    obtain ⟨z, hz, hf⟩ := c_conAt (n := num) hx hsg.1.sm hb1
    refine ⟨conTyV ds num, decide (T = conF ds num), ?_, fun hq => ?_, fun hq n => ?_⟩
    · refine of139 _ _ _ _ _ _ _ ?_
      unfold vc139
      repeat (first | refine ⟨fun h => absurd (of_decide_eq_true h) (by omega), fun _ => ?_⟩ | refine ⟨fun _ => ?_, fun h => absurd (of_decide_eq_false h) (by omega)⟩)
      refine ⟨_, z, hf, _, fun _ => c_slicesEqualK hT hz, ?_, hS.sub⟩
      rw [show decide (conTyV ds num ≥ 0) = true from decide_eq_true hb, Bool.true_and]
    · rw [show wantT ds ss rr op num (nth T 0) = some (conF ds num, conTyV ds num) from by (unfold wantT; repeat (first | rw [if_neg (by omega)] | rw [if_pos (by omega)])), ← of_decide_eq_true hq]
    · rw [show wantT ds ss rr op num (nth T 0) = some (conF ds num, conTyV ds num) from by (unfold wantT; repeat (first | rw [if_neg (by omega)] | rw [if_pos (by omega)]))]
      intro h; cases h; simp at hq
  · have hb := hn9 (by omega)
    obtain ⟨px', lx', e1, e2, e3, i1, r1, r2⟩ := (hs.src (.refl v)).ofSigD hb.1 hb.2
    refine ⟨(nth ss num).result, decide (T = (nth ss num).params), ?_, fun hq => ?_, fun hq n => ?_⟩
    · refine of139 _ _ _ _ _ _ _ ?_
      unfold vc139
      repeat (first | refine ⟨fun h => absurd (of_decide_eq_true h) (by omega), fun _ => ?_⟩ | refine ⟨fun _ => ?_, fun h => absurd (of_decide_eq_false h) (by omega)⟩)
      refine ⟨fun hq => ?_, fun hq => ?_⟩
      · simp only [bls] at hq; omega
      refine ⟨hs.ix hb.1 hb.2, px', e1, hs.ix hb.1 hb.2, _, e3, ?_⟩
      repeat (first | refine ⟨fun h => absurd (of_decide_eq_true h) (by omega), fun _ => ?_⟩ | refine ⟨fun _ => ?_, fun h => absurd (of_decide_eq_false h) (by omega)⟩)
      exact ⟨_, c_slicesEqualK hT r1, rfl, hS.sub⟩
    · rw [show wantT ds ss rr op num (nth T 0) = some ((nth ss num).params, (nth ss num).result) from by (unfold wantT; repeat (first | rw [if_neg (by omega)] | rw [if_pos (by omega)])), ← of_decide_eq_true hq]
    · rw [show wantT ds ss rr op num (nth T 0) = some ((nth ss num).params, (nth ss num).result) from by (unfold wantT; repeat (first | rw [if_neg (by omega)] | rw [if_pos (by omega)]))]
      intro h; cases h; simp at hq
  · have hb := hn9 (by omega)
    have hb2 := hn10 hop
    have hpl : (nth ss num).params.length ≤ 3 := (hsg.2.2.2.2.2 num hb.1 hb.2).1.1
    have hbd := arrI_bd (ds := ds) (f := nth (nth ss num).params (((nth ss num).params.length : Int) - 1)) (t := (nth ss num).result) hsg.1.1
    obtain ⟨px', lx', e1, e2, e3, i1, r1, r2⟩ := (hs.src (.refl v)).ofSigD hb.1 hb.2
    have hpn := r1.n
    have hcap : px'.n ≤ px'.c := by obtain ⟨rows, hr, _⟩ := r1; exact hr.2.1
    have hcut := r1.cut (lo := 0) (hi := ((nth ss num).params.length : Int) - 1) (by omega) (by omega) (by omega)
    rw [show (((nth ss num).params.length : Int) - 1).toNat = (nth ss num).params.length - 1 from by omega, show ((0 : Int)).toNat = 0 from rfl, List.drop_zero] at hcut
    have ew : wantT ds ss rr op num (nth T 0) = if 0 < arrI ds (nth (nth ss num).params (((nth ss num).params.length : Int) - 1)) (nth ss num).result then some ((nth ss num).params.take ((nth ss num).params.length - 1), arrI ds (nth (nth ss num).params (((nth ss num).params.length : Int) - 1)) (nth ss num).result) else none := by (unfold wantT; repeat (first | rw [if_neg (by omega)] | rw [if_pos (by omega)]))
    refine ⟨arrI ds (nth (nth ss num).params (((nth ss num).params.length : Int) - 1)) (nth ss num).result, decide (arrI ds (nth (nth ss num).params (((nth ss num).params.length : Int) - 1)) (nth ss num).result ≥ 0) && decide (T = (nth ss num).params.take ((nth ss num).params.length - 1)), ?_, fun hq => ?_, fun hq n => ?_⟩
    · refine of139 _ _ _ _ _ _ _ ?_
      unfold vc139
      repeat (first | refine ⟨fun h => absurd (of_decide_eq_true h) (by omega), fun _ => ?_⟩ | refine ⟨fun _ => ?_, fun h => absurd (of_decide_eq_false h) (by omega)⟩)
      refine ⟨fun hq => ?_, fun hq => ?_⟩
      · simp only [bls] at hq; omega
      refine ⟨hs.ix hb.1 hb.2, px', e1, hs.ix hb.1 hb.2, _, e3, ?_⟩
      refine ⟨fun h => absurd (of_decide_eq_true h) (by omega), fun _ => ?_⟩
      rw [hpn]
      refine go_wr (by omega) (by omega) ?_
      refine ⟨fun hq => ?_, fun hq => ?_⟩
      · simp only [bls] at hq; omega
      refine go_ix r1 (by omega) (by omega) ?_
      refine ld_int r1 (by omega) (by omega) fun _ _ => ?_
      refine ⟨_, c_kArrowOf hx hsg.1.1, ?_⟩
      refine ⟨fun _ => ⟨by omega, by omega, by omega⟩, _, fun _ => c_slicesEqualK hT hcut, rfl, hS.sub⟩
    · simp only [Bool.and_eq_true, decide_eq_true_eq] at hq
      rw [ew, if_pos (by omega), ← hq.2]
    · rw [ew]
      intro h
      split at h
      · rename_i hp
        cases h
        simp at hq
        omega
      · cases h
  · have hb := hn1 (by omega)
    have hl2 := hT11 hop
    obtain ⟨b, cc, z, q, hq1, hq2, hf⟩ := c_arrowAt (t := nth T 0) hx hsg.1.1
    have ew : wantT ds ss rr op num (nth T 0) = if isArr ds (nth T 0) then some ([nth T 0, (nth ds (nth T 0 - 1)).frm], (nth ds (nth T 0 - 1)).to_) else none := by (unfold wantT; repeat (first | rw [if_neg (by omega)] | rw [if_pos (by omega)]))
    have hTe : T = [nth T 0, nth T 1] := two_el hl2
    refine ⟨cc, q && decide (nth T 1 = b), ?_, fun hq => ?_, fun hq n => ?_⟩
    · refine of139 _ _ _ _ _ _ _ ?_
      unfold vc139
      repeat (first | refine ⟨fun h => absurd (of_decide_eq_true h) (by omega), fun _ => ?_⟩ | refine ⟨fun _ => ?_, fun h => absurd (of_decide_eq_false h) (by omega)⟩)
      refine ⟨fun hq => ?_, fun hq => ?_⟩
      · simp only [bls] at hq; omega
      refine go_ix hT (by omega) (by omega) ?_
      refine ld_int hT (by omega) (by omega) fun _ _ => ?_
      refine ⟨b, cc, z, q, hf, .refl _, ?_⟩
      refine go_ixg hT (fun _ => by omega) ?_
      refine ld_intg hT (fun _ => by omega) ?_
      exact ⟨by rw [hb]; simp, .refl _⟩
    · simp only [Bool.and_eq_true, decide_eq_true_eq] at hq
      obtain ⟨e1, e2⟩ := hq2 hq.1
      rw [ew, if_pos (hq1.1 hq.1), ← e1, ← e2, ← hq.2]
      exact congrArg (fun T' => some (T', cc)) hTe.symm
    · rw [ew]
      intro h
      split at h
      · rename_i hp
        have hqt := hq1.2 hp
        obtain ⟨e1, e2⟩ := hq2 hqt
        rw [hqt] at hq
        simp only [Bool.true_and, decide_eq_false_iff_not] at hq
        apply hq
        rw [e1]
        simp only [Option.some.injEq, Prod.mk.injEq] at h
        have h1 := congrArg (fun l => nth l 1) h.1
        exact (show (nth ds (nth T 0 - 1)).frm = nth T 1 from h1).symm
      · cases h
theorem passV_use (h : InP ds ss N e_ at_ c) (hop : c.op = 0 ∨ (c.op = 1 ∨ c.op = 2 ∨ c.op = 3 ∨ c.op = 4) ∨ c.op = 5 ∨ c.op = 20 ∨ c.op = 6 ∨ c.op = 9 ∨ c.op = 24 ∨ c.op = 10 ∨ c.op = 11 ∨ c.op = 23) :
    passV ds ss rr c vv = (wantT ds ss rr c.op c.num (vv.reg (nth c.args 0)).typ).bind fun p => (argsV ss c p.1 vv).bind (finV c p.2) := by
  classical
  have hin := h.ok.2.2.2.2.2.1
  have hin0 : c.op ≠ 6 → c.into = 0 := fun hh => hin.resolve_right hh
  have fin0 : ∀ {res : Int} {v' : VwD}, c.op ≠ 6 → c.op ≠ 20 → c.op ≠ 23 → c.op ≠ 24 → 0 ≤ c.op → c.op ≤ 11 → finV c res v' = setW v' c.dst res (min res 1) := fun h1 h2 h3 h4 h5 h6 => by
    unfold finV
    rw [if_neg (by omega)]
    unfold intoV
    rw [if_pos (hin0 h1), Option.bind_some, if_pos]
    unfold setsR
    simp; omega
  rcases hop with hop | hop | hop | hop | hop | hop | hop | hop | hop | hop
  · rw [show wantT ds ss rr c.op c.num (vv.reg (nth c.args 0)).typ = some ([], 0) from by (unfold wantT; repeat (first | rw [if_neg (by omega)] | rw [if_pos (by omega)])), Option.bind_some]
    have ha : c.args.length = 0 := by have := h.ah; rw [(arg_0 (.inl hop)).2] at this; omega
    have : argsV ss c [] vv = some vv := by
      unfold argsV
      rw [if_pos ⟨by simp [ha], fun k k0 k1 => by simp at k1; omega⟩]
      simp only [List.length_nil, takesV, Option.bind_some]
      rw [if_pos]
      intro k k0 k1; omega
    rw [this, Option.bind_some, fin0 (by omega) (by omega) (by omega) (by omega) (by omega) (by omega)]
    rw [show passV ds ss rr c vv = setW vv c.dst 0 0 from by (unfold passV; repeat (first | rw [if_neg (by omega)] | rw [if_pos (by omega)]))]
    rfl
  · rw [show wantT ds ss rr c.op c.num (vv.reg (nth c.args 0)).typ = some ([0, 0], 0) from by (unfold wantT; repeat (first | rw [if_neg (by omega)] | rw [if_pos (by omega)])), Option.bind_some]
    rw [show passV ds ss rr c vv = (argsV ss c [0, 0] vv).bind fun v' => setW v' c.dst 0 0 from by (unfold passV; repeat (first | rw [if_neg (by omega)] | rw [if_pos (by omega)]))]
    congr 1; funext v'
    rw [fin0 (by omega) (by omega) (by omega) (by omega) (by omega) (by omega)]; rfl
  · rw [show wantT ds ss rr c.op c.num (vv.reg (nth c.args 0)).typ = some ([0], 0) from by (unfold wantT; repeat (first | rw [if_neg (by omega)] | rw [if_pos (by omega)])), Option.bind_some]
    rw [show passV ds ss rr c vv = (argsV ss c [0] vv).bind fun v' => setW v' c.dst 0 0 from by (unfold passV; repeat (first | rw [if_neg (by omega)] | rw [if_pos (by omega)]))]
    congr 1; funext v'
    rw [fin0 (by omega) (by omega) (by omega) (by omega) (by omega) (by omega)]; rfl
  · rw [show wantT ds ss rr c.op c.num (vv.reg (nth c.args 0)).typ = some ([0], 0) from by (unfold wantT; repeat (first | rw [if_neg (by omega)] | rw [if_pos (by omega)])), Option.bind_some]
    rw [show passV ds ss rr c vv = argsV ss c [0] vv from by (unfold passV; repeat (first | rw [if_neg (by omega)] | rw [if_pos (by omega)]))]
    have : finV c 0 = some := by
      funext v'
      unfold finV
      rw [if_neg (by omega)]
      unfold intoV
      rw [if_pos (hin0 (by omega)), Option.bind_some, if_neg]
      unfold setsR
      simp; omega
    show argsV ss c [0] vv = (argsV ss c [0] vv).bind (finV c 0)
    rw [this]; simp
  · rw [show wantT ds ss rr c.op c.num (vv.reg (nth c.args 0)).typ = some (conF ds c.num, conTyV ds c.num) from by (unfold wantT; repeat (first | rw [if_neg (by omega)] | rw [if_pos (by omega)])), Option.bind_some]
    rw [show passV ds ss rr c vv = (argsV ss c (conF ds c.num) vv).bind fun v' => (intoV c v').bind fun v' => setW v' c.dst (conTyV ds c.num) (ownOf (conTyV ds c.num)) from by (unfold passV; repeat (first | rw [if_neg (by omega)] | rw [if_pos (by omega)]))]
    congr 1; funext v'
    have hv := (numV_con hop).1 h.ok.2.2.2.2.2.2.2.2.1
    have hc := (conI_iff (ds := ds) (c := c.num)).2 ⟨hv.1, hv.2⟩
    have : 0 ≤ conTyV ds c.num := by unfold conTyV; rw [if_neg (by omega)]; omega
    unfold finV
    rw [if_neg (by omega)]
    congr 1; funext v''
    rw [if_pos, min_own this]
    unfold setsR; simp; omega
  · rw [show wantT ds ss rr c.op c.num (vv.reg (nth c.args 0)).typ = some ((nth ss c.num).params, (nth ss c.num).result) from by (unfold wantT; repeat (first | rw [if_neg (by omega)] | rw [if_pos (by omega)])), Option.bind_some]
    rw [show passV ds ss rr c vv = (argsV ss c (nth ss c.num).params vv).bind fun v' => setW v' c.dst (nth ss c.num).result (ownOf (nth ss c.num).result) from by (unfold passV; repeat (first | rw [if_neg (by omega)] | rw [if_pos (by omega)]))]
    congr 1; funext v'
    have hv := (numV_call (.inl hop)).1 h.ok.2.2.2.2.2.2.2.2.1
    have ht := (h.sg.2.2.2.2.2 c.num hv.1 hv.2).1.2.2
    unfold typeB at ht
    simp only [Bool.and_eq_true, decide_eq_true_eq] at ht
    rw [fin0 (by omega) (by omega) (by omega) (by omega) (by omega) (by omega), min_own (by omega)]
  · rw [show wantT ds ss rr c.op c.num (vv.reg (nth c.args 0)).typ = if (nth ss c.num).result = rr then some ((nth ss c.num).params, (nth ss c.num).result) else none from by (unfold wantT; repeat (first | rw [if_neg (by omega)] | rw [if_pos (by omega)]))]
    rw [show passV ds ss rr c vv = (argsV ss c (nth ss c.num).params vv).bind fun v' => if (nth ss c.num).result = rr ∧ closedV v' then some v' else none from by (unfold passV; repeat (first | rw [if_neg (by omega)] | rw [if_pos (by omega)]))]
    by_cases hr : (nth ss c.num).result = rr
    · rw [if_pos hr, Option.bind_some]
      congr 1; funext v'
      rw [show finV c (nth ss c.num).result v' = if closedV v' then some v' else none from by unfold finV; rw [if_pos (.inr hop)]]
      by_cases hc : closedV v'
      · rw [if_pos ⟨hr, hc⟩, if_pos hc]
      · rw [if_neg (fun h => hc h.2), if_neg hc]
    · rw [if_neg hr, Option.bind_none]
      cases argsV ss c (nth ss c.num).params vv with
      | none => rfl
      | some v' => rw [Option.bind_some, if_neg (fun h => hr h.1)]
  · rw [show passV ds ss rr c vv = if 0 < arrI ds (nth (nth ss c.num).params (((nth ss c.num).params.length : Int) - 1)) (nth ss c.num).result then (argsV ss c ((nth ss c.num).params.take ((nth ss c.num).params.length - 1)) vv).bind fun v' => setW v' c.dst (arrI ds (nth (nth ss c.num).params (((nth ss c.num).params.length : Int) - 1)) (nth ss c.num).result) (ownOf (arrI ds (nth (nth ss c.num).params (((nth ss c.num).params.length : Int) - 1)) (nth ss c.num).result)) else none from by (unfold passV; repeat (first | rw [if_neg (by omega)] | rw [if_pos (by omega)]))]
    rw [show wantT ds ss rr c.op c.num (vv.reg (nth c.args 0)).typ = if 0 < arrI ds (nth (nth ss c.num).params (((nth ss c.num).params.length : Int) - 1)) (nth ss c.num).result then some ((nth ss c.num).params.take ((nth ss c.num).params.length - 1), arrI ds (nth (nth ss c.num).params (((nth ss c.num).params.length : Int) - 1)) (nth ss c.num).result) else none from by (unfold wantT; repeat (first | rw [if_neg (by omega)] | rw [if_pos (by omega)]))]
    split
    · rename_i hp
      rw [Option.bind_some]
      congr 1; funext v'
      rw [fin0 (by omega) (by omega) (by omega) (by omega) (by omega) (by omega), min_own (by omega)]
    · rfl
  · rw [show passV ds ss rr c vv = if isArr ds (vv.reg (nth c.args 0)).typ then (argsV ss c [(vv.reg (nth c.args 0)).typ, (nth ds ((vv.reg (nth c.args 0)).typ - 1)).frm] vv).bind fun v' => setW v' c.dst (nth ds ((vv.reg (nth c.args 0)).typ - 1)).to_ (ownOf (nth ds ((vv.reg (nth c.args 0)).typ - 1)).to_) else none from by (unfold passV; repeat (first | rw [if_neg (by omega)] | rw [if_pos (by omega)]))]
    rw [show wantT ds ss rr c.op c.num (vv.reg (nth c.args 0)).typ = if isArr ds (vv.reg (nth c.args 0)).typ then some ([(vv.reg (nth c.args 0)).typ, (nth ds ((vv.reg (nth c.args 0)).typ - 1)).frm], (nth ds ((vv.reg (nth c.args 0)).typ - 1)).to_) else none from by (unfold wantT; repeat (first | rw [if_neg (by omega)] | rw [if_pos (by omega)]))]
    split
    · rename_i hp
      have := isArr_to h.sg.1 hp
      rw [Option.bind_some]
      congr 1; funext v'
      rw [fin0 (by omega) (by omega) (by omega) (by omega) (by omega) (by omega), min_own (by omega)]
    · rfl
  · rw [show wantT ds ss rr c.op c.num (vv.reg (nth c.args 0)).typ = some ([rr], 0) from by (unfold wantT; repeat (first | rw [if_neg (by omega)] | rw [if_pos (by omega)])), Option.bind_some]
    rw [show passV ds ss rr c vv = (argsV ss c [rr] vv).bind fun v' => if closedV v' then some v' else none from by (unfold passV; repeat (first | rw [if_neg (by omega)] | rw [if_pos (by omega)]))]
    congr 1; funext v'
    rw [show finV c 0 v' = if closedV v' then some v' else none from by unfold finV; rw [if_pos (.inl hop)]]
end
end Go.Vc
