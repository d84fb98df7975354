/- Part of the proofs about the heaps and memories: a law is joined in the text whose name ends in W and the law. -/
import Derived.Test.YtgabmgfbolhbbaaGreatEV5
import Derived.Laws.Pointers
namespace Go.Vc
open Go Go.Proofs Go.RowKit
set_option linter.all false
theorem go_ptrE {P : Program} {t : TypeId} (ht : P.underlying t = some (.pointer (P.pointee t))) {a b : Operand} {p : Option Addr} {w : World} {K : Bool → Prop} (k : K p.isNone) :
    ∃ q, PureT P (do eqGuard .eql t a b (.pointer p) (.pointer none); binOp .eql t (.pointer p) (.pointer none)) w (.bool q) ∧ K q := by
  refine ⟨_, pure_of (v := .bool p.isNone) (fun w => ?_) rfl, k⟩
  have e1 : (eqGuard .eql t a b (.pointer p) (.pointer none)).run P w = .ok () w := rfl
  have e2 : binOp .eql t (.pointer p) (.pointer none) = (do pure (.bool (← Op.equal t (.pointer p) (.pointer none)))) := rfl
  rw [Sem.run_bind, e1, Result.andThen_ok, e2, Sem.run_bind, run_equal_pointer_nil w t p ht]
  rfl
theorem go_ptrN {P : Program} {t : TypeId} (ht : P.underlying t = some (.pointer (P.pointee t))) {a b : Operand} {p : Option Addr} {w : World} {K : Bool → Prop} (k : K p.isSome) :
    ∃ q, PureT P (do eqGuard .neq t a b (.pointer p) (.pointer none); binOp .neq t (.pointer p) (.pointer none)) w (.bool q) ∧ K q := by
  refine ⟨_, pure_of (v := .bool p.isSome) (fun w => ?_) rfl, k⟩
  have e1 : (eqGuard .neq t a b (.pointer p) (.pointer none)).run P w = .ok () w := rfl
  have e2 : binOp .neq t (.pointer p) (.pointer none) = (do pure (.bool (! (← Op.equal t (.pointer p) (.pointer none))))) := rfl
  rw [Sem.run_bind, e1, Result.andThen_ok, e2, Sem.run_bind, run_equal_pointer_nil w t p ht]
  cases p <;> rfl
theorem knownPtr : Tryz.prog.underlying 65 = some (.pointer (Tryz.prog.pointee 65)) := by kernel_rfl
/-- what a verifier reads -/
structure Hd where
  x : Sl
  s : Sl
  px : Sl
  lx : Sl
  rr : Int
  nn : Int
  cx : Sl
def Hd.vals (h : Hd) (bx : Sl) : List Value := [h.x.val, h.s.val, h.px.val, h.lx.val, .int .i64 h.rr, .int .i64 h.nn, h.cx.val, bx.val]
/-- a verifier, in memory -/
def Vr (a : Addr) (hd : Hd) (F : List (Option VwD)) (I : Items) : Prop := ∃ (bx : Sl) (I0 I1 : Items), Cel a (hd.vals bx) I0 ∧ OwnD bx (F.map PV.mk : List (PV repK)) I1 ∧ I = I0 ++ I1
theorem Vr.hv {a : Addr} {hd : Hd} {F : List (Option VwD)} {I : Items} {w : World} (h : Vr a hd F I) (hA : AtAll w I) : w.cell? (a.add 0) = some hd.x.val ∧ w.cell? (a.add 1) = some hd.s.val ∧ w.cell? (a.add 2) = some hd.px.val ∧ w.cell? (a.add 3) = some hd.lx.val ∧ w.cell? (a.add 4) = some (.int .i64 hd.rr) ∧ w.cell? (a.add 5) = some (.int .i64 hd.nn) ∧ w.cell? (a.add 6) = some hd.cx.val := by
  obtain ⟨bx, I0, I1, hC, hX, rfl⟩ := h
  have hA' : AtAll w I0 := fun p hp => hA p (List.mem_append_left _ hp)
  exact ⟨hC.loadA hA' rfl, hC.loadA hA' rfl, hC.loadA hA' rfl, hC.loadA hA' rfl, hC.loadA hA' rfl, hC.loadA hA' rfl, hC.loadA hA' rfl⟩
def OpB (u : World) (R : Items) (a : Addr) (hd : Hd) : Option (List (Option VwD)) → Value → World → Prop
  | none, r, w => r = .bool false ∧ Sub u w
  | some F, r, w => ∃ I, r = .bool true ∧ Vr a hd F I ∧ St u w (I ++ R)
theorem OpB.use {u : World} {R : Items} {a : Addr} {hd : Hd} {P : Program} {f : FuncId} {args : Array Value} {w : World} {o : Option (List (Option VwD))} {K : Value → World → Prop} (h : Trip P f args w (OpB u R a hd o))
    (k1 : o = none → ∀ w', Sub u w' → K (.bool false) w') (k2 : ∀ F I w', o = some F → Vr a hd F I → St u w' (I ++ R) → K (.bool true) w') : Trip P f args w K := by
  refine h.mono' fun r w' hr => ?_
  cases o with
  | none => obtain ⟨rfl, hs⟩ := hr; exact k1 rfl _ hs
  | some v' => obtain ⟨I, rfl, hV, hS⟩ := hr; exact k2 _ _ _ rfl hV hS
theorem OpB.ret {P : Program} {f : FuncId} {args : Array Value} {u w : World} {R : Items} {a : Addr} {hd : Hd} {o : Option (List (Option VwD))} (h : Trip P f args w (OpB u R a hd o)) : Trip P f args w fun r w' => ∃ q : Bool, r = .bool q ∧ OpB u R a hd o (.bool q) w' := by
  refine OpB.use h (fun hn w' hs => ?_) (fun v' I' w' hn hV hS => ?_)
  · subst hn; exact ⟨false, rfl, rfl, hs⟩
  · subst hn; exact ⟨true, rfl, I', rfl, hV, hS⟩
/-- the instructions behind one, as the program lists them -/
def nextK (c : InstrD) (at_ : Int) : List Int := if c.op = 22 then [c.num] else if c.op = 20 then [at_ + 1, c.num] else if c.op = 23 ∨ c.op = 24 then [] else [at_ + 1]
section
variable {u u1 w : World} {v v0 v' o : VwD} {a a0 a1 : Addr} {r t n i m op num rr f e_ at_ res : Int} {x y z s ax jx tx : Sl} {I J R L : Items} {N B : Nat} {ds : List DeclD} {ss : List SigD} {T ts : List Int} {c : InstrD} {l : List RegK} {F F' : List (Option VwD)} {hd : Hd} {code : List InstrD}
theorem joinR_idem (p q : RegK) : joinR (joinR p q) q = joinR p q := by
  obtain ⟨t1, o1, l1, c1, f1, i1⟩ := p
  obtain ⟨t2, o2, l2, c2, f2, i2⟩ := q
  unfold joinR
  dsimp only
  congr 1
  · repeat' split
    all_goals omega
  · cases l1 <;> cases l2 <;> rfl
  · repeat' split
    all_goals omega
  · repeat' split
    all_goals omega
  · repeat' split
    all_goals omega
theorem joinR_self (p : RegK) (h : p.typ < 0 → p.con = -1 ∧ p.frm = -1 ∧ p.field = -1) : joinR p p = p := by
  obtain ⟨t1, o1, l1, c1, f1, i1⟩ := p
  dsimp only at h
  unfold joinR
  dsimp only
  congr 1
  · split <;> omega
  · cases l1 <;> rfl
  · repeat' split
    all_goals omega
  · repeat' split
    all_goals omega
  · repeat' split
    all_goals omega
theorem joinV_self (h : Wf N B v) : joinV v v = some v := by
  unfold joinV
  rw [if_pos ⟨rfl, rfl⟩]
  congr 1
  refine VwD.ext' (by simp) (fun j j0 j1 => ?_) rfl
  simp only [List.length_zipWith, Nat.min_self] at j1
  have := zip_reg (v1 := v.regs) (v2 := v.regs) rfl j0 j1
  have e : (VwD.mk (List.zipWith joinR v.regs v.regs) v.kept).reg j = joinR (v.reg j) (v.reg j) := this
  rw [e]
  exact joinR_self _ (h.neg j j0 (by have := h.lenI; omega)).2
theorem joinV_idem (hl : v0.regs.length = v.regs.length) (h : joinV v0 v = some v') : joinV v' v = some v' := by
  unfold joinV at h
  split at h
  case isFalse => cases h
  rename_i hc
  cases h
  have e : ∀ j : Int, 0 ≤ j → j < v0.regs.length → (VwD.mk (List.zipWith joinR v0.regs v.regs) v0.kept).reg j = joinR (v0.reg j) (v.reg j) := fun j j0 j1 => zip_reg hl j0 j1
  unfold joinV
  rw [if_pos]
  · congr 1
    refine VwD.ext' (by simp [hl]) (fun j j0 j1 => ?_) rfl
    simp only [List.length_zipWith] at j1
    have j1' : j < v0.regs.length := by omega
    have e2 : (VwD.mk (List.zipWith joinR (List.zipWith joinR v0.regs v.regs) v.regs) v0.kept).reg j = joinR ((VwD.mk (List.zipWith joinR v0.regs v.regs) v0.kept).reg j) (v.reg j) := zip_reg (by simp [hl]) j0 (by simp; omega)
    rw [e2, e j j0 j1', joinR_idem]
  · refine ⟨?_, hc.2⟩
    rw [← hc.1]
    refine List.ext_getElem (by simp [hl]) fun j j1 j2 => ?_
    simp only [List.getElem_map, List.getElem_zipWith]
    rfl
theorem bringV_idem (hv : Wf N B v) (hW : WfF N B F) (h0 : 0 ≤ t) (h1 : t < F.length) (h : bringV F t v = some F') : bringV F' t v = some F' := by
  unfold bringV at h
  split at h
  · cases h
    unfold bringV
    rw [nth_set _ _ _ _ h0 h1 h0, if_pos rfl]
    dsimp only
    rw [joinV_self hv]
    simp
  · rename_i v0 hn
    obtain ⟨v1, h2, rfl⟩ := Option.map_eq_some_iff.1 h
    have := joinV_idem (by have := (hW t v0 hn).len; have := hv.len; omega) h2
    unfold bringV
    rw [nth_set _ _ _ _ h0 h1 h0, if_pos rfl]
    dsimp only
    rw [this]
    simp
theorem nextK_bd (h : instrOk ds ss N code.length i c) (h0 : 0 ≤ i) (h1 : i < code.length) (hlast : i = (code.length : Int) - 1 → c.op = 23 ∨ c.op = 24) (hsw : c.op ≠ 21) : ∀ t ∈ nextK c i, 0 ≤ t ∧ t < code.length := by
  intro t ht
  have hnum := h.2.2.2.2.2.2.2.2.1
  unfold nextK at ht
  have hi : ¬ (c.op = 23 ∨ c.op = 24) → i + 1 < code.length := fun hn => by
    by_cases e : i = (code.length : Int) - 1
    · exact absurd (hlast e) hn
    · omega
  split at ht
  · rename_i hop
    have := (numV_jump (.inr hop)).1 hnum
    simp only [List.mem_singleton] at ht
    omega
  split at ht
  · rename_i hop
    have := (numV_jump (.inl hop)).1 hnum
    have := hi (by omega)
    simp only [List.mem_cons, List.not_mem_nil, or_false] at ht; omega
  split at ht
  · cases ht
  · rename_i hn
    have := hi hn
    simp only [List.mem_singleton] at ht; omega
theorem bringsV_K (h : instrOk ds ss N code.length i c) (h0 : 0 ≤ i) (h1 : i < code.length) (hlast : i = (code.length : Int) - 1 → c.op = 23 ∨ c.op = 24) (hsw : c.op ≠ 21) (hv : Wf N B v) (hW : WfF N B F) (hFl : F.length = code.length) : bringsV v (nextK c i) F = bringsV v (nextV c i) F := by
  have hbd := nextK_bd h h0 h1 hlast hsw
  unfold nextK at hbd ⊢
  unfold nextV
  by_cases h22 : c.op = 22
  · rw [if_pos h22, if_neg (by omega), if_pos h22]
  rw [if_neg h22]
  rw [if_neg h22] at hbd
  by_cases h20 : c.op = 20
  · rw [if_pos h20] at hbd
    rw [if_pos h20, if_neg (by omega), if_neg h22, if_pos h20]
    by_cases e : c.num = i + 1
    · rw [if_pos e, e]
      have hb := hbd (i + 1) (by simp)
      unfold bringsV
      cases hF : bringV F (i + 1) v with
      | none => rfl
      | some F1 =>
        rw [Option.bind_some, Option.bind_some]
        unfold bringsV
        rw [bringV_idem hv hW hb.1 (by omega) hF]
        rfl
    · rw [if_neg e]
  rw [if_neg h20]
  by_cases h23 : c.op = 23 ∨ c.op = 24
  · rw [if_pos h23, if_pos h23]
  · rw [if_neg h23, if_neg h23, if_neg h22, if_neg h20]
theorem c_nexts {v : World} (hsw : c.op ≠ 21) (hn : InI c.num) (hi : InI (i + 1)) : Mk Tryz.prog 98 #[.agg #[.int .i64 c.op, .int .i64 c.dst, .int .i64 c.num, .int .i64 c.into, ax.val, jx.val], .int .i64 i] v fun r J => ∃ z, r = z.val ∧ Own v z (nextK c i) J := by
  refine of98 _ _ _ _ _ _ _ _ _ ?_
  unfold vc98
  have hS := St.refl v
  unfold InI at hn hi
  unfold nextK
  by_cases h22 : c.op = 22
  · repeat (first | refine ⟨fun h => absurd (of_decide_eq_true h) (by omega), fun _ => ?_⟩ | refine ⟨fun _ => ?_, fun h => absurd (of_decide_eq_false h) (by omega)⟩)
    refine St.build (α := Int) hS (by (repeat' (first | exact VsOf.nil | apply VsOf.cons | (apply VOf.int; first | assumption | (constructor <;> first | omega | (simp only [List.length_set, List.length_append, List.length_replicate, List.length_cons, List.length_nil, List.length_take, List.length_drop, List.length_map, List.length_singleton] at *; omega))) | exact VOf.bool | exact VOf.str))) rfl (by decide) ?_
    intro z w1 J hO hS hs
    refine ⟨_, rfl, J, by simpa using hS, z, rfl, ?_⟩
    rw [if_pos h22]; exact hO
  by_cases h20 : c.op = 20
  · repeat (first | refine ⟨fun h => absurd (of_decide_eq_true h) (by omega), fun _ => ?_⟩ | refine ⟨fun _ => ?_, fun h => absurd (of_decide_eq_false h) (by omega)⟩)
    refine go_wr (by omega) (by omega) ?_
    refine St.build (α := Int) hS (by (repeat' (first | exact VsOf.nil | apply VsOf.cons | (apply VOf.int; first | assumption | (constructor <;> first | omega | (simp only [List.length_set, List.length_append, List.length_replicate, List.length_cons, List.length_nil, List.length_take, List.length_drop, List.length_map, List.length_singleton] at *; omega))) | exact VOf.bool | exact VOf.str))) rfl (by decide) ?_
    intro z w1 J hO hS hs
    refine ⟨_, rfl, J, by simpa using hS, z, rfl, ?_⟩
    rw [if_neg h22, if_pos h20]; exact hO
  by_cases h23 : c.op = 23
  · repeat (first | refine ⟨fun h => absurd (of_decide_eq_true h) (by omega), fun _ => ?_⟩ | refine ⟨fun _ => ?_, fun h => absurd (of_decide_eq_false h) (by omega)⟩)
    refine ⟨[], hS, ⟨none, 0, 0⟩, rfl, ?_⟩
    rw [if_neg h22, if_neg h20, if_pos (.inl h23)]
    exact Own.nil v
  by_cases h24 : c.op = 24
  · repeat (first | refine ⟨fun h => absurd (of_decide_eq_true h) (by omega), fun _ => ?_⟩ | refine ⟨fun _ => ?_, fun h => absurd (of_decide_eq_false h) (by omega)⟩)
    refine ⟨[], hS, ⟨none, 0, 0⟩, rfl, ?_⟩
    rw [if_neg h22, if_neg h20, if_pos (.inr h24)]
    exact Own.nil v
  · repeat (first | refine ⟨fun h => absurd (of_decide_eq_true h) (by omega), fun _ => ?_⟩ | refine ⟨fun _ => ?_, fun h => absurd (of_decide_eq_false h) (by omega)⟩)
    refine go_wr (by omega) (by omega) ?_
    refine St.build (α := Int) hS (by (repeat' (first | exact VsOf.nil | apply VsOf.cons | (apply VOf.int; first | assumption | (constructor <;> first | omega | (simp only [List.length_set, List.length_append, List.length_replicate, List.length_cons, List.length_nil, List.length_take, List.length_drop, List.length_map, List.length_singleton] at *; omega))) | exact VOf.bool | exact VOf.str))) rfl (by decide) ?_
    intro z w1 J hO hS hs
    refine ⟨_, rfl, J, by simpa using hS, z, rfl, ?_⟩
    rw [if_neg h22, if_neg h20, if_neg (by omega)]; exact hO
theorem c_bring (hO : ∀ w', AtAll w' R → KRd w' a1 o) (ho : Wf N B o) (hF : Vr a hd F I) (hW : WfF N B F) (hS : St u w (I ++ R)) (h0 : 0 ≤ t) (h1 : t < F.length) : Trip Tryz.prog 99 #[.pointer (some (a.add 0)), .pointer (some (a1.add 0)), .int .i64 t] w (OpB u R a hd (bringV F t o)) := by
  refine of99 _ _ _ _ _ ?_
  unfold vc99
  obtain ⟨bx, I0, I1, hC, hX, rfl⟩ := hF
  replace hS : St u w (I0 ++ (I1 ++ R)) := by simpa [List.append_assoc] using hS
  have hl7 : w.cell? (a.add 7) = some bx.val := hC.load hS rfl
  refine ⟨bx, hl7, hX.ix h0 (by simpa using h1), ?_⟩
  unfold bringV
  cases hn : nth F t with
  | none =>
    refine ⟨⟨_, rfl⟩, PV.none_at hX h0 h1 hn (fun p hp => hS.at_ p (by simp [hp])), ?_⟩
    refine go_ptrE knownPtr ⟨fun _ => ?_, (fun hq => by cases hq)⟩
    refine ⟨bx, hl7, ?_⟩
    refine Mk.usew (c_kClone (hO w fun p hp => hS.at_ p (by simp [hp]))) hS ?_
    rintro _ w2 J ⟨a', rfl, hV⟩ hS hs
    refine ⟨_, rfl, hs, hX.ix h0 (by simpa using h1), ?_⟩
    refine PV.put (R := I0 ++ R) hX (hS.perm (by
      classical
      exact List.perm_iff_count.2 fun a => by simp only [List.count_append]; omega)) h0 h1 (ρ := repK) hV ?_
    intro w3 I1' hX hS
    exact ⟨I0 ++ I1', rfl, ⟨bx, I0, I1', hC, hX, rfl⟩, hS.perm (by
      classical
      exact List.perm_iff_count.2 fun a => by simp only [List.count_append]; omega)⟩
  | some v0 =>
    obtain ⟨a0, K, Rest, k1, k2, k3, k4⟩ := PV.borrow hX h0 h1 hn
    replace hS : St u w (K ++ (Rest ++ (I0 ++ R))) := hS.perm (by
      classical
      exact List.perm_iff_count.2 fun a => by have := k2.count_eq a; simp only [List.count_append] at *; omega)
    refine ⟨⟨_, rfl⟩, k3 w (hS.right.left).at_, ?_⟩
    refine go_ptrE knownPtr ⟨(fun hq => by cases hq), fun _ => ?_⟩
    refine ⟨bx, hl7, hX.ix h0 (by simpa using h1), ⟨_, rfl⟩, k3 w (hS.right.left).at_, ?_⟩
    refine OpK.use (c_kJoin (fun w' hA => hO w' fun p hp => hA p (by simp [hp])) k1 hS (hW t _ hn) ho) (fun hj w' hs => ?_) (fun v' I' w' hj hV hS => ?_)
    · dsimp only
      rw [hj]; exact ⟨false, rfl, rfl, hs⟩
    · dsimp only
      rw [hj]
      exact ⟨true, rfl, I0 ++ (I' ++ Rest), rfl, ⟨bx, I0, I' ++ Rest, hC, k4 v' I' hV, rfl⟩, hS.perm (by
        classical
        exact List.perm_iff_count.2 fun a => by simp only [List.count_append]; omega)⟩
theorem c_switching (h : InQ u hd.x hd.s ax jx ds ss N F.length at_ c) (hop : c.op = 21) (hF : Vr a0 hd F I) (hW : WfF N B F) (hFl : F.length ≤ 2000) (hV : Kst a v J) (hS : St u w (J ++ (I ++ R))) (hw : Wf N B v) :
    Trip Tryz.prog 96 #[.pointer (some (a0.add 0)), .pointer (some (a.add 0)), .agg #[.int .i64 c.op, .int .i64 c.dst, .int .i64 c.num, .int .i64 c.into, ax.val, jx.val]] w
      (OpB u R a0 hd (@ite _ ((v.reg (nth c.args 0)).typ = c.num ∧ Al v (nth c.args 0)) (Classical.propDecidable _) (switchV c (consL ds c.num) v (consL ds c.num).length F) none)) := by
  classical
  refine of96 _ _ _ _ _ _ _ _ _ _ ?_
  unfold vc96
  have hl := hw.lenI
  have hlo := h.P.al
  rw [(arg_1 (by omega)).1] at hlo
  have hA0 := h.args 0 (by omega) (by omega)
  have hnsw := (numV_switch hop).1 h.ok.2.2.2.2.2.2.2.2.1
  have hnum := h.sm.2.2.1
  unfold SmI at hnum
  have hsm := h.sg.1.sm
  have hcl := consL_sm (n := c.num) h.sg.1
  have hcb := consL_bd (t := c.num) h.sg.1
  obtain ⟨z, y, hX⟩ := hV
  have hR := hX.rd hS
  obtain ⟨c1, c2, c3, c4, c5, c6⟩ := rk hR hA0.1 (by omega)
  refine ⟨z, hX.ld0 hS, ?_⟩
  refine go_ix h.hax (by omega) (by omega) ?_
  refine ld_int (h.hax.mono hS.sub) (by omega) (by omega) fun _ _ => ?_
  refine ⟨hR.ix hA0.1 (by omega), _, c1, ?_⟩
  refine go_ixg h.hax (fun _ => ⟨by omega, by omega⟩) ?_
  refine ld_intg (h.hax.mono hS.sub) (fun _ => ⟨by omega, by omega⟩) ?_
  refine ⟨_, fun _ => c_kAlive (hX.krd hS) hw hA0.1 hA0.2, ?_⟩
  refine ⟨fun hq => ?_, fun hq => ?_⟩
  · simp only [bls] at hq
    rw [if_neg]
    · exact ⟨rfl, hS.sub⟩
    · rintro ⟨q1, q2⟩
      rcases hq with hq | hq
      · exact hq q1
      · simp [alB, q2] at hq
  simp only [bls] at hq
  rw [if_pos ⟨hq.1, by simpa [alB] using hq.2⟩]
  have hct := hcl.2 hnsw.1
  refine ⟨_, c4, hd.x, (hF.hv fun p hp => hS.at_ p (by simp [hp])).1, ?_⟩
  refine Mk.use (c_implConsOf h.hx h.sg.1.sm (by omega)) hS ?_
  rintro _ w1 J1 ⟨t, rfl, hZ⟩ hS hs
  refine ⟨_, rfl, ?_⟩
  obtain ⟨u1, hs1, hS1, hJ⟩ := hS.freeze J1
  have hZ := hZ.read1 hJ
  have hzn := hZ.n
  rw [hzn]
  have h := h.mono hs1
  generalize hks : consL ds c.num = ks at *
  have hX0 : KstX a z y (conV v (nth c.args 0) (v.reg (nth c.args 0)).con) J := by
    unfold conV
    rw [show (⟨(v.reg (nth c.args 0)).typ, (v.reg (nth c.args 0)).own, (v.reg (nth c.args 0)).lent, (v.reg (nth c.args 0)).con, (v.reg (nth c.args 0)).frm, (v.reg (nth c.args 0)).field⟩ : RegK) = v.reg (nth c.args 0) from rfl, VwD.upd_id hA0.1 (by omega)]
    exact hX
  refine ⟨fun k w' => ∃ F' I' J' cc, switchV c ks v k.toNat F = some F' ∧ Vr a0 hd F' I' ∧ WfF N B F' ∧ F'.length = F.length ∧ KstX a z y (conV v (nth c.args 0) cc) J' ∧ St u1 w' (J' ++ (I' ++ R)) ∧ 0 ≤ k ∧ k ≤ ks.length, fun k _ => (ks.length - k).toNat, ⟨F, I, J, _, rfl, hF, hW, rfl, hX0, hS1, by omega, by omega⟩, ?_⟩
  clear hX hX0 hS hS1 hR c1 c2 c3 c4 c5 c6 hs
  rintro k w ⟨F1, I1, J', cc, hb, hF1, hW1, hFl1, hX, hS, k0, k1⟩
  dsimp only
  refine ⟨fun hi => ?_, fun hi => ?_⟩
  · simp only [bls] at hi
    have hsn : switchV c ks v (k + 1).toNat F = if (v.reg (nth c.args 0)).con < 0 ∨ (v.reg (nth c.args 0)).con = nth ks k then bringV F1 (nth c.jumps k) (conV v (nth c.args 0) (nth ks k)) else some F1 := by
      rw [show (k + 1).toNat = k.toNat + 1 from by omega]
      unfold switchV
      rw [hb, Option.bind_some, show ((k.toNat : Nat) : Int) = k from by omega]
    have hkb := hcb _ (nth_mem k0 (by omega))
    refine go_ix hZ k0 (by omega) ?_
    refine ld_int (hZ.mono hS.sub) k0 (by omega) fun _ _ => ?_
    refine ⟨fun hd2 => ?_, fun hd2 => ?_⟩
    · simp only [bls] at hd2
      rw [if_neg (by omega)] at hsn
      refine go_wr (by omega) (by omega) ?_
      repeat refine go_rf ?_
      exact ⟨⟨F1, I1, J', cc, hsn, hF1, hW1, hFl1, hX, hS, by omega, by omega⟩, by omega⟩
    · simp only [bls] at hd2
      rw [if_pos (by omega)] at hsn
      have hjb : 0 ≤ nth c.jumps k ∧ nth c.jumps k < F.length := by
        have := List.all_eq_true.1 h.ok.2.2.2.2.2.2.2.1 _ (nth_mem (l := c.jumps) k0 (by omega))
        unfold laterB at this
        simp only [Bool.and_eq_true, decide_eq_true_eq] at this
        have := h.a0
        omega
      refine hX.s3 hS hA0.1 (by unfold conV; rw [VwD.upd_len]; omega) (by constructor <;> omega) rfl ?_
      intro w2 J2 hX hS
      have hX : KstX a z y (conV v (nth c.args 0) (nth ks k)) J2 := by
        unfold conV at hX ⊢
        rw [VwD.upd_upd, VwD.upd_self hA0.1 (by omega)] at hX
        exact hX
      refine go_ix h.hjx k0 (by omega) ?_
      refine ld_int (h.hjx.mono hS.sub) k0 (by omega) fun _ _ => ?_
      have hcw : Wf N B (conV v (nth c.args 0) (nth ks k)) := conV_wf hw hA0.1 hA0.2 (by omega) (by rw [hq.1]; omega)
      have hS2 : St u1 w2 (I1 ++ (J2 ++ R)) := hS.perm (by
        classical
        exact List.perm_iff_count.2 fun a => by simp only [List.count_append]; omega)
      have hVk : Kst a (conV v (nth c.args 0) (nth ks k)) J2 := ⟨z, y, hX⟩
      refine OpB.use (c_bring (fun w' hA => hVk.rdA fun p hp => hA p (List.mem_append_left _ hp)) hcw hF1 hW1 hS2 hjb.1 (by omega)) (fun hn w' hs => ?_) (fun F2 I2 w' hn hF2 hS => ?_)
      · refine ⟨false, rfl, fun _ => ?_, fun h => by cases h⟩
        rw [switchV_none (hsn.trans hn) (by omega)]
        exact ⟨rfl, hs1.trans hs⟩
      · refine ⟨true, rfl, (fun h => by cases h), fun _ => ?_⟩
        obtain ⟨hW2, hl2⟩ := bringV_wf hW1 hcw hjb.1 (by omega) hn
        refine go_wr (by omega) (by omega) ?_
        repeat refine go_rf ?_
        exact ⟨⟨F2, I2, J2, _, hsn.trans hn, hF2, hW2, by omega, hX, hS.perm (by
          classical
          exact List.perm_iff_count.2 fun a => by simp only [List.count_append]; omega), by omega, by omega⟩, by omega⟩
  · simp only [bls] at hi
    rw [show k.toNat = ks.length from by omega] at hb
    rw [hb]
    exact ⟨I1, rfl, hF1, St.weakU (u' := u1) hS.right hs1⟩
theorem c_instruction (hcx : Read u hd.cx code) (hxd : Read u hd.x ds) (hsd : Read u hd.s ss) (hsg : sigSigs ds ss) (hN : N ≤ 2000) (hlast : (nth code ((code.length : Int) - 1)).op = 23 ∨ (nth code ((code.length : Int) - 1)).op = 24) (hok : instrOk ds ss N code.length i (nth code i)) (hcl : code.length ≤ 2000) (hrr : 0 ≤ hd.rr ∧ hd.rr ≤ 1000)
    (hF : Vr a hd F I) (hW : WfF N B F) (hFl : F.length = code.length) (hB1 : 1 ≤ B) (hB : B ≤ 1099511627776) (hS : St u w (I ++ R)) (h0 : 0 ≤ i) (h1 : i < code.length) (hn : nth F i = some v0) :
    Trip Tryz.prog 55 #[.pointer (some (a.add 0)), .int .i64 i] w (OpB u R a hd ((passV ds ss hd.rr (nth code i) v0).bind fun v' => leaveV ds (nth code i) i v' F)) := by
  classical
  refine of55 _ _ _ _ ?_
  unfold vc55
  have hVr := hF
  obtain ⟨bx, I0, I1, hC, hX, rfl⟩ := hVr
  have hS' : St u w (I0 ++ (I1 ++ R)) := by simpa [List.append_assoc] using hS
  have hl7 : w.cell? (a.add 7) = some bx.val := hC.load hS' rfl
  have hl6 : w.cell? (a.add 6) = some hd.cx.val := hC.load hS' rfl
  obtain ⟨ax, jx, e1, e2, e3, e4, e5, e6, i1, i2, i3, i4, r1, r2⟩ := (hcx.src hS.sub).ofInstrD h0 h1
  have hI : InQ u hd.x hd.s ax jx ds ss N code.length i (nth code i) := ⟨hxd, hsd, r1, r2, hsg, hok, hN, h0, by omega⟩
  rw [← hFl] at hI
  refine ⟨bx, hl7, hX.ix h0 (by simp; omega), ?_⟩
  obtain ⟨a0, K, Rest, k1, k2, k3, k4⟩ := PV.borrow hX h0 (by omega) hn
  have hS2 : St u w (K ++ (Rest ++ (I0 ++ R))) := hS'.perm (by
    classical
    exact List.perm_iff_count.2 fun a => by have := k2.count_eq a; simp only [List.count_append] at *; omega)
  refine ⟨⟨_, rfl⟩, k3 w (hS2.right.left).at_, ?_⟩
  refine ⟨hd.cx, hl6, hcx.ix h0 h1, _, _, _, _, ax, jx, ⟨e1, e2, e3, e4, e5, e6⟩, ?_⟩
  have hkr : KRd w a0 v0 := Kst.rdA k1 hS2.left.at_
  generalize hIe : I0 ++ I1 = I at *
  clear hS' hS2 k3 k4 k2 hC hX hl7 hl6 e1 e2 e3 e4 e5 e6
  refine ⟨?_, .refl _, ?_⟩
  · refine Mk.usew (c_kClone hkr) hS ?_
    rintro _ w11 J ⟨a12, rfl, hV⟩ hS1 hs
    refine ⟨_, rfl, hs, .refl _, ?_⟩
    have hS1 : St u w11 (J ++ (I ++ R)) := hS1
    have hw0 := hW i v0 hn
    refine ⟨fun hq => ?_, fun hq => ?_⟩
    · simp only [bls] at hq
      refine OpB.ret ((c_switching hI hq hF hW (by omega) hV hS1 hw0).mono' fun r w' hr => ?_)
      have e : ((passV ds ss hd.rr (nth code i) v0).bind fun v' => leaveV ds (nth code i) i v' F) = @ite _ ((v0.reg (nth (nth code i).args 0)).typ = (nth code i).num ∧ Al v0 (nth (nth code i).args 0)) (Classical.propDecidable _) (switchV (nth code i) (consL ds (nth code i).num) v0 (consL ds (nth code i).num).length F) none := by
        generalize hc : nth code i = c at *
        rw [show passV ds ss hd.rr c v0 = if (v0.reg (nth c.args 0)).typ = c.num ∧ Al v0 (nth c.args 0) then some v0 else none from by (unfold passV; repeat (first | rw [if_neg (by omega)] | rw [if_pos (by omega)]))]
        split
        · rw [Option.bind_some]
          unfold leaveV
          rw [if_pos hq]
        · rfl
      rw [e]; exact hr
    · simp only [bls] at hq
      refine OpK.use (c_check (R := I ++ R) hI hrr hq (fun w' hA => by
        have := hF.hv (fun p hp => hA p (List.mem_append_left _ hp))
        exact ⟨this.1, this.2.1, this.2.2.2.2.1⟩) hV hS1 hw0 hB) (fun hm w' hs => ?_) (fun v' I' w' hm hV hS => ?_)
      · rw [hm]
        exact ⟨false, rfl, fun _ => ⟨rfl, hs⟩, fun h => by cases h⟩
      refine ⟨true, rfl, (fun h => by cases h), fun _ => ?_⟩
      rw [hm, Option.bind_some]
      have hw1 := passV_wf hI.P hrr hw0 hB1 hm
      have hnk : leaveV ds (nth code i) i v' F = bringsV v' (nextK (nth code i) i) F := by
        unfold leaveV
        rw [if_neg hq]
        exact (bringsV_K hok h0 h1 (fun e => by rw [e]; exact hlast) hq hw1 (hW.mono (by omega)) hFl).symm
      rw [hnk]
      refine Mk.use (c_nexts (jx := jx) (ax := ax) hq (by have := hI.sm.2.2.1; unfold SmI at this; constructor <;> omega) (by constructor <;> omega)) hS ?_
      rintro _ w3 J3 ⟨z, rfl, hZ⟩ hS hs3
      refine ⟨_, rfl, ?_⟩
      obtain ⟨u1, hs1, hS2, hJ⟩ := hS.freeze J3
      have hZ := hZ.read1 hJ
      have hzn := hZ.n
      have hzl := hZ.le
      have hbd := nextK_bd hok h0 h1 (fun e => by rw [e]; exact hlast) hq
      have hS2 : St u1 w3 (I ++ (I' ++ R)) := hS2.perm (by
        classical
        exact List.perm_iff_count.2 fun a => by simp only [List.count_append]; omega)
      rw [hzn]
      refine ⟨fun k w' => ∃ F' I2, bringsV v' ((nextK (nth code i) i).take k.toNat) F = some F' ∧ Vr a hd F' I2 ∧ WfF N (B + 3) F' ∧ F'.length = code.length ∧ St u1 w' (I2 ++ (I' ++ R)) ∧ 0 ≤ k ∧ k ≤ (nextK (nth code i) i).length, fun k _ => ((nextK (nth code i) i).length - k).toNat, ⟨F, I, rfl, hF, hW.mono (by omega), hFl, hS2, by omega, by omega⟩, ?_⟩
      clear hS2 hS hs3 hS1
      rintro k w5 ⟨F1, I2, hb, hF1, hW1, hFl1, hS, k0, k1⟩
      dsimp only
      refine ⟨fun hi => ?_, fun hi => ?_⟩
      · simp only [bls] at hi
        refine go_ix hZ k0 (by omega) ?_
        refine ld_int (hZ.mono hS.sub) k0 (by omega) fun _ _ => ?_
        have hbk := hbd _ (nth_mem k0 (by omega))
        have hsn : bringsV v' ((nextK (nth code i) i).take (k + 1).toNat) F = bringV F1 (nth (nextK (nth code i) i) k) v' := by
          rw [take_nth k0 (by omega), bringsV_snoc, hb]; rfl
        refine OpB.use (c_bring (fun w' hA => hV.rdA fun p hp => hA p (List.mem_append_left _ hp)) hw1 hF1 hW1 hS hbk.1 (by omega)) (fun hn w' hs => ?_) (fun F2 I3 w' hn hF2 hS => ?_)
        · refine ⟨false, rfl, fun _ => ?_, fun h => by cases h⟩
          have : bringsV v' (nextK (nth code i) i) F = none := by
            rw [← List.take_append_drop (k + 1).toNat (nextK (nth code i) i), bringsV_app, hsn, hn]; rfl
          rw [this]
          exact ⟨rfl, hs1.trans hs⟩
        · refine ⟨true, rfl, (fun h => by cases h), fun _ => ?_⟩
          obtain ⟨hW2, hl2⟩ := bringV_wf hW1 hw1 hbk.1 (by omega) hn
          refine go_wr (by omega) (by omega) ?_
          repeat refine go_rf ?_
          exact ⟨⟨F2, I3, hsn.trans hn, hF2, hW2, by omega, hS, by omega, by omega⟩, by omega⟩
      · simp only [bls] at hi
        rw [List.take_of_length_le (by omega)] at hb
        rw [hb]
        refine ⟨I2, rfl, hF1, St.weakU (u' := u1) ?_ hs1⟩
        have hS' : St u1 w5 ((I2 ++ R) ++ I') := hS.perm (by
          classical
          exact List.perm_iff_count.2 fun a => by simp only [List.count_append]; omega)
        exact hS'.left
  · refine Mk.usew (c_kClone hkr) hS ?_
    rintro _ w11 J ⟨a12, rfl, hV⟩ hS1 hs
    refine ⟨_, rfl, hs, ?_⟩
    have hS1 : St u w11 (J ++ (I ++ R)) := hS1
    have hw0 := hW i v0 hn
    refine ⟨fun hq => ?_, fun hq => ?_⟩
    · simp only [bls] at hq
      refine OpB.ret ((c_switching hI hq hF hW (by omega) hV hS1 hw0).mono' fun r w' hr => ?_)
      have e : ((passV ds ss hd.rr (nth code i) v0).bind fun v' => leaveV ds (nth code i) i v' F) = @ite _ ((v0.reg (nth (nth code i).args 0)).typ = (nth code i).num ∧ Al v0 (nth (nth code i).args 0)) (Classical.propDecidable _) (switchV (nth code i) (consL ds (nth code i).num) v0 (consL ds (nth code i).num).length F) none := by
        generalize hc : nth code i = c at *
        rw [show passV ds ss hd.rr c v0 = if (v0.reg (nth c.args 0)).typ = c.num ∧ Al v0 (nth c.args 0) then some v0 else none from by (unfold passV; repeat (first | rw [if_neg (by omega)] | rw [if_pos (by omega)]))]
        split
        · rw [Option.bind_some]
          unfold leaveV
          rw [if_pos hq]
        · rfl
      rw [e]; exact hr
    · simp only [bls] at hq
      refine OpK.use (c_check (R := I ++ R) hI hrr hq (fun w' hA => by
        have := hF.hv (fun p hp => hA p (List.mem_append_left _ hp))
        exact ⟨this.1, this.2.1, this.2.2.2.2.1⟩) hV hS1 hw0 hB) (fun hm w' hs => ?_) (fun v' I' w' hm hV hS => ?_)
      · rw [hm]
        exact ⟨false, rfl, fun _ => ⟨rfl, hs⟩, fun h => by cases h⟩
      refine ⟨true, rfl, (fun h => by cases h), fun _ => ?_⟩
      rw [hm, Option.bind_some]
      have hw1 := passV_wf hI.P hrr hw0 hB1 hm
      have hnk : leaveV ds (nth code i) i v' F = bringsV v' (nextK (nth code i) i) F := by
        unfold leaveV
        rw [if_neg hq]
        exact (bringsV_K hok h0 h1 (fun e => by rw [e]; exact hlast) hq hw1 (hW.mono (by omega)) hFl).symm
      rw [hnk]
      refine Mk.use (c_nexts (jx := jx) (ax := ax) hq (by have := hI.sm.2.2.1; unfold SmI at this; constructor <;> omega) (by constructor <;> omega)) hS ?_
      rintro _ w3 J3 ⟨z, rfl, hZ⟩ hS hs3
      refine ⟨_, rfl, ?_⟩
      obtain ⟨u1, hs1, hS2, hJ⟩ := hS.freeze J3
      have hZ := hZ.read1 hJ
      have hzn := hZ.n
      have hzl := hZ.le
      have hbd := nextK_bd hok h0 h1 (fun e => by rw [e]; exact hlast) hq
      have hS2 : St u1 w3 (I ++ (I' ++ R)) := hS2.perm (by
        classical
        exact List.perm_iff_count.2 fun a => by simp only [List.count_append]; omega)
      rw [hzn]
      refine ⟨fun k w' => ∃ F' I2, bringsV v' ((nextK (nth code i) i).take k.toNat) F = some F' ∧ Vr a hd F' I2 ∧ WfF N (B + 3) F' ∧ F'.length = code.length ∧ St u1 w' (I2 ++ (I' ++ R)) ∧ 0 ≤ k ∧ k ≤ (nextK (nth code i) i).length, fun k _ => ((nextK (nth code i) i).length - k).toNat, ⟨F, I, rfl, hF, hW.mono (by omega), hFl, hS2, by omega, by omega⟩, ?_⟩
      clear hS2 hS hs3 hS1
      rintro k w5 ⟨F1, I2, hb, hF1, hW1, hFl1, hS, k0, k1⟩
      dsimp only
      refine ⟨fun hi => ?_, fun hi => ?_⟩
      · simp only [bls] at hi
        refine go_ix hZ k0 (by omega) ?_
        refine ld_int (hZ.mono hS.sub) k0 (by omega) fun _ _ => ?_
        have hbk := hbd _ (nth_mem k0 (by omega))
        have hsn : bringsV v' ((nextK (nth code i) i).take (k + 1).toNat) F = bringV F1 (nth (nextK (nth code i) i) k) v' := by
          rw [take_nth k0 (by omega), bringsV_snoc, hb]; rfl
        refine OpB.use (c_bring (fun w' hA => hV.rdA fun p hp => hA p (List.mem_append_left _ hp)) hw1 hF1 hW1 hS hbk.1 (by omega)) (fun hn w' hs => ?_) (fun F2 I3 w' hn hF2 hS => ?_)
        · refine ⟨false, rfl, fun _ => ?_, fun h => by cases h⟩
          have : bringsV v' (nextK (nth code i) i) F = none := by
            rw [← List.take_append_drop (k + 1).toNat (nextK (nth code i) i), bringsV_app, hsn, hn]; rfl
          rw [this]
          exact ⟨rfl, hs1.trans hs⟩
        · refine ⟨true, rfl, (fun h => by cases h), fun _ => ?_⟩
          obtain ⟨hW2, hl2⟩ := bringV_wf hW1 hw1 hbk.1 (by omega) hn
          refine go_wr (by omega) (by omega) ?_
          repeat refine go_rf ?_
          exact ⟨⟨F2, I3, hsn.trans hn, hF2, hW2, by omega, hS, by omega, by omega⟩, by omega⟩
      · simp only [bls] at hi
        rw [List.take_of_length_le (by omega)] at hb
        rw [hb]
        refine ⟨I2, rfl, hF1, St.weakU (u' := u1) ?_ hs1⟩
        have hS' : St u1 w5 ((I2 ++ R) ++ I') := hS.perm (by
          classical
          exact List.perm_iff_count.2 fun a => by simp only [List.count_append]; omega)
        exact hS'.left
end
end Go.Vc

namespace Go.Vc
open Go Go.Proofs Go.RowKit
set_option linter.all false
instance : SlT Tryz.prog 54 1 8 [.pointer none] := .of (by kernel_rfl) rfl (by decide)
section
variable {u u1 w : World} {v v0 v' o : VwD} {a a0 a1 : Addr} {r t n i m op num rr f e_ at_ res : Int} {x y z s ax jx tx : Sl} {I J R L : Items} {N B : Nat} {ds : List DeclD} {ss : List SigD} {T ts : List Int} {c : InstrD} {F F' : List (Option VwD)} {hd : Hd} {code : List InstrD} {ps : List ProcD}
theorem list_const {l : List Int} {n : Nat} {c : Int} (hl : l.length = n) (h : ∀ j : Int, 0 ≤ j → j < n → nth l j = c) : l = List.replicate n c := by
  refine List.ext_getElem (by simpa using hl) fun j j1 j2 => ?_
  have := h j (by omega) (by omega)
  rw [nth_of (i := j) (l := l) (a := l[j]) (by simp [j1])] at this
  simpa using this
theorem instrB_iffV : instrB ds ss r e_ at_ c = true ↔ instrOk ds ss r e_ at_ c := by unfold instrB; exact @decide_eq_true_iff _ (Classical.propDecidable _)
/-- what a valid procedure is -/
theorem imOk.proc (h : imOk ds ps) (h0 : 0 ≤ f) (h1 : f < ps.length) : ∃ N : Nat, (nth ps f).regs = N ∧ 1 ≤ N ∧ N ≤ 2000 ∧ ((nth ps f).params.length : Int) ≤ (nth ps f).regs ∧ 1 ≤ (nth ps f).code.length ∧ (nth ps f).code.length ≤ 2000 ∧ ((nth (nth ps f).code (((nth ps f).code.length : Int) - 1)).op = 23 ∨ (nth (nth ps f).code (((nth ps f).code.length : Int) - 1)).op = 24) ∧
    (∀ i : Int, 0 ≤ i → i < (nth ps f).code.length → instrOk ds (ps.map sigOf) N (nth ps f).code.length i (nth (nth ps f).code i)) ∧ (0 ≤ (nth ps f).result ∧ (nth ps f).result ≤ 1000) ∧ (∀ k : Int, 0 ≤ k → k < (nth ps f).params.length → 0 ≤ nth (nth ps f).params k ∧ nth (nth ps f).params k ≤ 1000) := by
  obtain ⟨hsg, hc⟩ := h
  obtain ⟨c1, c2, c3, c4, c5, c6, c7⟩ := hc f h0 h1
  have hsp := (hsg.2.2.2.2.2 f h0 (by rw [List.length_map]; exact h1)).1
  rw [nth_sig] at hsp
  have hdl := hsg.1.1
  have hr : typeB ds.length (nth ps f).result = true := hsp.2.2
  unfold typeB at hr
  simp only [Bool.and_eq_true, decide_eq_true_eq] at hr
  refine ⟨(nth ps f).regs.toNat, by omega, by omega, by omega, c2, c4, c5, c6, fun i i0 i1 => ?_, by omega, fun k k0 k1 => ?_⟩
  · have := instrB_iffV.1 (c7 i i0 i1)
    rw [show (((nth ps f).regs.toNat : Nat) : Int) = (nth ps f).regs from by omega]
    exact this
  · have hp : (nth ps f).params.all (typeB ds.length) = true := hsp.2.1
    have := List.all_eq_true.1 hp _ (nth_mem k0 k1)
    unfold typeB at this
    simp only [Bool.and_eq_true, decide_eq_true_eq] at this
    omega
theorem c_verifyK {v : World} (hx : Read v x ds) (hy : Read v y ps) (him : imOk ds ps) (h0 : 0 ≤ f) (h1 : f < ps.length) :
    Mk Tryz.prog 30 #[.agg #[x.val, y.val], .int .i64 f] v fun r J => ∃ (z : Sl) (q : Bool), r = .tuple #[z.val, .bool q] ∧ match verifyV ds (ps.map sigOf) (nth ps f) with
      | none => q = false
      | some F => q = true ∧ OwnD z (F.map PV.mk : List (PV repK)) J := by
  refine of30 _ _ _ _ _ ?_
  unfold vc30
  obtain ⟨N, hpN, hN0, hNl, hpl, hcl0, hcl, hlast, hinst, hrr, hpt⟩ := him.proc h0 h1
  have hsg := him.1
  refine Mk.use (c_imageSigs hx hy) (.refl v) ?_
  rintro _ w2 J ⟨s0, s, rfl, hO⟩ hS hsub
  obtain ⟨hx0, hO⟩ := hO hsg
  rw [← hx0] at hx
  clear hx0
  obtain ⟨u1, hu1, hS1, hJ⟩ := hS.freeze J
  have hsd := hO.read1 hJ
  clear hS
  have hS := hS1
  clear hS1 hO hJ
  obtain ⟨px, lx, cx, e1, e2, e3, e4, e5, i1, i2, r1, r2, r3⟩ := (hy.src (hu1.trans hS.sub)).ofProcD h0 h1
  generalize hp : nth ps f = p at *
  have hpx := r1.mono hu1
  have hlx := r2.mono hu1
  have hcx := r3.mono hu1
  have hxd := hx.mono hu1
  have hpn := hpx.n
  have hcn := hcx.n
  refine ⟨s0, s, _, rfl, hy.ix h0 h1, px, lx, _, _, cx, ⟨e1, e2, e3, e4, e5⟩, hy.ix h0 h1, cx, e5, ?_, ?_⟩
  · rw [hcn]
    refine St.make (α := PV repK) (a0 := ⟨none⟩) hS (by exact (rfl : [Value.pointer none] = _)) (by omega) (by omega) (by decide) ?_
    intro bx w13 IB hB hS hs
    refine ⟨_, rfl, hs, ?_⟩
    have hBB := PV.make hB
    rw [show ((p.code.length : Nat) : Int).toNat = p.code.length from by omega] at hBB
    refine St.box (vals := [.slice none 0 0, .slice none 0 0, .slice none 0 0, .slice none 0 0, .int .i64 0, .int .i64 0, .slice none 0 0, .slice none 0 0]) hS ?_
    intro a15 w16 C hC hS hs
    refine ⟨hs, ?_⟩
    refine Cel.store (off := 0) hC hS (by simp) ?_
    clear hC hS hs
    intro w17 C hC hS
    have hC : Cel a15 ((⟨s0, s, px, lx, p.result, p.regs, cx⟩ : Hd).vals bx) C := hC
    refine ⟨p.regs, hC.load hS rfl, p.regs, hC.load hS rfl, ?_, ?_⟩
    · refine St.make (α := RegK) (a0 := ⟨0, 0, false, 0, 0, 0⟩) hS (by exact ⟨rfl, by decide, by decide, by decide, by decide, by decide⟩) (by omega) (by omega) (by decide) ?_
      intro x22 w21 IR hRR hS hs
      refine ⟨_, rfl, hs, ?_⟩
      refine St.makeInts hS (by omega) (by omega) (by decide) ?_
      intro x25 w24 IK hKK hS hs
      refine ⟨_, rfl, hs, ?_⟩
      rw [show p.regs.toNat = N from by omega] at hRR hKK
      refine St.box (vals := [x22.val, x25.val]) hS ?_
      intro a26 w27 C2 hC2 hS hs
      have hX0 : KstX a26 x22 x25 ⟨List.replicate N ⟨0, 0, false, 0, 0, 0⟩, List.replicate N 0⟩ (C2 ++ (IR ++ IK)) := ⟨C2, IR, IK, hC2, fun u => let ⟨rows, q1, q2, q3⟩ := hRR; ⟨rows, q1, q2, q3⟩, hKK.toI, rfl⟩
      have hS : St u1 w27 ((C2 ++ (IR ++ IK)) ++ (C ++ (IB ++ []))) := hS.perm (by
        classical
        exact List.perm_iff_count.2 fun a => by simp only [List.count_append, List.count_nil]; omega)
      have hxn := (hX0.rd hS).n
      simp only [List.length_replicate] at hxn
      refine ⟨x22, hX0.ld0 hS, ?_⟩
      rw [hxn]
      refine ⟨fun k w' => ∃ v' I', KstX a26 x22 x25 v' I' ∧ St u1 w' (I' ++ (C ++ (IB ++ []))) ∧ 0 ≤ k ∧ k ≤ N ∧ v'.regs.length = N ∧ v'.kept.length = N ∧ ∀ j : Int, 0 ≤ j → j < k → v'.reg j = default ∧ nth v'.kept j = -1, fun k _ => (N - k).toNat, ⟨_, _, hX0, hS, by omega, by omega, by simp, by simp, fun j j0 j1 => by omega⟩, ?_⟩
      clear hX0 hS hs hC2 hRR hKK
      rintro k w ⟨v', I', hX, hS, k0, k1, hl1, hl2, hj⟩
      dsimp only
      refine ⟨fun hi => ?_, fun hi => ?_⟩
      · simp only [bls] at hi
        refine ⟨x22, hX.ld0 hS, x25, hX.ld1 hS, ?_⟩
        refine Trip.mono' (c_unknownReg (v := w)) ?_
        rintro _ w36 ⟨rfl, hs⟩
        refine ⟨_, _, _, _, _, _, rfl, hs, ?_⟩
        have hS := hS.sub_w hs
        refine ⟨(hX.rd hS).ix k0 (by omega), ?_⟩
        refine hX.st (k := ⟨-1, 0, false, -1, -1, -1⟩) hS k0 (by omega) (by simp) (fun _ => ⟨rfl, by decide, by decide, by decide, by decide, by decide⟩) ?_
        intro w43 I43 hX hS
        refine ⟨(hX.rk hS).ix k0 (by rw [VwD.upd_kept]; omega), ?_⟩
        refine hX.sk hS k0 (by rw [VwD.upd_kept]; omega) (by constructor <;> omega) ?_
        intro w44 I44 hX hS
        refine go_wr (by omega) (by omega) ?_
        repeat refine go_rf ?_
        refine ⟨⟨_, I44, hX, hS, by omega, by omega, by show (v'.upd k _).regs.length = N; rw [VwD.upd_len]; exact hl1, by unfold keepV VwD.upd; simpa using hl2, fun j j0 j1 => ⟨?_, ?_⟩⟩, by omega⟩
        · show (v'.upd k ⟨-1, 0, false, -1, -1, -1⟩).reg j = default
          rw [VwD.upd_reg k0 (by omega) j j0]
          split
          · rfl
          · exact (hj j j0 (by omega)).1
        · show nth (v'.kept.set k.toNat (-1)) j = -1
          rw [nth_set _ _ _ _ k0 (by omega) j0]
          split
          · rfl
          · exact (hj j j0 (by omega)).2
      simp only [bls] at hi
      have hv' : v' = firstK p 0 := by
        refine VwD.ext' (by rw [firstK_len]; omega) (fun j j0 j1 => ?_) ?_
        · rw [(hj j j0 (by omega)).1, firstK_reg j0 (by omega), if_neg (by omega)]
        · rw [list_const hl2 (fun j j0 j1 => (hj j j0 (by omega)).2)]
          show List.replicate N (-1) = List.replicate p.regs.toNat (-1)
          rw [show p.regs.toNat = N from by omega]
      subst hv'
      clear hj hl1 hl2 k0 k1 hi
      refine ⟨px, hC.load hS rfl, ?_⟩
      rw [hpn]
      refine ⟨fun k w' => ∃ I', KstX a26 x22 x25 (firstK p k.toNat) I' ∧ St u1 w' (I' ++ (C ++ (IB ++ []))) ∧ 0 ≤ k ∧ k ≤ p.params.length, fun k _ => (p.params.length - k).toNat, ⟨I', hX, hS, by omega, by omega⟩, ?_⟩
      clear hX hS
      rintro k w ⟨I', hX, hS, k0, k1⟩
      dsimp only
      refine ⟨fun hi => ?_, fun hi => ?_⟩
      · simp only [bls] at hi
        have hlen : ((firstK p k.toNat).regs.length : Int) = N := by rw [firstK_len]; omega
        have hreg : (firstK p k.toNat).reg k = default := by rw [firstK_reg k0 (by omega), if_neg (by omega)]
        have hpk := hpt k k0 (by omega)
        have hku : ∀ {K : RegK}, k < ((firstK p k.toNat).upd k K).regs.length := by intro K; rw [VwD.upd_len]; omega
        refine go_ix hpx k0 (by omega) ?_
        refine ld_int (hpx.mono hS.sub) k0 (by omega) fun _ _ => ?_
        refine ⟨x22, hX.ld0 hS, (hX.rd hS).ix k0 (by omega), lx, hC.load hS rfl, ?_⟩
        refine ⟨_, c_contains (hlx.mono hS.sub), ?_⟩
        refine hX.s0 hS k0 (by omega) (by constructor <;> omega) rfl ?_
        clear hX hS
        intro w57 I57 hX hS
        rw [hreg] at hX
        refine hX.s2 hS k0 hku rfl ?_
        clear hX hS
        intro w58 I58 hX hS
        rw [VwD.upd_upd, VwD.upd_self k0 (by omega)] at hX
        have hX : KstX a26 x22 x25 ((firstK p k.toNat).upd k ⟨nth p.params k, 0, decide (k ∈ p.lent), -1, -1, -1⟩) I58 := hX
        obtain ⟨_, _, c3, _⟩ := rku (hX.rd hS) k0 (by omega)
        refine ⟨_, fun _ => c3, ?_⟩
        dsimp only
        have hfr : firstR p k.toNat = ⟨nth p.params k, if decide (k ∈ p.lent) = true then 0 else if nth p.params k ≠ 0 then 1 else 0, decide (k ∈ p.lent), -1, -1, -1⟩ := by
          unfold firstR
          rw [if_pos (by omega), show ((k.toNat : Nat) : Int) = k from by omega, any_mem]
        refine ⟨fun hq => ?_, fun hq => ?_⟩
        · simp only [Bool.and_eq_true, Bool.not_eq_true', decide_eq_false_iff_not] at hq
          refine hX.s1 hS k0 hku (by constructor <;> omega) rfl ?_
          clear hX hS c3
          intro w60 I60 hX hS
          rw [VwD.upd_upd, VwD.upd_self k0 (by omega)] at hX
          refine go_wr (by omega) (by omega) ?_
          repeat refine go_rf ?_
          refine ⟨⟨I60, ?_, hS, by omega, by omega⟩, by omega⟩
          rw [firstK_succ k0 (by omega), hfr, if_neg (by simpa using hq.2), if_pos hq.1]
          exact hX
        · refine go_wr (by omega) (by omega) ?_
          repeat refine go_rf ?_
          refine ⟨⟨I58, ?_, hS, by omega, by omega⟩, by omega⟩
          rw [firstK_succ k0 (by omega), hfr]
          have : (if decide (k ∈ p.lent) = true then (0 : Int) else if nth p.params k ≠ 0 then 1 else 0) = 0 := by
            split
            · rfl
            · rename_i h1
              rw [if_neg]
              intro h2
              simp [h1, h2] at hq
          rw [this]
          exact hX
      simp only [bls] at hi
      rw [show k.toNat = p.params.length from by omega, firstK_all] at hX
      clear k0 k1 hi
      have hl7 : w.cell? (a15.add 7) = some bx.val := hC.load hS rfl
      refine ⟨bx, hl7, hBB.ix (Int.le_refl 0) (by simp; omega), ?_⟩
      refine PV.put (ρ := repK) (R := C ++ []) (J := I') hBB (hS.perm (by
        classical
        exact List.perm_iff_count.2 fun a => by simp only [List.count_append, List.count_nil]; omega)) (Int.le_refl 0) (by simp; omega) (show Kst a26 (firstV p) I' from ⟨x22, x25, hX⟩) ?_
      intro w64 IB2 hBB2 hS
      have hVr : Vr a15 ⟨s0, s, px, lx, p.result, p.regs, cx⟩ (start0 p) (C ++ IB2) := ⟨bx, C, IB2, hC, hBB2, rfl⟩
      have hS : St u1 w64 ((C ++ IB2) ++ []) := hS.perm (by
        classical
        exact List.perm_iff_count.2 fun a => by simp only [List.count_append, List.count_nil]; omega)
      refine ⟨cx, (hVr.hv fun p hp => hS.at_ p (by simpa using hp)).2.2.2.2.2.2, ?_⟩
      rw [hcn]
      have hWf := firstV_wf (p := p) hN0 hpN hpt
      have hW0 : WfF N 1 (start0 p) := by
        unfold start0
        exact WfF.set (i := 0) (fun i v hv => by
          have : nth (List.replicate p.code.length (none : Option VwD)) i = none := nth_replicate_none
          rw [this] at hv; cases hv) hWf (Int.le_refl 0) (by simp; omega)
      refine ⟨fun k w' => ∃ F' I', flowV ds (ps.map sigOf) p k.toNat (start0 p) = some F' ∧ Vr a15 ⟨s0, s, px, lx, p.result, p.regs, cx⟩ F' I' ∧ WfF N (3 * k.toNat + 1) F' ∧ F'.length = p.code.length ∧ St u1 w' (I' ++ []) ∧ 0 ≤ k ∧ k ≤ p.code.length, fun k _ => (p.code.length - k).toNat, ⟨start0 p, _, rfl, hVr, hW0, by unfold start0; simp, hS, by omega, by omega⟩, ?_⟩
      clear hVr hS hBB2 hBB hX hC hl7
      rintro k w ⟨F1, I1, hb, hF, hW, hFl, hS, k0, k1⟩
      dsimp only
      refine ⟨fun hi => ?_, fun hi => ?_⟩
      · simp only [bls] at hi
        have hVr := hF
        obtain ⟨bx2, K0, K1, hC, hX, hIe⟩ := hVr
        have hS' : St u1 w (K0 ++ (K1 ++ [])) := by rw [hIe] at hS; simpa [List.append_assoc] using hS
        have hsn : flowV ds (ps.map sigOf) p (k + 1).toNat (start0 p) = (match nth F1 k with
          | none => some F1
          | some v => (passV ds (ps.map sigOf) p.result (nth p.code k) v).bind fun v' => leaveV ds (nth p.code k) k v' F1) := by
          rw [show (k + 1).toNat = k.toNat + 1 from by omega]
          unfold flowV
          rw [hb, Option.bind_some, show ((k.toNat : Nat) : Int) = k from by omega]
          cases nth F1 k <;> rfl
        refine ⟨bx2, hC.load hS' rfl, hX.ix k0 (by simp; omega), ?_⟩
        cases hn : nth F1 k with
        | none =>
          rw [hn] at hsn
          refine ⟨⟨_, rfl⟩, PV.none_at hX k0 (by omega) hn (fun p hp => hS'.at_ p (by simp [hp])), ?_⟩
          refine go_ptrN knownPtr ⟨(fun hq => by cases hq), fun _ => ?_⟩
          refine go_wr (by omega) (by omega) ?_
          repeat refine go_rf ?_
          exact ⟨⟨F1, I1, hsn, hF, hW.mono (by omega), hFl, hS, by omega, by omega⟩, by omega⟩
        | some v0 =>
          rw [hn] at hsn
          dsimp only at hsn
          obtain ⟨a0, Kx, Rest, q1, q2, q3, q4⟩ := PV.borrow hX k0 (by omega) hn
          have hS2 : St u1 w (Kx ++ (Rest ++ (K0 ++ []))) := hS'.perm (by
            classical
            exact List.perm_iff_count.2 fun a => by have := q2.count_eq a; simp only [List.count_append] at *; omega)
          refine ⟨⟨_, rfl⟩, q3 w (hS2.right.left).at_, ?_⟩
          refine go_ptrN knownPtr ⟨fun _ => ?_, (fun hq => by cases hq)⟩
          have hw0 := hW k v0 hn
          have hok := hinst k k0 (by omega)
          have ci := c_instruction (hd := ⟨s0, s, px, lx, p.result, p.regs, cx⟩) (R := []) hcx hxd hsd hsg hNl hlast hok hcl hrr hF hW hFl (by omega) (by omega) hS k0 (by omega) hn
          refine OpB.use ci (fun hm w' hs => ?_) (fun F2 I2 w' hm hF hS => ?_)
          · refine ⟨false, rfl, fun _ => ?_, fun h => by cases h⟩
            have : flowV ds (ps.map sigOf) p p.code.length (start0 p) = none := flowV_none (i := (k + 1).toNat) (hsn.trans hm) (by omega)
            exact ⟨[], ⟨hu1.trans hs, by simp, by simp, by simp [AtAll]⟩, ⟨none, 0, 0⟩, false, rfl, by unfold verifyV; rw [this]⟩
          · refine ⟨true, rfl, (fun h => by cases h), fun _ => ?_⟩
            obtain ⟨v', hm1, hm2⟩ := Option.bind_eq_some_iff.1 hm
            have hP : InP ds (ps.map sigOf) N p.code.length k (nth p.code k) := ⟨hsg, hok, hNl⟩
            have hw1 := passV_wf hP hrr hw0 (by omega) hm1
            obtain ⟨hW2, hl2⟩ := leaveV_wf hsg hok k0 (by omega) (fun e => by rw [e]; exact hlast) hw1 (hW.mono (by omega)) hFl (fun hop => passV_sw hop hm1) hm2
            refine go_wr (by omega) (by omega) ?_
            repeat refine go_rf ?_
            exact ⟨⟨F2, I2, hsn.trans hm, hF, hW2.mono (by omega), by omega, hS, by omega, by omega⟩, by omega⟩
      · simp only [bls] at hi
        rw [show k.toNat = p.code.length from by omega] at hb
        obtain ⟨bx2, K0, K1, hC, hX, rfl⟩ := hF
        have hS' : St u1 w (K0 ++ (K1 ++ [])) := by simpa [List.append_assoc] using hS
        exact ⟨bx2, hC.load hS' rfl, K1, by simpa using St.weakU (u' := u1) hS'.right hu1, bx2, true, rfl, by unfold verifyV; rw [hb]; exact ⟨rfl, hX⟩⟩
    · refine St.makeInts hS (by omega) (by omega) (by decide) ?_
      intro x25 w24 IK hKK hS hs
      refine ⟨_, rfl, hs, ?_⟩
      refine St.make (α := RegK) (a0 := ⟨0, 0, false, 0, 0, 0⟩) hS (by exact ⟨rfl, by decide, by decide, by decide, by decide, by decide⟩) (by omega) (by omega) (by decide) ?_
      intro x22 w21 IR hRR hS hs
      refine ⟨_, rfl, hs, ?_⟩
      rw [show p.regs.toNat = N from by omega] at hRR hKK
      refine St.box (vals := [x22.val, x25.val]) hS ?_
      intro a26 w27 C2 hC2 hS hs
      have hX0 : KstX a26 x22 x25 ⟨List.replicate N ⟨0, 0, false, 0, 0, 0⟩, List.replicate N 0⟩ (C2 ++ (IR ++ IK)) := ⟨C2, IR, IK, hC2, fun u => let ⟨rows, q1, q2, q3⟩ := hRR; ⟨rows, q1, q2, q3⟩, hKK.toI, rfl⟩
      have hS : St u1 w27 ((C2 ++ (IR ++ IK)) ++ (C ++ (IB ++ []))) := hS.perm (by
        classical
        exact List.perm_iff_count.2 fun a => by simp only [List.count_append, List.count_nil]; omega)
      have hxn := (hX0.rd hS).n
      simp only [List.length_replicate] at hxn
      refine ⟨x22, hX0.ld0 hS, ?_⟩
      rw [hxn]
      refine ⟨fun k w' => ∃ v' I', KstX a26 x22 x25 v' I' ∧ St u1 w' (I' ++ (C ++ (IB ++ []))) ∧ 0 ≤ k ∧ k ≤ N ∧ v'.regs.length = N ∧ v'.kept.length = N ∧ ∀ j : Int, 0 ≤ j → j < k → v'.reg j = default ∧ nth v'.kept j = -1, fun k _ => (N - k).toNat, ⟨_, _, hX0, hS, by omega, by omega, by simp, by simp, fun j j0 j1 => by omega⟩, ?_⟩
      clear hX0 hS hs hC2 hRR hKK
      rintro k w ⟨v', I', hX, hS, k0, k1, hl1, hl2, hj⟩
      dsimp only
      refine ⟨fun hi => ?_, fun hi => ?_⟩
      · simp only [bls] at hi
        refine ⟨x22, hX.ld0 hS, x25, hX.ld1 hS, ?_⟩
        refine Trip.mono' (c_unknownReg (v := w)) ?_
        rintro _ w36 ⟨rfl, hs⟩
        refine ⟨_, _, _, _, _, _, rfl, hs, ?_⟩
        have hS := hS.sub_w hs
        refine ⟨(hX.rd hS).ix k0 (by omega), ?_⟩
        refine hX.st (k := ⟨-1, 0, false, -1, -1, -1⟩) hS k0 (by omega) (by simp) (fun _ => ⟨rfl, by decide, by decide, by decide, by decide, by decide⟩) ?_
        intro w43 I43 hX hS
        refine ⟨(hX.rk hS).ix k0 (by rw [VwD.upd_kept]; omega), ?_⟩
        refine hX.sk hS k0 (by rw [VwD.upd_kept]; omega) (by constructor <;> omega) ?_
        intro w44 I44 hX hS
        refine go_wr (by omega) (by omega) ?_
        repeat refine go_rf ?_
        refine ⟨⟨_, I44, hX, hS, by omega, by omega, by show (v'.upd k _).regs.length = N; rw [VwD.upd_len]; exact hl1, by unfold keepV VwD.upd; simpa using hl2, fun j j0 j1 => ⟨?_, ?_⟩⟩, by omega⟩
        · show (v'.upd k ⟨-1, 0, false, -1, -1, -1⟩).reg j = default
          rw [VwD.upd_reg k0 (by omega) j j0]
          split
          · rfl
          · exact (hj j j0 (by omega)).1
        · show nth (v'.kept.set k.toNat (-1)) j = -1
          rw [nth_set _ _ _ _ k0 (by omega) j0]
          split
          · rfl
          · exact (hj j j0 (by omega)).2
      simp only [bls] at hi
      have hv' : v' = firstK p 0 := by
        refine VwD.ext' (by rw [firstK_len]; omega) (fun j j0 j1 => ?_) ?_
        · rw [(hj j j0 (by omega)).1, firstK_reg j0 (by omega), if_neg (by omega)]
        · rw [list_const hl2 (fun j j0 j1 => (hj j j0 (by omega)).2)]
          show List.replicate N (-1) = List.replicate p.regs.toNat (-1)
          rw [show p.regs.toNat = N from by omega]
      subst hv'
      clear hj hl1 hl2 k0 k1 hi
      refine ⟨px, hC.load hS rfl, ?_⟩
      rw [hpn]
      refine ⟨fun k w' => ∃ I', KstX a26 x22 x25 (firstK p k.toNat) I' ∧ St u1 w' (I' ++ (C ++ (IB ++ []))) ∧ 0 ≤ k ∧ k ≤ p.params.length, fun k _ => (p.params.length - k).toNat, ⟨I', hX, hS, by omega, by omega⟩, ?_⟩
      clear hX hS
      rintro k w ⟨I', hX, hS, k0, k1⟩
      dsimp only
      refine ⟨fun hi => ?_, fun hi => ?_⟩
      · simp only [bls] at hi
        have hlen : ((firstK p k.toNat).regs.length : Int) = N := by rw [firstK_len]; omega
        have hreg : (firstK p k.toNat).reg k = default := by rw [firstK_reg k0 (by omega), if_neg (by omega)]
        have hpk := hpt k k0 (by omega)
        have hku : ∀ {K : RegK}, k < ((firstK p k.toNat).upd k K).regs.length := by intro K; rw [VwD.upd_len]; omega
        refine go_ix hpx k0 (by omega) ?_
        refine ld_int (hpx.mono hS.sub) k0 (by omega) fun _ _ => ?_
        refine ⟨x22, hX.ld0 hS, (hX.rd hS).ix k0 (by omega), lx, hC.load hS rfl, ?_⟩
        refine ⟨_, c_contains (hlx.mono hS.sub), ?_⟩
        refine hX.s0 hS k0 (by omega) (by constructor <;> omega) rfl ?_
        clear hX hS
        intro w57 I57 hX hS
        rw [hreg] at hX
        refine hX.s2 hS k0 hku rfl ?_
        clear hX hS
        intro w58 I58 hX hS
        rw [VwD.upd_upd, VwD.upd_self k0 (by omega)] at hX
        have hX : KstX a26 x22 x25 ((firstK p k.toNat).upd k ⟨nth p.params k, 0, decide (k ∈ p.lent), -1, -1, -1⟩) I58 := hX
        obtain ⟨_, _, c3, _⟩ := rku (hX.rd hS) k0 (by omega)
        refine ⟨_, fun _ => c3, ?_⟩
        dsimp only
        have hfr : firstR p k.toNat = ⟨nth p.params k, if decide (k ∈ p.lent) = true then 0 else if nth p.params k ≠ 0 then 1 else 0, decide (k ∈ p.lent), -1, -1, -1⟩ := by
          unfold firstR
          rw [if_pos (by omega), show ((k.toNat : Nat) : Int) = k from by omega, any_mem]
        refine ⟨fun hq => ?_, fun hq => ?_⟩
        · simp only [Bool.and_eq_true, Bool.not_eq_true', decide_eq_false_iff_not] at hq
          refine hX.s1 hS k0 hku (by constructor <;> omega) rfl ?_
          clear hX hS c3
          intro w60 I60 hX hS
          rw [VwD.upd_upd, VwD.upd_self k0 (by omega)] at hX
          refine go_wr (by omega) (by omega) ?_
          repeat refine go_rf ?_
          refine ⟨⟨I60, ?_, hS, by omega, by omega⟩, by omega⟩
          rw [firstK_succ k0 (by omega), hfr, if_neg (by simpa using hq.2), if_pos hq.1]
          exact hX
        · refine go_wr (by omega) (by omega) ?_
          repeat refine go_rf ?_
          refine ⟨⟨I58, ?_, hS, by omega, by omega⟩, by omega⟩
          rw [firstK_succ k0 (by omega), hfr]
          have : (if decide (k ∈ p.lent) = true then (0 : Int) else if nth p.params k ≠ 0 then 1 else 0) = 0 := by
            split
            · rfl
            · rename_i h1
              rw [if_neg]
              intro h2
              simp [h1, h2] at hq
          rw [this]
          exact hX
      simp only [bls] at hi
      rw [show k.toNat = p.params.length from by omega, firstK_all] at hX
      clear k0 k1 hi
      have hl7 : w.cell? (a15.add 7) = some bx.val := hC.load hS rfl
      refine ⟨bx, hl7, hBB.ix (Int.le_refl 0) (by simp; omega), ?_⟩
      refine PV.put (ρ := repK) (R := C ++ []) (J := I') hBB (hS.perm (by
        classical
        exact List.perm_iff_count.2 fun a => by simp only [List.count_append, List.count_nil]; omega)) (Int.le_refl 0) (by simp; omega) (show Kst a26 (firstV p) I' from ⟨x22, x25, hX⟩) ?_
      intro w64 IB2 hBB2 hS
      have hVr : Vr a15 ⟨s0, s, px, lx, p.result, p.regs, cx⟩ (start0 p) (C ++ IB2) := ⟨bx, C, IB2, hC, hBB2, rfl⟩
      have hS : St u1 w64 ((C ++ IB2) ++ []) := hS.perm (by
        classical
        exact List.perm_iff_count.2 fun a => by simp only [List.count_append, List.count_nil]; omega)
      refine ⟨cx, (hVr.hv fun p hp => hS.at_ p (by simpa using hp)).2.2.2.2.2.2, ?_⟩
      rw [hcn]
      have hWf := firstV_wf (p := p) hN0 hpN hpt
      have hW0 : WfF N 1 (start0 p) := by
        unfold start0
        exact WfF.set (i := 0) (fun i v hv => by
          have : nth (List.replicate p.code.length (none : Option VwD)) i = none := nth_replicate_none
          rw [this] at hv; cases hv) hWf (Int.le_refl 0) (by simp; omega)
      refine ⟨fun k w' => ∃ F' I', flowV ds (ps.map sigOf) p k.toNat (start0 p) = some F' ∧ Vr a15 ⟨s0, s, px, lx, p.result, p.regs, cx⟩ F' I' ∧ WfF N (3 * k.toNat + 1) F' ∧ F'.length = p.code.length ∧ St u1 w' (I' ++ []) ∧ 0 ≤ k ∧ k ≤ p.code.length, fun k _ => (p.code.length - k).toNat, ⟨start0 p, _, rfl, hVr, hW0, by unfold start0; simp, hS, by omega, by omega⟩, ?_⟩
      clear hVr hS hBB2 hBB hX hC hl7
      rintro k w ⟨F1, I1, hb, hF, hW, hFl, hS, k0, k1⟩
      dsimp only
      refine ⟨fun hi => ?_, fun hi => ?_⟩
      · simp only [bls] at hi
        have hVr := hF
        obtain ⟨bx2, K0, K1, hC, hX, hIe⟩ := hVr
        have hS' : St u1 w (K0 ++ (K1 ++ [])) := by rw [hIe] at hS; simpa [List.append_assoc] using hS
        have hsn : flowV ds (ps.map sigOf) p (k + 1).toNat (start0 p) = (match nth F1 k with
          | none => some F1
          | some v => (passV ds (ps.map sigOf) p.result (nth p.code k) v).bind fun v' => leaveV ds (nth p.code k) k v' F1) := by
          rw [show (k + 1).toNat = k.toNat + 1 from by omega]
          unfold flowV
          rw [hb, Option.bind_some, show ((k.toNat : Nat) : Int) = k from by omega]
          cases nth F1 k <;> rfl
        refine ⟨bx2, hC.load hS' rfl, hX.ix k0 (by simp; omega), ?_⟩
        cases hn : nth F1 k with
        | none =>
          rw [hn] at hsn
          refine ⟨⟨_, rfl⟩, PV.none_at hX k0 (by omega) hn (fun p hp => hS'.at_ p (by simp [hp])), ?_⟩
          refine go_ptrN knownPtr ⟨(fun hq => by cases hq), fun _ => ?_⟩
          refine go_wr (by omega) (by omega) ?_
          repeat refine go_rf ?_
          exact ⟨⟨F1, I1, hsn, hF, hW.mono (by omega), hFl, hS, by omega, by omega⟩, by omega⟩
        | some v0 =>
          rw [hn] at hsn
          dsimp only at hsn
          obtain ⟨a0, Kx, Rest, q1, q2, q3, q4⟩ := PV.borrow hX k0 (by omega) hn
          have hS2 : St u1 w (Kx ++ (Rest ++ (K0 ++ []))) := hS'.perm (by
            classical
            exact List.perm_iff_count.2 fun a => by have := q2.count_eq a; simp only [List.count_append] at *; omega)
          refine ⟨⟨_, rfl⟩, q3 w (hS2.right.left).at_, ?_⟩
          refine go_ptrN knownPtr ⟨fun _ => ?_, (fun hq => by cases hq)⟩
          have hw0 := hW k v0 hn
          have hok := hinst k k0 (by omega)
          have ci := c_instruction (hd := ⟨s0, s, px, lx, p.result, p.regs, cx⟩) (R := []) hcx hxd hsd hsg hNl hlast hok hcl hrr hF hW hFl (by omega) (by omega) hS k0 (by omega) hn
          refine OpB.use ci (fun hm w' hs => ?_) (fun F2 I2 w' hm hF hS => ?_)
          · refine ⟨false, rfl, fun _ => ?_, fun h => by cases h⟩
            have : flowV ds (ps.map sigOf) p p.code.length (start0 p) = none := flowV_none (i := (k + 1).toNat) (hsn.trans hm) (by omega)
            exact ⟨[], ⟨hu1.trans hs, by simp, by simp, by simp [AtAll]⟩, ⟨none, 0, 0⟩, false, rfl, by unfold verifyV; rw [this]⟩
          · refine ⟨true, rfl, (fun h => by cases h), fun _ => ?_⟩
            obtain ⟨v', hm1, hm2⟩ := Option.bind_eq_some_iff.1 hm
            have hP : InP ds (ps.map sigOf) N p.code.length k (nth p.code k) := ⟨hsg, hok, hNl⟩
            have hw1 := passV_wf hP hrr hw0 (by omega) hm1
            obtain ⟨hW2, hl2⟩ := leaveV_wf hsg hok k0 (by omega) (fun e => by rw [e]; exact hlast) hw1 (hW.mono (by omega)) hFl (fun hop => passV_sw hop hm1) hm2
            refine go_wr (by omega) (by omega) ?_
            repeat refine go_rf ?_
            exact ⟨⟨F2, I2, hsn.trans hm, hF, hW2.mono (by omega), by omega, hS, by omega, by omega⟩, by omega⟩
      · simp only [bls] at hi
        rw [show k.toNat = p.code.length from by omega] at hb
        obtain ⟨bx2, K0, K1, hC, hX, rfl⟩ := hF
        have hS' : St u1 w (K0 ++ (K1 ++ [])) := by simpa [List.append_assoc] using hS
        exact ⟨bx2, hC.load hS' rfl, K1, by simpa using St.weakU (u' := u1) hS'.right hu1, bx2, true, rfl, by unfold verifyV; rw [hb]; exact ⟨rfl, hX⟩⟩
  · refine St.box (vals := [.slice none 0 0, .slice none 0 0, .slice none 0 0, .slice none 0 0, .int .i64 0, .int .i64 0, .slice none 0 0, .slice none 0 0]) hS ?_
    intro a15 w16 C hC hS hs
    refine ⟨hs, ?_⟩
    rw [hcn]
    refine St.make (α := PV repK) (a0 := ⟨none⟩) hS (by exact (rfl : [Value.pointer none] = _)) (by omega) (by omega) (by decide) ?_
    intro bx w13 IB hB hS hs
    refine ⟨_, rfl, hs, ?_⟩
    have hBB := PV.make hB
    rw [show ((p.code.length : Nat) : Int).toNat = p.code.length from by omega] at hBB
    have hS : St u1 w13 (C ++ (IB ++ [])) := hS.perm (by
      classical
      exact List.perm_iff_count.2 fun a => by simp only [List.count_append, List.count_nil]; omega)
    refine Cel.store (off := 0) hC hS (by simp) ?_
    clear hC hS hs
    intro w17 C hC hS
    have hC : Cel a15 ((⟨s0, s, px, lx, p.result, p.regs, cx⟩ : Hd).vals bx) C := hC
    refine ⟨p.regs, hC.load hS rfl, p.regs, hC.load hS rfl, ?_, ?_⟩
    · refine St.make (α := RegK) (a0 := ⟨0, 0, false, 0, 0, 0⟩) hS (by exact ⟨rfl, by decide, by decide, by decide, by decide, by decide⟩) (by omega) (by omega) (by decide) ?_
      intro x22 w21 IR hRR hS hs
      refine ⟨_, rfl, hs, ?_⟩
      refine St.makeInts hS (by omega) (by omega) (by decide) ?_
      intro x25 w24 IK hKK hS hs
      refine ⟨_, rfl, hs, ?_⟩
      rw [show p.regs.toNat = N from by omega] at hRR hKK
      refine St.box (vals := [x22.val, x25.val]) hS ?_
      intro a26 w27 C2 hC2 hS hs
      have hX0 : KstX a26 x22 x25 ⟨List.replicate N ⟨0, 0, false, 0, 0, 0⟩, List.replicate N 0⟩ (C2 ++ (IR ++ IK)) := ⟨C2, IR, IK, hC2, fun u => let ⟨rows, q1, q2, q3⟩ := hRR; ⟨rows, q1, q2, q3⟩, hKK.toI, rfl⟩
      have hS : St u1 w27 ((C2 ++ (IR ++ IK)) ++ (C ++ (IB ++ []))) := hS.perm (by
        classical
        exact List.perm_iff_count.2 fun a => by simp only [List.count_append, List.count_nil]; omega)
      have hxn := (hX0.rd hS).n
      simp only [List.length_replicate] at hxn
      refine ⟨x22, hX0.ld0 hS, ?_⟩
      rw [hxn]
      refine ⟨fun k w' => ∃ v' I', KstX a26 x22 x25 v' I' ∧ St u1 w' (I' ++ (C ++ (IB ++ []))) ∧ 0 ≤ k ∧ k ≤ N ∧ v'.regs.length = N ∧ v'.kept.length = N ∧ ∀ j : Int, 0 ≤ j → j < k → v'.reg j = default ∧ nth v'.kept j = -1, fun k _ => (N - k).toNat, ⟨_, _, hX0, hS, by omega, by omega, by simp, by simp, fun j j0 j1 => by omega⟩, ?_⟩
      clear hX0 hS hs hC2 hRR hKK
      rintro k w ⟨v', I', hX, hS, k0, k1, hl1, hl2, hj⟩
      dsimp only
      refine ⟨fun hi => ?_, fun hi => ?_⟩
      · simp only [bls] at hi
        refine ⟨x22, hX.ld0 hS, x25, hX.ld1 hS, ?_⟩
        refine Trip.mono' (c_unknownReg (v := w)) ?_
        rintro _ w36 ⟨rfl, hs⟩
        refine ⟨_, _, _, _, _, _, rfl, hs, ?_⟩
        have hS := hS.sub_w hs
        refine ⟨(hX.rd hS).ix k0 (by omega), ?_⟩
        refine hX.st (k := ⟨-1, 0, false, -1, -1, -1⟩) hS k0 (by omega) (by simp) (fun _ => ⟨rfl, by decide, by decide, by decide, by decide, by decide⟩) ?_
        intro w43 I43 hX hS
        refine ⟨(hX.rk hS).ix k0 (by rw [VwD.upd_kept]; omega), ?_⟩
        refine hX.sk hS k0 (by rw [VwD.upd_kept]; omega) (by constructor <;> omega) ?_
        intro w44 I44 hX hS
        refine go_wr (by omega) (by omega) ?_
        repeat refine go_rf ?_
        refine ⟨⟨_, I44, hX, hS, by omega, by omega, by show (v'.upd k _).regs.length = N; rw [VwD.upd_len]; exact hl1, by unfold keepV VwD.upd; simpa using hl2, fun j j0 j1 => ⟨?_, ?_⟩⟩, by omega⟩
        · show (v'.upd k ⟨-1, 0, false, -1, -1, -1⟩).reg j = default
          rw [VwD.upd_reg k0 (by omega) j j0]
          split
          · rfl
          · exact (hj j j0 (by omega)).1
        · show nth (v'.kept.set k.toNat (-1)) j = -1
          rw [nth_set _ _ _ _ k0 (by omega) j0]
          split
          · rfl
          · exact (hj j j0 (by omega)).2
      simp only [bls] at hi
      have hv' : v' = firstK p 0 := by
        refine VwD.ext' (by rw [firstK_len]; omega) (fun j j0 j1 => ?_) ?_
        · rw [(hj j j0 (by omega)).1, firstK_reg j0 (by omega), if_neg (by omega)]
        · rw [list_const hl2 (fun j j0 j1 => (hj j j0 (by omega)).2)]
          show List.replicate N (-1) = List.replicate p.regs.toNat (-1)
          rw [show p.regs.toNat = N from by omega]
      subst hv'
      clear hj hl1 hl2 k0 k1 hi
      refine ⟨px, hC.load hS rfl, ?_⟩
      rw [hpn]
      refine ⟨fun k w' => ∃ I', KstX a26 x22 x25 (firstK p k.toNat) I' ∧ St u1 w' (I' ++ (C ++ (IB ++ []))) ∧ 0 ≤ k ∧ k ≤ p.params.length, fun k _ => (p.params.length - k).toNat, ⟨I', hX, hS, by omega, by omega⟩, ?_⟩
      clear hX hS
      rintro k w ⟨I', hX, hS, k0, k1⟩
      dsimp only
      refine ⟨fun hi => ?_, fun hi => ?_⟩
      · simp only [bls] at hi
        have hlen : ((firstK p k.toNat).regs.length : Int) = N := by rw [firstK_len]; omega
        have hreg : (firstK p k.toNat).reg k = default := by rw [firstK_reg k0 (by omega), if_neg (by omega)]
        have hpk := hpt k k0 (by omega)
        have hku : ∀ {K : RegK}, k < ((firstK p k.toNat).upd k K).regs.length := by intro K; rw [VwD.upd_len]; omega
        refine go_ix hpx k0 (by omega) ?_
        refine ld_int (hpx.mono hS.sub) k0 (by omega) fun _ _ => ?_
        refine ⟨x22, hX.ld0 hS, (hX.rd hS).ix k0 (by omega), lx, hC.load hS rfl, ?_⟩
        refine ⟨_, c_contains (hlx.mono hS.sub), ?_⟩
        refine hX.s0 hS k0 (by omega) (by constructor <;> omega) rfl ?_
        clear hX hS
        intro w57 I57 hX hS
        rw [hreg] at hX
        refine hX.s2 hS k0 hku rfl ?_
        clear hX hS
        intro w58 I58 hX hS
        rw [VwD.upd_upd, VwD.upd_self k0 (by omega)] at hX
        have hX : KstX a26 x22 x25 ((firstK p k.toNat).upd k ⟨nth p.params k, 0, decide (k ∈ p.lent), -1, -1, -1⟩) I58 := hX
        obtain ⟨_, _, c3, _⟩ := rku (hX.rd hS) k0 (by omega)
        refine ⟨_, fun _ => c3, ?_⟩
        dsimp only
        have hfr : firstR p k.toNat = ⟨nth p.params k, if decide (k ∈ p.lent) = true then 0 else if nth p.params k ≠ 0 then 1 else 0, decide (k ∈ p.lent), -1, -1, -1⟩ := by
          unfold firstR
          rw [if_pos (by omega), show ((k.toNat : Nat) : Int) = k from by omega, any_mem]
        refine ⟨fun hq => ?_, fun hq => ?_⟩
        · simp only [Bool.and_eq_true, Bool.not_eq_true', decide_eq_false_iff_not] at hq
          refine hX.s1 hS k0 hku (by constructor <;> omega) rfl ?_
          clear hX hS c3
          intro w60 I60 hX hS
          rw [VwD.upd_upd, VwD.upd_self k0 (by omega)] at hX
          refine go_wr (by omega) (by omega) ?_
          repeat refine go_rf ?_
          refine ⟨⟨I60, ?_, hS, by omega, by omega⟩, by omega⟩
          rw [firstK_succ k0 (by omega), hfr, if_neg (by simpa using hq.2), if_pos hq.1]
          exact hX
        · refine go_wr (by omega) (by omega) ?_
          repeat refine go_rf ?_
          refine ⟨⟨I58, ?_, hS, by omega, by omega⟩, by omega⟩
          rw [firstK_succ k0 (by omega), hfr]
          have : (if decide (k ∈ p.lent) = true then (0 : Int) else if nth p.params k ≠ 0 then 1 else 0) = 0 := by
            split
            · rfl
            · rename_i h1
              rw [if_neg]
              intro h2
              simp [h1, h2] at hq
          rw [this]
          exact hX
      simp only [bls] at hi
      rw [show k.toNat = p.params.length from by omega, firstK_all] at hX
      clear k0 k1 hi
      have hl7 : w.cell? (a15.add 7) = some bx.val := hC.load hS rfl
      refine ⟨bx, hl7, hBB.ix (Int.le_refl 0) (by simp; omega), ?_⟩
      refine PV.put (ρ := repK) (R := C ++ []) (J := I') hBB (hS.perm (by
        classical
        exact List.perm_iff_count.2 fun a => by simp only [List.count_append, List.count_nil]; omega)) (Int.le_refl 0) (by simp; omega) (show Kst a26 (firstV p) I' from ⟨x22, x25, hX⟩) ?_
      intro w64 IB2 hBB2 hS
      have hVr : Vr a15 ⟨s0, s, px, lx, p.result, p.regs, cx⟩ (start0 p) (C ++ IB2) := ⟨bx, C, IB2, hC, hBB2, rfl⟩
      have hS : St u1 w64 ((C ++ IB2) ++ []) := hS.perm (by
        classical
        exact List.perm_iff_count.2 fun a => by simp only [List.count_append, List.count_nil]; omega)
      refine ⟨cx, (hVr.hv fun p hp => hS.at_ p (by simpa using hp)).2.2.2.2.2.2, ?_⟩
      rw [hcn]
      have hWf := firstV_wf (p := p) hN0 hpN hpt
      have hW0 : WfF N 1 (start0 p) := by
        unfold start0
        exact WfF.set (i := 0) (fun i v hv => by
          have : nth (List.replicate p.code.length (none : Option VwD)) i = none := nth_replicate_none
          rw [this] at hv; cases hv) hWf (Int.le_refl 0) (by simp; omega)
      refine ⟨fun k w' => ∃ F' I', flowV ds (ps.map sigOf) p k.toNat (start0 p) = some F' ∧ Vr a15 ⟨s0, s, px, lx, p.result, p.regs, cx⟩ F' I' ∧ WfF N (3 * k.toNat + 1) F' ∧ F'.length = p.code.length ∧ St u1 w' (I' ++ []) ∧ 0 ≤ k ∧ k ≤ p.code.length, fun k _ => (p.code.length - k).toNat, ⟨start0 p, _, rfl, hVr, hW0, by unfold start0; simp, hS, by omega, by omega⟩, ?_⟩
      clear hVr hS hBB2 hBB hX hC hl7
      rintro k w ⟨F1, I1, hb, hF, hW, hFl, hS, k0, k1⟩
      dsimp only
      refine ⟨fun hi => ?_, fun hi => ?_⟩
      · simp only [bls] at hi
        have hVr := hF
        obtain ⟨bx2, K0, K1, hC, hX, hIe⟩ := hVr
        have hS' : St u1 w (K0 ++ (K1 ++ [])) := by rw [hIe] at hS; simpa [List.append_assoc] using hS
        have hsn : flowV ds (ps.map sigOf) p (k + 1).toNat (start0 p) = (match nth F1 k with
          | none => some F1
          | some v => (passV ds (ps.map sigOf) p.result (nth p.code k) v).bind fun v' => leaveV ds (nth p.code k) k v' F1) := by
          rw [show (k + 1).toNat = k.toNat + 1 from by omega]
          unfold flowV
          rw [hb, Option.bind_some, show ((k.toNat : Nat) : Int) = k from by omega]
          cases nth F1 k <;> rfl
        refine ⟨bx2, hC.load hS' rfl, hX.ix k0 (by simp; omega), ?_⟩
        cases hn : nth F1 k with
        | none =>
          rw [hn] at hsn
          refine ⟨⟨_, rfl⟩, PV.none_at hX k0 (by omega) hn (fun p hp => hS'.at_ p (by simp [hp])), ?_⟩
          refine go_ptrN knownPtr ⟨(fun hq => by cases hq), fun _ => ?_⟩
          refine go_wr (by omega) (by omega) ?_
          repeat refine go_rf ?_
          exact ⟨⟨F1, I1, hsn, hF, hW.mono (by omega), hFl, hS, by omega, by omega⟩, by omega⟩
        | some v0 =>
          rw [hn] at hsn
          dsimp only at hsn
          obtain ⟨a0, Kx, Rest, q1, q2, q3, q4⟩ := PV.borrow hX k0 (by omega) hn
          have hS2 : St u1 w (Kx ++ (Rest ++ (K0 ++ []))) := hS'.perm (by
            classical
            exact List.perm_iff_count.2 fun a => by have := q2.count_eq a; simp only [List.count_append] at *; omega)
          refine ⟨⟨_, rfl⟩, q3 w (hS2.right.left).at_, ?_⟩
          refine go_ptrN knownPtr ⟨fun _ => ?_, (fun hq => by cases hq)⟩
          have hw0 := hW k v0 hn
          have hok := hinst k k0 (by omega)
          have ci := c_instruction (hd := ⟨s0, s, px, lx, p.result, p.regs, cx⟩) (R := []) hcx hxd hsd hsg hNl hlast hok hcl hrr hF hW hFl (by omega) (by omega) hS k0 (by omega) hn
          refine OpB.use ci (fun hm w' hs => ?_) (fun F2 I2 w' hm hF hS => ?_)
          · refine ⟨false, rfl, fun _ => ?_, fun h => by cases h⟩
            have : flowV ds (ps.map sigOf) p p.code.length (start0 p) = none := flowV_none (i := (k + 1).toNat) (hsn.trans hm) (by omega)
            exact ⟨[], ⟨hu1.trans hs, by simp, by simp, by simp [AtAll]⟩, ⟨none, 0, 0⟩, false, rfl, by unfold verifyV; rw [this]⟩
          · refine ⟨true, rfl, (fun h => by cases h), fun _ => ?_⟩
            obtain ⟨v', hm1, hm2⟩ := Option.bind_eq_some_iff.1 hm
            have hP : InP ds (ps.map sigOf) N p.code.length k (nth p.code k) := ⟨hsg, hok, hNl⟩
            have hw1 := passV_wf hP hrr hw0 (by omega) hm1
            obtain ⟨hW2, hl2⟩ := leaveV_wf hsg hok k0 (by omega) (fun e => by rw [e]; exact hlast) hw1 (hW.mono (by omega)) hFl (fun hop => passV_sw hop hm1) hm2
            refine go_wr (by omega) (by omega) ?_
            repeat refine go_rf ?_
            exact ⟨⟨F2, I2, hsn.trans hm, hF, hW2.mono (by omega), by omega, hS, by omega, by omega⟩, by omega⟩
      · simp only [bls] at hi
        rw [show k.toNat = p.code.length from by omega] at hb
        obtain ⟨bx2, K0, K1, hC, hX, rfl⟩ := hF
        have hS' : St u1 w (K0 ++ (K1 ++ [])) := by simpa [List.append_assoc] using hS
        exact ⟨bx2, hC.load hS' rfl, K1, by simpa using St.weakU (u' := u1) hS'.right hu1, bx2, true, rfl, by unfold verifyV; rw [hb]; exact ⟨rfl, hX⟩⟩
    · refine St.makeInts hS (by omega) (by omega) (by decide) ?_
      intro x25 w24 IK hKK hS hs
      refine ⟨_, rfl, hs, ?_⟩
      refine St.make (α := RegK) (a0 := ⟨0, 0, false, 0, 0, 0⟩) hS (by exact ⟨rfl, by decide, by decide, by decide, by decide, by decide⟩) (by omega) (by omega) (by decide) ?_
      intro x22 w21 IR hRR hS hs
      refine ⟨_, rfl, hs, ?_⟩
      rw [show p.regs.toNat = N from by omega] at hRR hKK
      refine St.box (vals := [x22.val, x25.val]) hS ?_
      intro a26 w27 C2 hC2 hS hs
      have hX0 : KstX a26 x22 x25 ⟨List.replicate N ⟨0, 0, false, 0, 0, 0⟩, List.replicate N 0⟩ (C2 ++ (IR ++ IK)) := ⟨C2, IR, IK, hC2, fun u => let ⟨rows, q1, q2, q3⟩ := hRR; ⟨rows, q1, q2, q3⟩, hKK.toI, rfl⟩
      have hS : St u1 w27 ((C2 ++ (IR ++ IK)) ++ (C ++ (IB ++ []))) := hS.perm (by
        classical
        exact List.perm_iff_count.2 fun a => by simp only [List.count_append, List.count_nil]; omega)
      have hxn := (hX0.rd hS).n
      simp only [List.length_replicate] at hxn
      refine ⟨x22, hX0.ld0 hS, ?_⟩
      rw [hxn]
      refine ⟨fun k w' => ∃ v' I', KstX a26 x22 x25 v' I' ∧ St u1 w' (I' ++ (C ++ (IB ++ []))) ∧ 0 ≤ k ∧ k ≤ N ∧ v'.regs.length = N ∧ v'.kept.length = N ∧ ∀ j : Int, 0 ≤ j → j < k → v'.reg j = default ∧ nth v'.kept j = -1, fun k _ => (N - k).toNat, ⟨_, _, hX0, hS, by omega, by omega, by simp, by simp, fun j j0 j1 => by omega⟩, ?_⟩
      clear hX0 hS hs hC2 hRR hKK
      rintro k w ⟨v', I', hX, hS, k0, k1, hl1, hl2, hj⟩
      dsimp only
      refine ⟨fun hi => ?_, fun hi => ?_⟩
      · simp only [bls] at hi
        refine ⟨x22, hX.ld0 hS, x25, hX.ld1 hS, ?_⟩
        refine Trip.mono' (c_unknownReg (v := w)) ?_
        rintro _ w36 ⟨rfl, hs⟩
        refine ⟨_, _, _, _, _, _, rfl, hs, ?_⟩
        have hS := hS.sub_w hs
        refine ⟨(hX.rd hS).ix k0 (by omega), ?_⟩
        refine hX.st (k := ⟨-1, 0, false, -1, -1, -1⟩) hS k0 (by omega) (by simp) (fun _ => ⟨rfl, by decide, by decide, by decide, by decide, by decide⟩) ?_
        intro w43 I43 hX hS
        refine ⟨(hX.rk hS).ix k0 (by rw [VwD.upd_kept]; omega), ?_⟩
        refine hX.sk hS k0 (by rw [VwD.upd_kept]; omega) (by constructor <;> omega) ?_
        intro w44 I44 hX hS
        refine go_wr (by omega) (by omega) ?_
        repeat refine go_rf ?_
        refine ⟨⟨_, I44, hX, hS, by omega, by omega, by show (v'.upd k _).regs.length = N; rw [VwD.upd_len]; exact hl1, by unfold keepV VwD.upd; simpa using hl2, fun j j0 j1 => ⟨?_, ?_⟩⟩, by omega⟩
        · show (v'.upd k ⟨-1, 0, false, -1, -1, -1⟩).reg j = default
          rw [VwD.upd_reg k0 (by omega) j j0]
          split
          · rfl
          · exact (hj j j0 (by omega)).1
        · show nth (v'.kept.set k.toNat (-1)) j = -1
          rw [nth_set _ _ _ _ k0 (by omega) j0]
          split
          · rfl
          · exact (hj j j0 (by omega)).2
      simp only [bls] at hi
      have hv' : v' = firstK p 0 := by
        refine VwD.ext' (by rw [firstK_len]; omega) (fun j j0 j1 => ?_) ?_
        · rw [(hj j j0 (by omega)).1, firstK_reg j0 (by omega), if_neg (by omega)]
        · rw [list_const hl2 (fun j j0 j1 => (hj j j0 (by omega)).2)]
          show List.replicate N (-1) = List.replicate p.regs.toNat (-1)
          rw [show p.regs.toNat = N from by omega]
      subst hv'
      clear hj hl1 hl2 k0 k1 hi
      refine ⟨px, hC.load hS rfl, ?_⟩
      rw [hpn]
      refine ⟨fun k w' => ∃ I', KstX a26 x22 x25 (firstK p k.toNat) I' ∧ St u1 w' (I' ++ (C ++ (IB ++ []))) ∧ 0 ≤ k ∧ k ≤ p.params.length, fun k _ => (p.params.length - k).toNat, ⟨I', hX, hS, by omega, by omega⟩, ?_⟩
      clear hX hS
      rintro k w ⟨I', hX, hS, k0, k1⟩
      dsimp only
      refine ⟨fun hi => ?_, fun hi => ?_⟩
      · simp only [bls] at hi
        have hlen : ((firstK p k.toNat).regs.length : Int) = N := by rw [firstK_len]; omega
        have hreg : (firstK p k.toNat).reg k = default := by rw [firstK_reg k0 (by omega), if_neg (by omega)]
        have hpk := hpt k k0 (by omega)
        have hku : ∀ {K : RegK}, k < ((firstK p k.toNat).upd k K).regs.length := by intro K; rw [VwD.upd_len]; omega
        refine go_ix hpx k0 (by omega) ?_
        refine ld_int (hpx.mono hS.sub) k0 (by omega) fun _ _ => ?_
        refine ⟨x22, hX.ld0 hS, (hX.rd hS).ix k0 (by omega), lx, hC.load hS rfl, ?_⟩
        refine ⟨_, c_contains (hlx.mono hS.sub), ?_⟩
        refine hX.s0 hS k0 (by omega) (by constructor <;> omega) rfl ?_
        clear hX hS
        intro w57 I57 hX hS
        rw [hreg] at hX
        refine hX.s2 hS k0 hku rfl ?_
        clear hX hS
        intro w58 I58 hX hS
        rw [VwD.upd_upd, VwD.upd_self k0 (by omega)] at hX
        have hX : KstX a26 x22 x25 ((firstK p k.toNat).upd k ⟨nth p.params k, 0, decide (k ∈ p.lent), -1, -1, -1⟩) I58 := hX
        obtain ⟨_, _, c3, _⟩ := rku (hX.rd hS) k0 (by omega)
        refine ⟨_, fun _ => c3, ?_⟩
        dsimp only
        have hfr : firstR p k.toNat = ⟨nth p.params k, if decide (k ∈ p.lent) = true then 0 else if nth p.params k ≠ 0 then 1 else 0, decide (k ∈ p.lent), -1, -1, -1⟩ := by
          unfold firstR
          rw [if_pos (by omega), show ((k.toNat : Nat) : Int) = k from by omega, any_mem]
        refine ⟨fun hq => ?_, fun hq => ?_⟩
        · simp only [Bool.and_eq_true, Bool.not_eq_true', decide_eq_false_iff_not] at hq
          refine hX.s1 hS k0 hku (by constructor <;> omega) rfl ?_
          clear hX hS c3
          intro w60 I60 hX hS
          rw [VwD.upd_upd, VwD.upd_self k0 (by omega)] at hX
          refine go_wr (by omega) (by omega) ?_
          repeat refine go_rf ?_
          refine ⟨⟨I60, ?_, hS, by omega, by omega⟩, by omega⟩
          rw [firstK_succ k0 (by omega), hfr, if_neg (by simpa using hq.2), if_pos hq.1]
          exact hX
        · refine go_wr (by omega) (by omega) ?_
          repeat refine go_rf ?_
          refine ⟨⟨I58, ?_, hS, by omega, by omega⟩, by omega⟩
          rw [firstK_succ k0 (by omega), hfr]
          have : (if decide (k ∈ p.lent) = true then (0 : Int) else if nth p.params k ≠ 0 then 1 else 0) = 0 := by
            split
            · rfl
            · rename_i h1
              rw [if_neg]
              intro h2
              simp [h1, h2] at hq
          rw [this]
          exact hX
      simp only [bls] at hi
      rw [show k.toNat = p.params.length from by omega, firstK_all] at hX
      clear k0 k1 hi
      have hl7 : w.cell? (a15.add 7) = some bx.val := hC.load hS rfl
      refine ⟨bx, hl7, hBB.ix (Int.le_refl 0) (by simp; omega), ?_⟩
      refine PV.put (ρ := repK) (R := C ++ []) (J := I') hBB (hS.perm (by
        classical
        exact List.perm_iff_count.2 fun a => by simp only [List.count_append, List.count_nil]; omega)) (Int.le_refl 0) (by simp; omega) (show Kst a26 (firstV p) I' from ⟨x22, x25, hX⟩) ?_
      intro w64 IB2 hBB2 hS
      have hVr : Vr a15 ⟨s0, s, px, lx, p.result, p.regs, cx⟩ (start0 p) (C ++ IB2) := ⟨bx, C, IB2, hC, hBB2, rfl⟩
      have hS : St u1 w64 ((C ++ IB2) ++ []) := hS.perm (by
        classical
        exact List.perm_iff_count.2 fun a => by simp only [List.count_append, List.count_nil]; omega)
      refine ⟨cx, (hVr.hv fun p hp => hS.at_ p (by simpa using hp)).2.2.2.2.2.2, ?_⟩
      rw [hcn]
      have hWf := firstV_wf (p := p) hN0 hpN hpt
      have hW0 : WfF N 1 (start0 p) := by
        unfold start0
        exact WfF.set (i := 0) (fun i v hv => by
          have : nth (List.replicate p.code.length (none : Option VwD)) i = none := nth_replicate_none
          rw [this] at hv; cases hv) hWf (Int.le_refl 0) (by simp; omega)
      refine ⟨fun k w' => ∃ F' I', flowV ds (ps.map sigOf) p k.toNat (start0 p) = some F' ∧ Vr a15 ⟨s0, s, px, lx, p.result, p.regs, cx⟩ F' I' ∧ WfF N (3 * k.toNat + 1) F' ∧ F'.length = p.code.length ∧ St u1 w' (I' ++ []) ∧ 0 ≤ k ∧ k ≤ p.code.length, fun k _ => (p.code.length - k).toNat, ⟨start0 p, _, rfl, hVr, hW0, by unfold start0; simp, hS, by omega, by omega⟩, ?_⟩
      clear hVr hS hBB2 hBB hX hC hl7
      rintro k w ⟨F1, I1, hb, hF, hW, hFl, hS, k0, k1⟩
      dsimp only
      refine ⟨fun hi => ?_, fun hi => ?_⟩
      · simp only [bls] at hi
        have hVr := hF
        obtain ⟨bx2, K0, K1, hC, hX, hIe⟩ := hVr
        have hS' : St u1 w (K0 ++ (K1 ++ [])) := by rw [hIe] at hS; simpa [List.append_assoc] using hS
        have hsn : flowV ds (ps.map sigOf) p (k + 1).toNat (start0 p) = (match nth F1 k with
          | none => some F1
          | some v => (passV ds (ps.map sigOf) p.result (nth p.code k) v).bind fun v' => leaveV ds (nth p.code k) k v' F1) := by
          rw [show (k + 1).toNat = k.toNat + 1 from by omega]
          unfold flowV
          rw [hb, Option.bind_some, show ((k.toNat : Nat) : Int) = k from by omega]
          cases nth F1 k <;> rfl
        refine ⟨bx2, hC.load hS' rfl, hX.ix k0 (by simp; omega), ?_⟩
        cases hn : nth F1 k with
        | none =>
          rw [hn] at hsn
          refine ⟨⟨_, rfl⟩, PV.none_at hX k0 (by omega) hn (fun p hp => hS'.at_ p (by simp [hp])), ?_⟩
          refine go_ptrN knownPtr ⟨(fun hq => by cases hq), fun _ => ?_⟩
          refine go_wr (by omega) (by omega) ?_
          repeat refine go_rf ?_
          exact ⟨⟨F1, I1, hsn, hF, hW.mono (by omega), hFl, hS, by omega, by omega⟩, by omega⟩
        | some v0 =>
          rw [hn] at hsn
          dsimp only at hsn
          obtain ⟨a0, Kx, Rest, q1, q2, q3, q4⟩ := PV.borrow hX k0 (by omega) hn
          have hS2 : St u1 w (Kx ++ (Rest ++ (K0 ++ []))) := hS'.perm (by
            classical
            exact List.perm_iff_count.2 fun a => by have := q2.count_eq a; simp only [List.count_append] at *; omega)
          refine ⟨⟨_, rfl⟩, q3 w (hS2.right.left).at_, ?_⟩
          refine go_ptrN knownPtr ⟨fun _ => ?_, (fun hq => by cases hq)⟩
          have hw0 := hW k v0 hn
          have hok := hinst k k0 (by omega)
          have ci := c_instruction (hd := ⟨s0, s, px, lx, p.result, p.regs, cx⟩) (R := []) hcx hxd hsd hsg hNl hlast hok hcl hrr hF hW hFl (by omega) (by omega) hS k0 (by omega) hn
          refine OpB.use ci (fun hm w' hs => ?_) (fun F2 I2 w' hm hF hS => ?_)
          · refine ⟨false, rfl, fun _ => ?_, fun h => by cases h⟩
            have : flowV ds (ps.map sigOf) p p.code.length (start0 p) = none := flowV_none (i := (k + 1).toNat) (hsn.trans hm) (by omega)
            exact ⟨[], ⟨hu1.trans hs, by simp, by simp, by simp [AtAll]⟩, ⟨none, 0, 0⟩, false, rfl, by unfold verifyV; rw [this]⟩
          · refine ⟨true, rfl, (fun h => by cases h), fun _ => ?_⟩
            obtain ⟨v', hm1, hm2⟩ := Option.bind_eq_some_iff.1 hm
            have hP : InP ds (ps.map sigOf) N p.code.length k (nth p.code k) := ⟨hsg, hok, hNl⟩
            have hw1 := passV_wf hP hrr hw0 (by omega) hm1
            obtain ⟨hW2, hl2⟩ := leaveV_wf hsg hok k0 (by omega) (fun e => by rw [e]; exact hlast) hw1 (hW.mono (by omega)) hFl (fun hop => passV_sw hop hm1) hm2
            refine go_wr (by omega) (by omega) ?_
            repeat refine go_rf ?_
            exact ⟨⟨F2, I2, hsn.trans hm, hF, hW2.mono (by omega), by omega, hS, by omega, by omega⟩, by omega⟩
      · simp only [bls] at hi
        rw [show k.toNat = p.code.length from by omega] at hb
        obtain ⟨bx2, K0, K1, hC, hX, rfl⟩ := hF
        have hS' : St u1 w (K0 ++ (K1 ++ [])) := by simpa [List.append_assoc] using hS
        exact ⟨bx2, hC.load hS' rfl, K1, by simpa using St.weakU (u' := u1) hS'.right hu1, bx2, true, rfl, by unfold verifyV; rw [hb]; exact ⟨rfl, hX⟩⟩
end
end Go.Vc
