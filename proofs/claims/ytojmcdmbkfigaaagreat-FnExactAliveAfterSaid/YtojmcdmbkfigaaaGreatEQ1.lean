/- Part of the proofs about the heaps and memories: a law is joined in the text whose name ends in W and the law. -/
import Derived.Test.YtojmcdmbkfigaaaGreatEBd
namespace Go.Vc
open Go Go.Proofs Go.RowKit
set_option linter.all false
/-- the program's balance in memory -/
def BalP (a : Addr) (x y xl xa : Sl) (σ : BalS) (I : Items) : Prop := ∃ (x4 x5 x6 : Sl) (I0 J4 J5 J6 : Items), Cel a [x.val, y.val, xl.val, xa.val, x4.val, x5.val, x6.val] I0 ∧ OwnI x4 σ.vars J4 ∧ OwnI x5 σ.own J5 ∧ OwnI x6 σ.tok J6 ∧ I = I0 ++ (J4 ++ (J5 ++ J6))
structure BRd (w : World) (a : Addr) (x y xl xa : Sl) (σ : BalS) : Prop where
  c0 : w.cell? (a.add 0) = some x.val
  c1 : w.cell? (a.add 1) = some y.val
  c2 : w.cell? (a.add 2) = some xl.val
  c3 : w.cell? (a.add 3) = some xa.val
  k4 : ∃ z : Sl, w.cell? (a.add 4) = some z.val ∧ Read w z σ.vars
  k5 : ∃ z : Sl, w.cell? (a.add 5) = some z.val ∧ Read w z σ.own
  k6 : ∃ z : Sl, w.cell? (a.add 6) = some z.val ∧ Read w z σ.tok
/-- what an operation leaves of it -/
def OpB (u : World) (R : Items) (a : Addr) (x y xl xa : Sl) : Option BalS → Value → World → Prop
  | none, r, w => r = .bool false ∧ Sub u w
  | some σ, r, w => r = .bool true ∧ ∃ I, BalP a x y xl xa σ I ∧ St u w (I ++ R)
/-- the fields that are no integers, as variables -/
def hfL (first : Int) (fields : List Int) : Nat → List Int
  | 0 => []
  | k + 1 => if nth fields (k : Int) ≠ 0 then hfL first fields k ++ [first + k] else hfL first fields k
section
variable {u w v0 : World} {a : Addr} {arms : List ArmK} {lent vars args l fields : List Int} {σ σ' : BalS} {I R L : Items} {r t o v m i c op num into first : Int} {x y xl xa z ax kx s f : Sl} {B n : Nat} {ds : List DeclD} {ss : List SigD} {q : Bool}
theorem BRd.mono {w2 : World} (h : BRd w a x y xl xa σ) (hs : Sub w w2) : BRd w2 a x y xl xa σ :=
  ⟨cell_sub hs h.c0, cell_sub hs h.c1, cell_sub hs h.c2, cell_sub hs h.c3, let ⟨z, h1, h2⟩ := h.k4; ⟨z, cell_sub hs h1, h2.mono hs⟩, let ⟨z, h1, h2⟩ := h.k5; ⟨z, cell_sub hs h1, h2.mono hs⟩, let ⟨z, h1, h2⟩ := h.k6; ⟨z, cell_sub hs h1, h2.mono hs⟩⟩
theorem BalP.rd (hL : BalP a x y xl xa σ I) (hS : St u w (I ++ R)) : BRd w a x y xl xa σ := by
  obtain ⟨x4, x5, x6, I0, J4, J5, J6, hC, o4, o5, o6, rfl⟩ := hL
  replace hS : St u w (I0 ++ (J4 ++ (J5 ++ (J6 ++ R)))) := by simpa [List.append_assoc] using hS
  exact ⟨hC.load hS rfl, hC.load hS rfl, hC.load hS rfl, hC.load hS rfl, ⟨x4, hC.load hS rfl, o4.read hS⟩, ⟨x5, hC.load hS rfl, o5.read hS⟩, ⟨x6, hC.load hS rfl, o6.read hS⟩⟩
theorem BalP.so5 (hL : BalP a x y xl xa σ I) (hS : St u w (I ++ R)) : ∃ z : Sl, w.cell? (a.add 5) = some z.val ∧ Read w z σ.own ∧ ∀ {r n : Int} {K : World → Prop}, 0 ≤ r → r < σ.own.length → InI n → (∀ w' I', BalP a x y xl xa ⟨σ.vars, σ.own.set r.toNat n, σ.tok⟩ I' → St u w' (I' ++ R) → K w') → StoreAt w (elA z r 1) 0 [.int .i64 n] K := by
  obtain ⟨x4, x5, x6, I0, J4, J5, J6, hC, o4, o5, o6, rfl⟩ := hL
  replace hS : St u w (I0 ++ (J4 ++ (J5 ++ (J6 ++ R)))) := by simpa [List.append_assoc] using hS
  refine ⟨x5, hC.load hS rfl, o5.read hS, fun {r n K} h0 h1 hn kk => ?_⟩
  refine st_int (o5 u) hS h0 h1 hn ?_
  intro w2 J hO hS
  exact kk w2 (I0 ++ (J4 ++ (J ++ J6))) ⟨x4, x5, x6, I0, J4, J, J6, hC, o4, hO.toI, o6, rfl⟩ (by simpa [List.append_assoc] using hS)
theorem BalP.so6 (hL : BalP a x y xl xa σ I) (hS : St u w (I ++ R)) : ∃ z : Sl, w.cell? (a.add 6) = some z.val ∧ Read w z σ.tok ∧ ∀ {r n : Int} {K : World → Prop}, 0 ≤ r → r < σ.tok.length → InI n → (∀ w' I', BalP a x y xl xa ⟨σ.vars, σ.own, σ.tok.set r.toNat n⟩ I' → St u w' (I' ++ R) → K w') → StoreAt w (elA z r 1) 0 [.int .i64 n] K := by
  obtain ⟨x4, x5, x6, I0, J4, J5, J6, hC, o4, o5, o6, rfl⟩ := hL
  replace hS : St u w (I0 ++ (J4 ++ (J5 ++ (J6 ++ R)))) := by simpa [List.append_assoc] using hS
  refine ⟨x6, hC.load hS rfl, o6.read hS, fun {r n K} h0 h1 hn kk => ?_⟩
  refine st_int (o6 u) hS h0 h1 hn ?_
  intro w2 J hO hS
  exact kk w2 (I0 ++ (J4 ++ (J5 ++ J))) ⟨x4, x5, x6, I0, J4, J5, J, hC, o4, o5, hO.toI, rfl⟩ (by simpa [List.append_assoc] using hS)
theorem c_bind (hL : BalP a x y xl xa σ I) (hS : St u w (I ++ R)) (hlen : σ.vars.length ≤ 1000000 ∧ σ.own.length ≤ 1000000 ∧ σ.tok.length ≤ 1000000) (ht : InI t) (ho : InI o) :
    Trip Tryz.prog 86 #[.pointer (some (a.add 0)), .int .i64 t, .int .i64 o] w fun r w' => r = .tuple #[] ∧ ∃ I', BalP a x y xl xa (growB σ t o) I' ∧ St u w' (I' ++ R) := by
  refine of86 _ _ _ _ _ ?_
  unfold vc86
  obtain ⟨x4, x5, x6, I0, J4, J5, J6, hC, o4, o5, o6, rfl⟩ := hL
  replace hS : St u w (I0 ++ (J4 ++ (J5 ++ (J6 ++ R)))) := by simpa [List.append_assoc] using hS
  have hmi : InI (-1) := ⟨by omega, by omega⟩
  refine ⟨x4, hC.load hS rfl, ?_⟩
  refine St.build (α := Int) (l := [t]) hS (.cons (.int ht) .nil) rfl (by decide) ?_
  intro y1 w1 K1 hO1 hS hs1
  refine ⟨_, rfl, ?_⟩
  refine (o4 u).append hS (hO1.src hS) (by simp; omega) (by decide) ?_
  intro z4 w2 J4 hz4 hS
  refine ⟨_, rfl, ?_⟩
  refine hC.store hS (by simp) ?_
  intro w3 I0 hC hS
  simp [putR] at hC
  replace hS : St u w3 (I0 ++ (J4 ++ (J5 ++ (J6 ++ R)))) := hS.to
  clear hO1
  refine ⟨x5, hC.load hS rfl, ?_⟩
  refine St.build (α := Int) (l := [o]) hS (.cons (.int ho) .nil) rfl (by decide) ?_
  intro y2 w1 K1 hO1 hS hs1
  refine ⟨_, rfl, ?_⟩
  refine (o5 u).append hS (hO1.src hS) (by simp; omega) (by decide) ?_
  intro z5 w2 J5 hz5 hS
  refine ⟨_, rfl, ?_⟩
  refine hC.store hS (by simp) ?_
  intro w3 I0 hC hS
  simp [putR] at hC
  replace hS : St u w3 (I0 ++ (J4 ++ (J5 ++ (J6 ++ R)))) := hS.to
  clear hO1
  refine ⟨x6, hC.load hS rfl, ?_⟩
  refine St.build (α := Int) (l := [(-1)]) hS (.cons (.int hmi) .nil) rfl (by decide) ?_
  intro y3 w1 K1 hO1 hS hs1
  refine ⟨_, rfl, ?_⟩
  refine (o6 u).append hS (hO1.src hS) (by simp; omega) (by decide) ?_
  intro z6 w2 J6 hz6 hS
  refine ⟨_, rfl, ?_⟩
  refine hC.store hS (by simp) ?_
  intro w3 I0 hC hS
  simp [putR] at hC
  replace hS : St u w3 (I0 ++ (J4 ++ (J5 ++ (J6 ++ R)))) := hS.to
  exact ⟨rfl, I0 ++ (J4 ++ (J5 ++ J6)), ⟨z4, z5, z6, I0, J4, J5, J6, hC, hz4.toI, hz5.toI, hz6.toI, rfl⟩, by simpa [List.append_assoc] using hS⟩
theorem c_balTake (hL : BalP a x y xl xa σ I) (hS : St u w (I ++ R)) (hw : WfB ds arms B σ) (h0 : 0 ≤ v) (h1 : v < σ.own.length) :
    Trip Tryz.prog 88 #[.pointer (some (a.add 0)), .int .i64 v] w (OpB u R a x y xl xa (takeB σ v)) := by
  refine of88 _ _ _ _ ?_
  unfold vc88
  obtain ⟨x5, e5, r5, st⟩ := hL.so5 hS
  have hi := (r5.int h0 h1).2
  have hb := nth_memD (B := (B : Int)) hw.ow (by omega) v
  refine ⟨x5, e5, ?_⟩
  refine go_ix r5 h0 h1 ?_
  refine ld_int r5 h0 h1 ?_
  intro q0 q1
  refine go_wr (by omega) (by omega) ?_
  refine go_ix r5 h0 h1 ?_
  refine st h0 h1 ⟨by omega, by omega⟩ ?_
  intro w2 I2 hL2 hS2
  obtain ⟨z5, d5, s5⟩ := (hL2.rd hS2).k5
  have hl2 : v < (σ.own.set v.toNat (nth σ.own v - 1)).length := by rw [List.length_set]; exact h1
  have hnv : nth (σ.own.set v.toNat (nth σ.own v - 1)) v = nth σ.own v - 1 := by rw [nth_set _ _ _ _ h0 h1 h0, if_pos rfl]
  refine ⟨z5, d5, ?_⟩
  refine go_ix s5 h0 hl2 ?_
  refine ld_int s5 h0 hl2 ?_
  intro _ _
  dsimp only
  rw [hnv]
  unfold takeB
  split
  · rw [decide_eq_false (by omega)]
    exact ⟨rfl, hS2.sub⟩
  · rw [decide_eq_true (by omega)]
    exact ⟨rfl, I2, hL2, hS2⟩
theorem find_at {α : Type} [Inhabited α] {p : α → Bool} {l : List α} {i : Int} (h0 : 0 ≤ i) (h1 : i < l.length) (hp : p (nth l i) = true) (hn : ∀ j : Int, 0 ≤ j → j < i → p (nth l j) = false) : l.find? p = some (nth l i) := by
  rw [List.find?_eq_some_iff_getElem]
  refine ⟨hp, i.toNat, by omega, ?_, fun j hj => ?_⟩
  · have := nth_get h0 h1
    rw [List.getElem?_eq_getElem (by omega)] at this
    exact Option.some.inj this
  · have := hn (j : Int) (by omega) (by omega)
    rw [nth_of (a := l[j]) (by rw [Int.toNat_natCast]; exact List.getElem?_eq_getElem (by omega))] at this
    rw [this]; rfl
theorem findA_none {α : Type} [Inhabited α] {p : α → Bool} {l : List α} (hn : ∀ j : Int, 0 ≤ j → j < l.length → p (nth l j) = false) : l.find? p = none := by
  rw [List.find?_eq_none]
  intro b hb
  obtain ⟨j, hj, rfl⟩ := List.getElem_of_mem hb
  have := hn (j : Int) (by omega) (by omega)
  rw [nth_of (a := l[j]) (by rw [Int.toNat_natCast]; exact List.getElem?_eq_getElem hj)] at this
  rw [this]; simp
theorem c_balAlive (hR : BRd w a x y xl xa σ) (hl : Read w xl lent) (ha : Read w xa arms) (hw : WfB ds arms B σ) (hvl : σ.vars.length ≤ 1000000) : ∀ (n : Nat) (v : Int), v.toNat < n → 0 ≤ v → v < σ.vars.length →
    Fn Tryz.prog 43 #[.pointer (some (a.add 0)), .int .i64 v] w (.bool (pB (AlB arms lent σ.own v))) := by
  intro n
  induction n with
  | zero =>
    intro v hv h0 h1
    omega
  | succ n ih =>
    intro v hv h0 h1
    refine of43 _ _ _ _ ?_
    unfold vc43
    have hl1 := hw.l1
    have han := ha.n
    have hal := ha.le
    obtain ⟨x5, e5, r5⟩ := hR.k5
    refine ⟨x5, e5, ?_⟩
    refine go_ix r5 h0 (by omega) ?_
    refine ld_int r5 h0 (by omega) ?_
    intro _ _
    refine ⟨xl, fun _ => hR.c2, _, fun _ => c_contains hl, fun hc => ?_, fun hc => ?_⟩
    · simp only [bls] at hc
      refine ⟨?_, .refl w⟩
      rw [pB_t]
      rcases hc with h | h
      · exact .own (by omega)
      · exact .lent h
    · simp only [bls] at hc
      refine ⟨xa, hR.c3, fun i w' => w' = w ∧ 0 ≤ i ∧ i ≤ arms.length ∧ ∀ j : Int, 0 ≤ j → j < i → inArm v (nth arms j) = false, fun i _ => (arms.length - i).toNat, ⟨rfl, by omega, by omega, fun j j0 j1 => by omega⟩, ?_⟩
      rintro i _ ⟨rfl, i0, i1, hj⟩
      dsimp only
      refine ⟨fun hd => ?_, fun hd => ?_⟩
      · simp only [bls] at hd
        have hil : i < arms.length := by omega
        obtain ⟨f, d0, d1, d2, d3, j1, j2, rf⟩ := (ha.src (.refl _)).ofArmK i0 hil
        have hfn := rf.n
        have hmem := nth_mem (l := arms) i0 hil
        obtain ⟨g1, g2, g3, g4, g5⟩ := hw.ar _ hmem
        refine go_ix ha i0 hil ?_
        refine ⟨_, _, f, false, ⟨d0, d1, d2, d3⟩, ?_⟩
        refine go_wrg (fun _ => by omega) ?_
        refine ⟨fun hq => ?_, fun hq => ?_⟩
        · simp only [bls] at hq
          have hin : inArm v (nth arms i) = true := by unfold inArm; simp; omega
          have haf : armFor arms v = some (nth arms i) := find_at i0 hil hin hj
          refine ⟨_, ih (nth arms i).matched (by omega) (by omega) (by omega), ?_, .refl _⟩
          congr 1
          refine pB_eq ?_
          rw [pB_iff]
          constructor
          · exact fun h => .up haf h
          · intro h
            rcases h.inv with h | h | ⟨a2, h, h2⟩
            · omega
            · exact absurd h hc.2
            · rw [haf] at h; cases h; exact h2
        · refine go_wr (by omega) (by omega) ?_
          refine ⟨⟨rfl, by omega, by omega, fun j j0 j1 => ?_⟩, by omega⟩
          by_cases e : j = i
          · subst e
            unfold inArm
            rw [Bool.and_eq_false_iff]
            simp at hq
            by_cases h : (nth arms j).first ≤ v
            · right; have := hq h; simp; omega
            · left; simp; omega
          · exact hj _ j0 (by omega)
      · simp only [bls] at hd
        refine ⟨?_, .refl _⟩
        rw [pB_f]
        intro h
        have haf : armFor arms v = none := findA_none fun j j0 j1 => hj j j0 (by omega)
        rcases h.inv with h | h | ⟨a2, h, h2⟩
        · omega
        · exact absurd h hc.2
        · rw [haf] at h; cases h
theorem c_cloneB (hL : BalP a x y xl xa σ I) (hS : St u w (I ++ R)) : Mk Tryz.prog 143 #[.pointer (some (a.add 0))] w fun r J => ∃ a' : Addr, r = .pointer (some (a'.add 0)) ∧ BalP a' x y xl xa σ J := by
  have hR := hL.rd hS
  refine of143 _ _ _ ?_
  unfold vc143
  obtain ⟨x4, e4, r4⟩ := hR.k4
  obtain ⟨x5, e5, r5⟩ := hR.k5
  obtain ⟨x6, e6, r6⟩ := hR.k6
  clear hS
  have hS := St.refl w
  refine ⟨x, y, xl, xa, x4, x5, x6, ⟨hR.c0, hR.c1, hR.c2, hR.c3, e4, e5, e6⟩, ?_⟩
  refine St.box (vals := [.slice none 0 0, .slice none 0 0, .slice none 0 0, .slice none 0 0, .slice none 0 0, .slice none 0 0, .slice none 0 0]) hS fun a' w1 I0 hC hS hs1 => ?_
  refine hC.store hS (by simp) ?_
  intro w2 I0 hC hS
  simp [putR] at hC
  refine ⟨x4, cell_sub hS.sub e4, x5, cell_sub hS.sub e5, x6, cell_sub hS.sub e6, ?_⟩
  refine Mk.use (c_cloneInts r4) hS ?_
  rintro _ w3 J4 ⟨y4, rfl, o4⟩ hS hs
  refine ⟨_, rfl, hs, ?_⟩
  refine Mk.use (c_cloneInts r5) hS ?_
  rintro _ w4 J5 ⟨y5, rfl, o5⟩ hS hs
  refine ⟨_, rfl, hs, ?_⟩
  refine Mk.use (c_cloneInts r6) hS ?_
  rintro _ w5 J6 ⟨y6, rfl, o6⟩ hS hs
  refine ⟨_, rfl, ?_⟩
  replace hS : St w w5 (I0 ++ (J4 ++ (J5 ++ (J6 ++ [])))) := hS.to
  refine hC.store hS (by simp) ?_
  intro w6 I0 hC hS
  simp [putR] at hC
  refine hC.store hS (by simp) ?_
  intro w7 I0 hC hS
  simp [putR] at hC
  refine hC.store hS (by simp) ?_
  intro w8 I0 hC hS
  simp [putR] at hC
  exact ⟨I0 ++ (J4 ++ (J5 ++ J6)), by simpa [List.append_assoc] using hS, a', rfl, y4, y5, y6, I0, J4, J5, J6, hC, o4.toI, o5.toI, o6.toI, rfl⟩
theorem c_cloneArms (hx : Read w xa arms) : Mk Tryz.prog 154 #[xa.val] w fun r J => ∃ z, r = z.val ∧ Own w z arms J := by
  refine of154 _ _ _ ?_
  unfold vc154
  have hS := St.refl w
  have hl := hx.le
  refine go_nil ⟨fun hc => ?_, fun _ => ?_⟩
  · have := hx.nil_of (Option.isNone_iff_eq_none.1 hc)
    subst this
    exact ⟨[], hS, _, rfl, Own.nil w⟩
  refine St.build (α := ArmK) (l := []) hS (by (repeat' (first | exact VsOf.nil | apply VsOf.cons | (apply VOf.int; first | assumption | (constructor <;> first | omega | (simp only [List.length_set, List.length_append, List.length_replicate, List.length_cons, List.length_nil, List.length_take, List.length_drop, List.length_map, List.length_singleton] at *; omega))) | exact VOf.bool | exact VOf.str))) rfl (by decide) ?_
  intro x1 w1 I1 hO hS hs
  refine ⟨_, rfl, ?_⟩
  refine Own.append hO hS (hx.src hS.sub) (by simp; omega) (by decide) ?_
  intro x2 w2 I2 hO hS
  exact ⟨_, rfl, I2, by simpa using hS, _, rfl, by simpa using hO⟩
theorem c_armsWith (hx : Read w xa arms) (hl : arms.length ≤ 1000000) (hf : Read w f fields) (hm : InI m) (hi : InI first) : Mk Tryz.prog 144 #[xa.val, .agg #[.int .i64 m, .int .i64 first, f.val, .bool false]] w fun r J => ∃ z, r = z.val ∧ Own w z (arms ++ [⟨m, first, c, fields⟩]) J := by
  refine of144 _ _ _ _ _ _ _ ?_
  unfold vc144
  have hv : VsOf w [(.agg #[.int .i64 m, .int .i64 first, f.val, .bool false])] [(⟨m, first, c, fields⟩ : ArmK)] := .cons ⟨rfl, f, rfl, hm, hi, hf⟩ .nil
  refine ⟨?_, ?_⟩
  · refine Mk.use (c_cloneArms hx) (St.refl w) ?_
    rintro _ w1 J1 ⟨z1, rfl, hO1⟩ hS hs
    refine ⟨z1, rfl, hs, ?_⟩
    refine St.build (α := ArmK) (l := [⟨m, first, c, fields⟩]) hS hv rfl (by decide) ?_
    intro z2 w2 J2 hO2 hS2 hs2
    refine ⟨_, rfl, ?_⟩
    refine hO1.append hS2 (hO2.src hS2) (by simp; omega) (by decide) ?_
    intro z3 w3 J3 hO3 hS3
    exact ⟨_, rfl, J3, (by have : St w w3 (J3 ++ []) := hS3.to; simpa using this), _, rfl, hO3⟩
  · refine St.build (α := ArmK) (l := [⟨m, first, c, fields⟩]) (St.refl w) hv rfl (by decide) ?_
    intro z2 w2 J2 hO2 hS2 hs2
    refine ⟨_, rfl, ?_⟩
    refine Mk.use (c_cloneArms hx) hS2 ?_
    rintro _ w1 J1 ⟨z1, rfl, hO1⟩ hS hs
    refine ⟨z1, rfl, hs, ?_⟩
    refine hO1.append hS (hO2.src hS) (by simp; omega) (by decide) ?_
    intro z3 w3 J3 hO3 hS3
    exact ⟨_, rfl, J3, (by have : St w w3 (J3 ++ []) := hS3.to; simpa using this), _, rfl, hO3⟩
end
end Go.Vc

namespace Go.Vc
open Go Go.Proofs Go.RowKit
set_option linter.all false
/-- variables given up, by places of arguments -/
def takeF (args : List Int) : List Int → BalS → Option BalS
  | [], σ => some σ
  | i :: r, σ => (takeB σ (nth args i)).bind (takeF args r)
def incF (l : List Int) (σ : BalS) : BalS := l.foldl incB σ
section
variable {u w v0 : World} {a : Addr} {arms : List ArmK} {lent vars args l l2 fields : List Int} {σ σ' σ1 : BalS} {I R L : Items} {r t o v m i c op num into first : Int} {x y xl xa z ax kx s f : Sl} {B n : Nat} {ds : List DeclD} {ss : List SigD} {q : Bool}
theorem hfL_len (first : Int) (fields : List Int) : ∀ k : Nat, (hfL first fields k).length ≤ k
  | 0 => Nat.le_refl _
  | k + 1 => by
    have := hfL_len first fields k
    rw [hfL]; split
    · rw [List.length_append, List.length_singleton]; omega
    · omega
theorem hfL_mem (first : Int) (fields : List Int) : ∀ k : Nat, ∀ q ∈ hfL first fields k, first ≤ q ∧ q < first + k
  | 0 => fun q hq => by rw [hfL] at hq; cases hq
  | k + 1 => fun q hq => by
    rw [hfL] at hq
    split at hq
    · rcases List.mem_append.1 hq with hq | hq
      · have := hfL_mem first fields k q hq; omega
      · rw [List.mem_singleton.1 hq]; omega
    · have := hfL_mem first fields k q hq; omega
theorem incsF (first : Int) (fields : List Int) : ∀ k : Nat, incF (hfL first fields k) σ = incsB σ first fields k
  | 0 => rfl
  | k + 1 => by
    rw [hfL, incsB]
    split
    · unfold incF
      rw [List.foldl_append, show (hfL first fields k).foldl incB σ = incsB σ first fields k from incsF first fields k]
      rfl
    · exact incsF first fields k
theorem incF_wf (h : WfB ds arms B σ) : ∀ l : List Int, WfB ds arms (B + l.length) (incF l σ) ∧ (incF l σ).vars = σ.vars ∧ (incF l σ).tok = σ.tok ∧ (incF l σ).own.length = σ.own.length := by
  intro l
  induction l generalizing σ B with
  | nil => exact ⟨h, rfl, rfl, rfl⟩
  | cons q r ih =>
    obtain ⟨h1, h2, h3, h4⟩ := ih (h.inc (v := q))
    refine ⟨h1.mono (by rw [List.length_cons]; omega), h2, h3, ?_⟩
    show (incF r (incB σ q)).own.length = _
    rw [h4]
    unfold incB
    simp
theorem incF_take (h0 : 0 ≤ i) (h1 : i < l.length) : incF (l.take (i + 1).toNat) σ = incB (incF (l.take i.toNat) σ) (nth l i) := by
  unfold incF
  rw [take_nth h0 h1, List.foldl_append]
  rfl
theorem c_heapFields (hf : Read w f fields) (h0 : 0 ≤ first) (h1 : first ≤ 1000000) (hl : fields.length ≤ 1000) : Mk Tryz.prog 142 #[.agg #[.int .i64 m, .int .i64 first, f.val, .bool q]] w fun r J => ∃ z, r = z.val ∧ OwnI z (hfL first fields fields.length) J := by
  refine of142 _ _ _ _ _ _ ?_
  unfold vc142
  have hn := hf.n
  refine ⟨fun z i w' => ∃ J, OwnI z (hfL first fields i.toNat) J ∧ St w w' (J ++ []) ∧ 0 ≤ i ∧ i ≤ fields.length, fun _ i _ => (fields.length - i).toNat, ⟨[], fun u => Own.nil u, St.refl w, by omega, by omega⟩, ?_⟩
  rintro z i w' ⟨J, hO, hS, i0, i1⟩
  dsimp only
  have hsucc : hfL first fields (i + 1).toNat = if nth fields i ≠ 0 then hfL first fields i.toNat ++ [first + i] else hfL first fields i.toNat := by
    rw [show (i + 1).toNat = i.toNat + 1 from by omega, hfL, show ((i.toNat : Nat) : Int) = i from by omega]
  have hlen := hfL_len first fields i.toNat
  refine ⟨fun hc => ?_, fun hc => ?_⟩
  · simp only [bls] at hc
    have hil : i < fields.length := by omega
    refine go_ix hf i0 hil ?_
    refine ld_int (hf.mono hS.sub) i0 hil ?_
    intro _ _
    refine ⟨fun hq => ?_, fun hq => ?_⟩
    · simp only [bls] at hq
      refine go_wr (by omega) (by omega) ?_
      refine St.build (α := Int) (l := [first + i]) hS (.cons (.int ⟨by omega, by omega⟩) .nil) rfl (by decide) ?_
      intro y2 w4 K hO4 hS4 hs4
      refine ⟨_, rfl, ?_⟩
      refine (hO w).append hS4 (hO4.src hS4) (by simp; omega) (by decide) ?_
      intro z3 w5 J3 hO3 hS5
      refine ⟨_, rfl, ?_⟩
      refine go_wr (by omega) (by omega) ?_
      refine ⟨rfl, rfl, rfl, rfl, ⟨J3, ?_, hS5.to, by omega, by omega⟩, by omega⟩
      rw [hsucc, if_pos hq]
      exact hO3.toI
    · simp only [bls] at hq
      refine go_wr (by omega) (by omega) ?_
      refine ⟨rfl, rfl, rfl, rfl, ⟨J, ?_, hS, by omega, by omega⟩, by omega⟩
      rw [hsucc, if_neg (by omega)]
      exact hO
  · simp only [bls] at hc
    rw [show i.toNat = fields.length from by omega] at hO
    exact ⟨J, (by simpa using hS), z, rfl, hO⟩
open Classical in
theorem c_count (hL : BalP a x y xl xa σ I) (hS : St u w (I ++ R)) (hl : Read u xl lent) (ha : Read u xa arms) (hd : typesOk ds) (hw : WfB ds arms B σ) (hvl : σ.vars.length ≤ 100000) (hB : B ≤ 100000) (ho : isCnt op) (h0 : 0 ≤ v) (h1 : v < σ.vars.length) :
    Trip Tryz.prog 118 #[.pointer (some (a.add 0)), .int .i64 op, .int .i64 v] w (OpB u R a x y xl xa (if op = 14 then (if AlB arms lent σ.own v then some (incB σ v) else none) else if op = 15 then takeB σ v else openB arms σ op v)) := by
  refine of118 _ _ _ _ _ ?_
  unfold vc118
  have hR := hL.rd hS
  have hl1 := hw.l1
  have hl2 := hw.l2
  refine ⟨fun hc => ?_, fun hc => ⟨fun hc2 => ?_, fun hc2 => ?_⟩⟩
  · simp only [bls] at hc
    rw [if_pos hc]
    refine ⟨_, c_balAlive hR (hl.mono hS.sub) (ha.mono hS.sub) hw (by omega) _ v (Nat.lt_succ_self _) h0 h1, fun hq => ?_, fun hq => ?_⟩
    · simp only [bls, pB_iff] at hq
      have hn : ¬ AlB arms lent σ.own v := fun hh => by rw [pB_t hh] at hq; simp at hq
      rw [if_neg hn]
      exact ⟨rfl, hS.sub⟩
    · simp only [bls, pB_iff] at hq
      rw [if_pos hq]
      obtain ⟨x5, e5, r5, st⟩ := hL.so5 hS
      have hbd := nth_memD (B := (B : Int)) hw.ow (by omega) v
      refine ⟨x5, e5, ?_⟩
      refine go_ix r5 h0 (by omega) ?_
      refine ld_int r5 h0 (by omega) ?_
      intro _ _
      refine go_wr (by omega) (by omega) ?_
      refine go_ix r5 h0 (by omega) ?_
      refine st h0 (by omega) ⟨by omega, by omega⟩ ?_
      intro w2 I2 hL2 hS2
      exact ⟨rfl, I2, hL2, hS2⟩
  · simp only [bls] at hc hc2
    rw [if_neg hc, if_pos hc2]
    refine (c_balTake hL hS hw h0 (by omega)).mono' ?_
    intro r2 w2 hT
    cases htk : takeB σ v with
    | none => rw [htk] at hT; obtain ⟨rfl, hs⟩ := hT; exact ⟨false, rfl, rfl, hs⟩
    | some σ2 => rw [htk] at hT; obtain ⟨rfl, hT⟩ := hT; exact ⟨true, rfl, rfl, hT⟩
  · simp only [bls] at hc hc2
    rw [if_neg hc, if_neg hc2]
    refine ⟨xa, hR.c3, ?_⟩
    refine Trip.fr (c_armsOf (n := v) ha) hS ?_
    rintro r2 u2 w2 ⟨hs2, hM⟩ hS2 hss
    replace hS2 := hS2.weakU hs2
    unfold openB
    cases hao : armOf arms v with
    | none =>
      rw [hao] at hM
      dsimp only at hM
      subst hM
      exact ⟨0, 0, Sl.mk none 0 0, false, false, rfl, fun hh => (by simp at hh), fun _ => ⟨rfl, hS2.sub⟩⟩
    | some am =>
      rw [hao] at hM
      obtain ⟨f, rfl, rf⟩ := hM
      obtain ⟨ham, _⟩ := armOf_mem hao
      obtain ⟨g1, g2, g3, g4, g5⟩ := hw.ar am ham
      have hc3 := conF_len3 hd am.con
      rw [← g5] at hc3
      have rfn := rf.n
      refine ⟨_, _, f, false, true, rfl, fun _ => ?_, fun hh => (by simp at hh)⟩
      refine (c_balTake hL hS2 hw h0 (by omega)).mono' ?_
      intro r3 w3 hT
      dsimp only
      have htok : ∀ {C : Prop}, (decide (op = 17) = true → C) ↔ (op = 17 → C) := fun {C} => by rw [decide_eq_true_iff]
      cases htk : takeB σ v with
      | none =>
        rw [htk] at hT
        obtain ⟨rfl, hs3⟩ := hT
        refine ⟨false, rfl, Sl.mk none 0 0, fun _ hh => (by simp at hh), fun _ hh => (by simp at hh), 0, fun _ hh => (by simp at hh), fun _ => ?_, fun hh => (by simp at hh)⟩
        have : (if op = 17 ∧ 0 ≤ nth σ.tok v then (none : Option BalS) else Option.map (fun σ' => if op = 17 then tokB (incsB σ' am.first am.fields am.fields.length) v am.fields.length else incsB σ' am.first am.fields am.fields.length) none) = none := by split <;> rfl
        rw [this]
        exact ⟨rfl, hs3⟩
      | some σ2 =>
        rw [htk] at hT
        obtain ⟨rfl, I3, hL3, hS3⟩ := hT
        obtain ⟨hw2, ev2, et2⟩ := hw.take htk
        obtain ⟨x6, e6, r6⟩ := (hL3.rd hS3).k6
        have hl22 := hw2.l2
        have hl21 := hw2.l1
        rw [ev2] at hl22 hl21
        have h6 := r6.int h0 (by omega)
        refine ⟨true, rfl, x6, fun _ _ => e6, fun _ _ => r6.ix h0 (by omega), nth σ2.tok v, fun _ _ => h6.1, fun hq => ?_, fun hq => ?_⟩
        · have hq' : op = 17 ∧ 0 ≤ nth σ.tok v := by rw [← et2]; simpa using hq
          rw [if_pos hq']
          exact ⟨rfl, hS3.sub⟩
        · have hq' : ¬ (op = 17 ∧ 0 ≤ nth σ.tok v) := by
            rw [← et2]
            rintro ⟨h1, h2⟩
            simp [h1] at hq
            omega
          rw [if_neg hq']
          refine Mk.use (c_heapFields (m := am.matched) (q := false) rf (by omega) (by omega) (by omega)) hS3 ?_
          rintro _ w4 J4 ⟨z4, rfl, hO4⟩ hS4 hs4
          refine ⟨z4, rfl, ?_⟩
          have hlen := hfL_len am.first am.fields am.fields.length
          have hmm := hfL_mem am.first am.fields am.fields.length
          rw [Option.map_some, ← incsF]
          generalize hfL am.first am.fields am.fields.length = hf at hO4 hlen hmm ⊢
          refine ⟨fun i w' => ∃ I', BalP a x y xl xa (incF (hf.take i.toNat) σ2) I' ∧ St u w' (J4 ++ (I' ++ R)) ∧ 0 ≤ i ∧ i ≤ hf.length, fun i _ => (hf.length - i).toNat, ⟨I3, hL3, hS4, by omega, by omega⟩, ?_⟩
          clear hL3 hS3 hS4
          rintro i w5 ⟨I5, hL5, hS5, i0, i1⟩
          dsimp only
          have r4 := (hO4 u).read hS5
          have r4n := r4.n
          obtain ⟨hw5, ev5, et5, eo5⟩ := incF_wf hw2 (hf.take i.toNat)
          have hS5' : St u w5 (I5 ++ (J4 ++ R)) := hS5.to
          refine ⟨fun hd => ?_, fun hd => ?_⟩
          · simp only [bls] at hd
            have hil : i < hf.length := by omega
            have hm := hmm _ (nth_mem (l := hf) i0 hil)
            obtain ⟨x5, e5, r5, st⟩ := hL5.so5 hS5'
            have hb5 := nth_memD (B := ((B + (hf.take i.toNat).length : Nat) : Int)) hw5.ow (by omega) (nth hf i)
            have hlt : (hf.take i.toNat).length ≤ 3 := by rw [List.length_take]; omega
            refine go_ix r4 i0 hil ?_
            refine ld_int r4 i0 hil ?_
            intro _ _
            refine ⟨x5, e5, ?_⟩
            refine go_ix r5 (by omega) (by rw [eo5]; omega) ?_
            refine ld_int r5 (by omega) (by rw [eo5]; omega) ?_
            intro _ _
            refine go_wr (by omega) (by omega) ?_
            refine go_ix r5 (by omega) (by rw [eo5]; omega) ?_
            refine st (by omega) (by rw [eo5]; omega) ⟨by omega, by omega⟩ ?_
            intro w6 I6 hL6 hS6
            refine go_wr (by omega) (by omega) ?_
            refine ⟨rfl, rfl, rfl, rfl, ⟨I6, ?_, hS6.to, by omega, by omega⟩, by omega⟩
            rw [incF_take i0 hil]
            exact hL6
          · simp only [bls] at hd
            rw [show i.toNat = hf.length from by omega, List.take_length] at hL5 et5 ev5 eo5
            refine ⟨fun ho7 => ?_, fun ho7 => ?_⟩
            · simp only [bls] at ho7
              rw [if_pos ho7]
              obtain ⟨x6, e6, r6, st⟩ := hL5.so6 hS5'
              refine ⟨x6, e6, ?_⟩
              refine go_ix r6 h0 (by rw [et5]; omega) ?_
              rw [rfn]
              refine st h0 (by rw [et5]; omega) ⟨by omega, by omega⟩ ?_
              intro w6 I6 hL6 hS6
              exact ⟨rfl, I6, hL6, hS6.to⟩
            · simp only [bls] at ho7
              rw [if_neg ho7]
              exact ⟨rfl, I5, hL5, hS5.to⟩
end
end Go.Vc

namespace Go.Vc
open Go Go.Proofs Go.RowKit
set_option linter.all false
section
variable {u w v0 : World} {a : Addr} {arms : List ArmK} {lent vars args l l2 fields : List Int} {σ σ' σ1 : BalS} {I R L : Items} {r t o v i c op num into first : Int} {x y xl xa z ax kx s f xs : Sl} {B n m : Nat} {ds : List DeclD} {ss : List SigD} {q : Bool} {b : BlockD}
theorem takeF_app : ∀ (l l2 : List Int) (σ : BalS), takeF args (l ++ l2) σ = (takeF args l σ).bind (takeF args l2)
  | [], l2, σ => rfl
  | i :: r, l2, σ => by
    rw [List.cons_append, takeF, takeF]
    cases takeB σ (nth args i) with
    | none => rfl
    | some σ1 => exact takeF_app r l2 σ1
theorem takeF_wf : ∀ (l : List Int) (σ σ' : BalS), WfB ds arms B σ → takeF args l σ = some σ' → WfB ds arms B σ' ∧ σ'.vars = σ.vars ∧ σ'.tok = σ.tok
  | [], σ, σ', hw, h => by rw [takeF] at h; cases h; exact ⟨hw, rfl, rfl⟩
  | i :: r, σ, σ', hw, h => by
    rw [takeF] at h
    cases ht : takeB σ (nth args i) with
    | none => rw [ht] at h; cases h
    | some σ1 =>
      rw [ht] at h
      obtain ⟨w1, e1, e2⟩ := hw.take ht
      obtain ⟨w2, e3, e4⟩ := takeF_wf r σ1 σ' w1 h
      exact ⟨w2, by rw [e3, e1], by rw [e4, e2]⟩
theorem takes_F (hw : WfB ds arms B σ) : ∀ n : Nat, takeF args (tkL ss σ.vars op num args n) σ = takesB ss op num args n σ
  | 0 => by rw [takesB]; rfl
  | n + 1 => by
    have e := tkL_succ (ss := ss) (vars := σ.vars) (op := op) (num := num) (args := args) (i := (n : Int)) (by omega)
    rw [show ((n : Int) + 1).toNat = n + 1 from by omega, Int.toNat_natCast] at e
    rw [e, takeF_app, takes_F hw n, takesB]
    cases ht : takesB ss op num args n σ with
    | none => rfl
    | some σ1 =>
      obtain ⟨w1, ev⟩ := hw.takes _ _ ht
      simp only [Option.bind_some]
      rw [ev]
      by_cases hc : consAt ss σ.vars op num args (n : Int)
      · rw [if_pos (pB_t hc), if_pos hc, takeF]
        cases takeB σ1 (nth args (n : Int)) <;> rfl
      · rw [if_neg (by rw [pB_f hc]; simp), if_neg hc]
        rfl
theorem tkL_mem (h : q = true) {k : Nat} {j : Int} (hj : j ∈ tkL ss vars op num args k) : 0 ≤ j ∧ j < k := by
  unfold tkL at hj
  obtain ⟨p, hp, rfl⟩ := List.mem_map.1 hj
  have := List.mem_range.1 (List.mem_filter.1 hp).1
  omega
theorem c_consumeB (hg : Sg u x y ds ss) (hL : BalP a x y xl xa σ I) (hS : St u w (I ++ R)) (hl : Read u xl lent) (ha : Read u xa arms) (hw : WfB ds arms B σ) (hvl : σ.vars.length ≤ 100000) (hB : B ≤ 100000) (hax : Read u ax args)
    (hin : argsIn σ.vars args) (hto : intoIn σ.vars op into) (hnum : op = 9 → 0 ≤ num ∧ num < ss.length) (hal : args.length ≤ 1000) (hi : InI into) (hlt : ∀ i : Int, 0 ≤ i → i < args.length → lentAtB ss op num i → nth σ.vars (nth args i) ≠ 0) :
    Trip Tryz.prog 121 #[.pointer (some (a.add 0)), .agg #[.int .i64 op, .int .i64 num, .int .i64 into, ax.val, kx.val]] w (OpB u R a x y xl xa (handB ss lent arms op num into args σ)) := by
  classical
  refine of121 _ _ _ _ _ _ _ _ ?_
  unfold vc121
  have hR := hL.rd hS
  obtain ⟨hi1, hi2⟩ := hi
  have hxn := hax.n
  obtain ⟨x4, e4, r4⟩ := hR.k4
  refine ⟨x, y, ⟨hR.c0, hR.c1⟩, x4, e4, ?_⟩
  refine (c_splitV (hg.mono hS.sub) r4 (hax.mono hS.sub) hin hnum hal (by omega)).mono' ?_
  rintro _ w1 ⟨z1, z2, l2, J1, J2, rfl, hO1, hO2, hS1, hln, hl2⟩
  have hS2 := hS.join hS1
  replace hS2 : St u w1 (J1 ++ (J2 ++ (I ++ R))) := by simpa [List.append_assoc] using hS2
  refine ⟨z1, z2, rfl, ?_⟩
  have hF := takes_F (ss := ss) (op := op) (num := num) (args := args) hw args.length
  have htm : ∀ j ∈ tkL ss σ.vars op num args args.length, 0 ≤ j ∧ j < args.length := fun j hj => tkL_mem rfl hj
  have htl := tkL_len (ss := ss) (vars := σ.vars) (op := op) (num := num) (args := args) args.length
  unfold handB
  rw [← hF]
  generalize tkL ss σ.vars op num args args.length = tk at hO1 htm htl ⊢
  clear hF hS hS1 hR r4 e4
  refine ⟨fun i w => ∃ σ' I', takeF args (tk.take i.toNat) σ = some σ' ∧ BalP a x y xl xa σ' I' ∧ St u w (J1 ++ (J2 ++ (I' ++ R))) ∧ 0 ≤ i ∧ i ≤ tk.length, fun i _ => (tk.length - i).toNat, ⟨σ, I, rfl, hL, hS2, by omega, by omega⟩, ?_⟩
  clear hL hS2
  rintro i w ⟨σ2, I2, ht, hL, hS, i0, i1⟩
  dsimp only
  obtain ⟨hw2, ev, et⟩ := takeF_wf _ _ _ hw ht
  have hS' : St u w (I2 ++ (J1 ++ (J2 ++ R))) := hS.to
  have h1 := (hO1 u).read hS
  have h1n := h1.n
  have hl21 := hw2.l1
  rw [ev] at hl21
  refine ⟨fun hc => ?_, fun hc => ?_⟩
  · simp only [bls] at hc
    have hil : i < tk.length := by omega
    have hm := htm _ (nth_mem (l := tk) i0 hil)
    have hai := argsIn_nth hin hm.1 hm.2
    refine go_ix h1 i0 hil ?_
    refine ld_int h1 i0 hil ?_
    intro _ _
    refine go_ix hax hm.1 hm.2 ?_
    refine ld_int (hax.mono hS.sub) hm.1 hm.2 ?_
    intro _ _
    refine (c_balTake hL hS' hw2 hai.1 (by omega)).mono' ?_
    intro r3 w3 hT
    have hsucc : takeF args (tk.take (i + 1).toNat) σ = takeB σ2 (nth args (nth tk i)) := by
      rw [take_nth i0 hil, takeF_app, ht, Option.bind_some, takeF]
      cases takeB σ2 (nth args (nth tk i)) <;> rfl
    cases htk : takeB σ2 (nth args (nth tk i)) with
    | none =>
      rw [htk] at hT hsucc
      obtain ⟨rfl, hs⟩ := hT
      refine ⟨false, rfl, fun _ => ?_, fun hh => (by simp at hh)⟩
      have : takeF args tk σ = none := by
        rw [← List.take_append_drop (i + 1).toNat tk, takeF_app, hsucc]
        rfl
      rw [this]
      exact ⟨rfl, hs⟩
    | some σ3 =>
      rw [htk] at hT hsucc
      obtain ⟨rfl, I3, hL3, hS3⟩ := hT
      refine ⟨true, rfl, fun hh => (by simp at hh), fun _ => ?_⟩
      refine go_wr (by omega) (by omega) ?_
      exact ⟨rfl, rfl, rfl, rfl, rfl, ⟨σ3, I3, hsucc, hL3, hS3.to, by omega, by omega⟩, by omega⟩
  · simp only [bls] at hc
    rw [show i.toNat = tk.length from by omega, List.take_length] at ht
    rw [ht, Option.bind_some]
    have h2 := (hO2 u).read hS
    have h2n := h2.n
    have hR2 := hL.rd hS'
    have hsub := hS.sub
    refine ⟨fun j w' => w' = w ∧ 0 ≤ j ∧ j ≤ l2.length ∧ ∀ k : Int, 0 ≤ k → k < j → AlB arms lent σ2.own (nth l2 k), fun j _ => (l2.length - j).toNat, ⟨rfl, by omega, by omega, fun k k0 k1 => by omega⟩, ?_⟩
    rintro j _ ⟨rfl, j0, j1, hj⟩
    dsimp only
    refine ⟨fun hd => ?_, fun hd => ?_⟩
    · simp only [bls] at hd
      have hjl : j < l2.length := by omega
      obtain ⟨i', k0, k1, k2, k3, k4⟩ := (hln _).1 (nth_mem (l := l2) j0 hjl)
      have hai := argsIn_nth hin k0 k1
      refine go_ix h2 j0 hjl ?_
      refine ld_int h2 j0 hjl ?_
      intro _ _
      refine ⟨_, c_balAlive hR2 (hl.mono hsub) (ha.mono hsub) hw2 (by rw [ev]; omega) _ _ (Nat.lt_succ_self _) (by omega) (by rw [ev]; omega), fun hq => ?_, fun hq => ?_⟩
      · have hn : ¬ AlB arms lent σ2.own (nth l2 j) := fun hh => by rw [pB_t hh] at hq; simp at hq
        rw [if_neg]
        · exact ⟨rfl, hsub⟩
        · intro hok
          rw [k4] at hn
          exact hn (hok i' k0 k1 k3)
      · simp only [bls, pB_iff] at hq
        refine go_wr (by omega) (by omega) ?_
        refine ⟨rfl, rfl, rfl, rfl, rfl, ⟨rfl, by omega, by omega, fun k k0 k1 => ?_⟩, by omega⟩
        by_cases e : k = j
        · subst e; exact hq
        · exact hj k k0 (by omega)
    · simp only [bls] at hd
      have hok : lentsOk ss lent arms op num args σ2 := by
        intro i' k0 k1 k3
        have hm : nth args i' ∈ l2 := (hln _).2 ⟨i', k0, k1, hlt i' k0 k1 k3, k3, rfl⟩
        obtain ⟨p, hp, e⟩ := List.getElem_of_mem hm
        have := hj (p : Int) (by omega) (by omega)
        rw [nth_of (a := l2[p]) (by rw [Int.toNat_natCast]; exact List.getElem?_eq_getElem hp), e] at this
        exact this
      rw [if_pos hok]
      unfold intoB
      refine ⟨fun hq => ?_, fun hq => ?_⟩
      · simp only [bls] at hq
        rw [if_neg hq]
        obtain ⟨hk6, hk1, hk2, hk3⟩ := hto.resolve_left hq
        have hl22 := hw2.l2
        rw [ev] at hl22
        obtain ⟨x6, e6, r6, st⟩ := hL.so6 hS'
        refine ⟨x6, e6, ?_⟩
        refine go_wr (by omega) (by omega) ?_
        refine go_ix r6 (by omega) (by omega) ?_
        refine ld_int r6 (by omega) (by omega) ?_
        intro _ _
        refine ⟨fun hq2 => ?_, fun hq2 => ?_⟩
        · simp only [bls] at hq2
          rw [if_pos (by omega)]
          exact ⟨rfl, hsub⟩
        · simp only [bls] at hq2
          rw [if_neg (by omega)]
          refine ⟨x6, e6, ?_⟩
          refine go_wr (by omega) (by omega) ?_
          refine go_ix r6 (by omega) (by omega) ?_
          refine st (by omega) (by omega) ⟨by omega, by omega⟩ ?_
          intro w3 I3 hL3 hS3
          exact ⟨rfl, I3, hL3, hS3.to⟩
      · simp only [bls] at hq
        rw [if_pos hq]
        exact ⟨rfl, I2, hL, hS'.to⟩
end
end Go.Vc
