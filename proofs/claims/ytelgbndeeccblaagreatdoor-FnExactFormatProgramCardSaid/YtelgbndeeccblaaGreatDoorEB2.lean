/- Part of the proofs about the heaps and memories: a law is joined in the text whose name ends in W and the law. -/
import Derived.Test.YtelgbndeeccblaaGreatDoorEB1
import Derived.Test.YtelgbndeeccblaaGreatDoorEE5
namespace Go.Vc
open Go Go.Proofs Go.RowKit
set_option linter.all false
section
variable {u v w : World} {x y z ax kx tx xs : Sl} {vars args T W : List Int} {ds : List DeclD} {rs : List RoutD} {ss : List SigD} {n i t op num into : Int} {c : StepD} {b : BlockD} {kids : List BlockD} {fs : List (List Int)}
theorem wantB_other (ho : ¬ (0 ≤ op ∧ op ≤ 6) ∧ ¬ (9 ≤ op ∧ op ≤ 11)) : wantB ds ss op num t = none := by
  (unfold wantB; repeat (first | rw [if_neg (by omega)] | rw [if_pos (by omega)]))
theorem gD_eq {o : Option Int} (h : 0 ≤ gD o) : o = some (gD o) := by
  cases o with
  | none => unfold gD at h; simp at h
  | some t => rfl
theorem c_extend (hx : Read v z vars) (hy : Read v ax args) (hb : vars.length + args.length ≤ 1099511627776) : Mk Tryz.prog 136 #[z.val, ax.val] v fun r J => ∃ y, r = y.val ∧ Own v y (vars ++ args) J := by
  refine of136 _ _ _ _ ?_
  unfold vc136
  refine Mk.use (c_copyInts hx) (.refl v) ?_
  rintro _ w1 J ⟨y, rfl, hO⟩ hS hs
  refine ⟨_, rfl, ?_⟩
  refine hO.append hS (.ofInts (hy.mono hs)) hb (by decide) ?_
  intro y2 w2 I2 hO2 hS2
  exact ⟨_, rfl, I2, by simpa using hS2, y2, rfl, hO2⟩
end
end Go.Vc

namespace Go.Vc
open Go Go.Proofs Go.RowKit
set_option linter.all false
section
variable {u v w : World} {x y z ax kx tx xs : Sl} {vars args T W : List Int} {ds : List DeclD} {rs : List RoutD} {ss : List SigD} {n i t op num into : Int} {c : StepD} {b : BlockD} {kids : List BlockD} {fs : List (List Int)}
end
end Go.Vc

namespace Go.Vc
open Go Go.Proofs Go.RowKit
set_option linter.all false
theorem wrap_low {c : Int} (h : c < -9223372036854775808) (h2 : -18446744073709551616 ≤ c) : IntKind.wrap .i64 c = c + 18446744073709551616 := by
  have e : c % 2 ^ IntKind.i64.bits = c + 18446744073709551616 := by
    show c % 18446744073709551616 = _
    omega
  have hd : (IntKind.i64.signed && decide (c % 2 ^ IntKind.i64.bits ≥ 2 ^ (IntKind.i64.bits - 1))) = false := by
    simp only [e]
    show (true && decide (c + 18446744073709551616 ≥ 9223372036854775808)) = false
    rw [decide_eq_false (by omega)]; rfl
  unfold IntKind.wrap
  dsimp only
  rw [if_neg (by rw [hd]; exact Bool.false_ne_true), e]
/-- cap(x) -/
theorem stepT_cap {P : Program} {t e ty : TypeId} {x : Sl} {v : World} {Q : Value → World → Prop} (ht : P.underlying t = some (.slice e)) (k : Q (.int .i64 (x.c : Int)) v) : StepT P (Builtin.cap_ #[t] ty #[x.val]) v Q := by
  intro w hs
  refine ⟨.int .i64 (x.c : Int), w, v, ?_, ⟨hs, Nat.le_refl _, rfl, rfl, rfl, fun b hb ho => ⟨ho, rfl⟩⟩, k⟩
  simp [Builtin.cap_, run_underlying ht, Sl.val, goInt]
/-- make([]int, 0, n) -/
theorem stepT_make0 {P : Program} {t e : TypeId} {i : TypeInfo} {z : Value} (ht : P.underlying t = some (.slice e)) (hi : P.info? e = some i) (hz : i.zero = some z) {n : Int} {v : World} {Q : Value → World → Prop}
    (h0 : 0 ≤ n) (hb : i.bytes * n.toNat ≤ 281474976710656) (h63 : n ≤ 9223372036854775807)
    (h : ∀ (g : Nat) (w' : World), v.heap.size ≤ g → Sub v w' → w'.heap[g]? = some (.cells (madeCells z.cells (n.toNat * i.size)) e (0, 0)) → Q (Sl.mk (some ⟨g, 0, none⟩) 0 n.toNat).val w') :
    StepT P (Instr.makeSlice t (.int .i64 0) (.int .i64 n)) v Q := by
  intro w hs
  obtain ⟨m, rfl⟩ := Int.eq_ofNat_of_zero_le h0
  simp only [Int.toNat_natCast] at *
  have hr := run_makeN (P := P) t e i z ht hi hz .i64 .i64 0 m (Nat.zero_le _) hb (by omega) w
  obtain ⟨v', fr, hk⟩ := newAt_step (o := .cells (madeCells z.cells (m * i.size)) e) (Q := fun a w' => ∃ g, a = ⟨g, 0, none⟩ ∧ Q (Sl.mk (some ⟨g, 0, none⟩) 0 m).val w') hs (fun g w' hg hsub hh => ⟨g, rfl, h g w' hg hsub hh⟩)
  obtain ⟨g, hg, hq⟩ := hk
  cases hg
  exact ⟨_, _, v', hr, fr, hq⟩
section
variable {α : Type} [Dat α] {u v w : World} {x y z ax kx tx xs s : Sl} {vars args T W l : List Int} {ds : List DeclD} {rs : List RoutD} {ss : List SigD} {n i t op num into m : Int} {c : StepD} {b : BlockD} {kids : List BlockD} {fs : List (List Int)} {L I R : Items}
theorem St.make0 {P : Program} {t : TypeId} {bytes : Nat} {zc : List Value} [hT : SlT P t (Dat.sz α) bytes zc] {n : Int} {Q : Value → World → Prop} (hS : St u w L) (h0 : 0 ≤ n) (hn : n ≤ 1099511627776) (hby : bytes ≤ 128)
    (k : ∀ x w' I, Own u x ([] : List α) I → St u w' (I ++ L) → Sub w w' → Q x.val w') : StepT P (Instr.makeSlice t (.int .i64 0) (.int .i64 n)) w Q := by
  obtain ⟨e, i, z, ht, hi2, hz, hsize, hby2, hzc, hzl, hpos⟩ := hT.ex
  have hb : i.bytes * n.toNat ≤ 128 * 1099511627776 := Nat.mul_le_mul (by omega) (by omega)
  refine stepT_make0 ht hi2 hz h0 (by omega) (by omega) fun g w' hg hs ho => ?_
  refine k _ w' _ ⟨[], .blk g 0 0 n.toNat _ e _ rfl (Nat.zero_le _) (by simp only [maxLen]; omega) (by simp [size_madeCells, hsize]) fun q r hr => (by simp at hr), ⟨rfl, fun q r a hr => (by simp at hr)⟩, Nat.zero_le _⟩ (hS.new hg hs ho (by simp [absent])) hs
instance : SlT Tryz.prog 189 1 24 [.slice none 0 0] := .of (by kernel_rfl) rfl (by decide)
theorem c_grow0 (h0 : 0 ≤ n) (hn : n ≤ 1000000000) : Mk Tryz.prog 245 #[.slice none 0 0, .int .i64 n] v fun r J => ∃ z, r = z.val ∧ Own v z ([] : List Int) J := by
  refine of245 (Sl.mk none 0 0) _ _ _ ?_
  unfold vc245
  refine ⟨fun hc => ?_, fun hc => ?_⟩
  · simp only [bls] at hc; omega
  clear hc
  refine stepT_cap (x := Sl.mk none 0 0) Tryz.underlying68 ?_
  refine ⟨_, rfl, ?_⟩
  refine go_wr (by simp) (by simp) ?_
  refine go_wr (by simp; omega) (by simp; omega) ?_
  refine ⟨fun hc => ?_, fun hc => ?_⟩
  · simp only [bls] at hc
    refine stepT_cap (x := Sl.mk none 0 0) Tryz.underlying68 ?_
    refine ⟨_, rfl, ⟨by simp, by simp, by simp⟩, ?_⟩
    have hcut := (Own.nil (α := Int) v).cut (lo := 0) (hi := 0) (by omega) (by omega) (by simp)
    rw [show n - (((0 : Nat) : Int) - ((0 : Nat) : Int)) = ((n.toNat : Nat) : Int) from by omega] at hc ⊢
    refine Own.appendZ (m := n.toNat) (tn := 3) Tryz.underlying3 hcut (show St v v ([] ++ []) from St.refl v) (by omega) (by simp; omega) (by decide) ?_
    intro x' w' I' hO hS
    refine ⟨_, rfl, ⟨by simp, by simp, by simp⟩, ?_⟩
    have hc2 := hO.cut (lo := 0) (hi := 0) (by omega) (by omega) (by simp; omega)
    exact ⟨I', by simpa using hS, _, rfl, hc2⟩
  · exact ⟨[], St.refl v, Sl.mk none 0 0, rfl, Own.nil v⟩
theorem c_concat2 {a b : List Int} (hx : Read v x [a, b]) (ha : a.length ≤ 1000000) (hb : b.length ≤ 1000000) : Mk Tryz.prog 212 #[x.val] v fun r J => ∃ z, r = z.val ∧ Own v z (a ++ b) J := by
  refine of212 _ _ _ ?_
  unfold vc212
  have hxn := hx.n
  simp only [List.length_cons, List.length_nil] at hxn
  have hel : ∀ i : Int, 0 ≤ i → i < 2 → ∃ g : Sl, v.cell? ((elA x i 1).add 0) = some g.val ∧ Read v g (nth [a, b] i) := by
    intro i h0 h1
    obtain ⟨r, ⟨g, rfl, hr⟩, hc⟩ := hx.row (i := i) h0 (by simpa using h1)
    exact ⟨g, hc 0 _ rfl, hr⟩
  have hlen : ∀ i : Int, 0 ≤ i → i < 2 → (nth [a, b] i).length ≤ 1000000 := by
    intro i h0 h1
    rcases (show i = 0 ∨ i = 1 from by omega) with rfl | rfl
    · exact ha
    · exact hb
  refine ⟨fun n i w => w = v ∧ 0 ≤ i ∧ i ≤ 2 ∧ 0 ≤ n ∧ n ≤ i * 1000000, fun _ i _ => (2 - i).toNat, ⟨rfl, by omega, by omega, by omega, by omega⟩, ?_⟩
  rintro n i _ ⟨rfl, i0, i1, n0, n1⟩
  dsimp only
  refine ⟨fun hi => ?_, fun hi => ?_⟩
  · simp only [bls] at hi
    obtain ⟨g, hg, hr⟩ := hel i i0 (by omega)
    have hgn := hr.n
    have hgl := hlen i i0 (by omega)
    refine go_ix hx i0 (by simp; omega) ?_
    refine ⟨g, hg, ?_⟩
    refine go_wr (by omega) (by omega) ?_
    refine ⟨fun hc => ?_, fun hc => ?_⟩
    · simp only [bls] at hc; omega
    refine go_wr (by omega) (by omega) ?_
    exact ⟨⟨rfl, by omega, by omega, by omega, by omega⟩, by omega⟩
  clear hi
  refine Mk.use (c_grow0 n0 (by omega)) (.refl _) ?_
  rintro _ w1 J1 ⟨z1, rfl, hO1⟩ hS hs
  refine ⟨_, rfl, ?_⟩
  rename_i v
  refine ⟨fun z i w => ∃ I, Own v z (([a, b].take i.toNat).flatten) I ∧ St v w (I ++ []) ∧ 0 ≤ i ∧ i ≤ 2, fun _ i _ => (2 - i).toNat, ⟨J1, by simpa using hO1, hS, by omega, by omega⟩, ?_⟩
  clear hO1 hS hs
  rintro z i w ⟨I, hO, hS, i0, i1⟩
  dsimp only
  refine ⟨fun hi => ?_, fun hi => ?_⟩
  · simp only [bls] at hi
    obtain ⟨g, hg, hr⟩ := hel i i0 (by omega)
    have hgl := hlen i i0 (by omega)
    refine go_ix hx i0 (by simp; omega) ?_
    refine ⟨g, cell_sub hS.sub hg, ?_⟩
    have hle : (([a, b].take i.toNat).flatten).length ≤ 2000000 := by
      rcases (show i = 0 ∨ i = 1 from by omega) with rfl | rfl
      · simp
      · simp; omega
    refine hO.append hS (.ofInts (hr.mono hS.sub)) (by omega) (by decide) ?_
    intro z2 w2 I2 hO2 hS2
    refine ⟨_, rfl, ?_⟩
    refine go_wr (by omega) (by omega) ?_
    refine ⟨⟨I2, ?_, hS2, by omega, by omega⟩, by omega⟩
    rw [take_nth i0 (by simp; omega), List.flatten_append]
    simpa using hO2
  · simp only [bls] at hi
    rw [show i = 2 from by omega] at hO
    exact ⟨I, by simpa using hS, z, rfl, by simpa using hO⟩
/-- the program's own look-up of a constructor, of any number -/
theorem c_conAtA (hx : Read v x ds) (hd : SmDs ds) (hn : InI n) : ∃ z : Sl, Read v z (conF ds n) ∧ Fn Tryz.prog 214 #[x.val, .int .i64 n] v (.tuple #[.int .i64 (conTyV ds n), .agg #[z.val]]) := by
  by_cases hsm : -1000000 ≤ n ∧ n ≤ 1000000
  · exact c_conAt hx hd hsm
  have hxn := hx.n
  have hlen := hd.len
  obtain ⟨hn1, hn2⟩ := hn
  have hno : ∀ i : Int, 0 ≤ i → i < ds.length → ¬ conTyOk ds n i := by
    rintro i i0 i1 ⟨q1, q2⟩
    have hfc := hd.fc i.toNat (by omega)
    have hcl := hd.cons _ (nth_mem (l := ds) i0 i1)
    omega
  have hci := conI_none hno
  refine ⟨Sl.mk none 0 0, ?_, ?_⟩
  · unfold conF
    rw [if_pos (by omega)]
    exact ReadB.nil
  refine of214 _ _ _ _ ?_
  unfold vc214
  refine ⟨fun c i w => Sub v w ∧ 0 ≤ i ∧ i ≤ ds.length ∧ InI c ∧ (c < -900000 ∨ 900000 < c) ∧ ((n < 0 → (c = n - firstC ds i.toNat ∨ 900000 < c ∧ 9223372036854775800 ≤ c + i * 3 ∧ n < -9223372036854775700)) ∧ (0 < n → c = n - firstC ds i.toNat)), fun _ i _ => (ds.length - i).toNat, ⟨.refl v, by omega, by omega, ⟨hn1, hn2⟩, by omega, fun _ => .inl (by simp [firstC]), fun _ => by simp [firstC]⟩, ?_⟩
  rintro c i w ⟨hs, i0, i1, ⟨c0, c1⟩, hbig, hneg, hpos⟩
  dsimp only
  refine ⟨fun hi => ?_, fun hi => ?_⟩
  · simp only [bls] at hi
    have hil : i < ds.length := by omega
    have hfc := hd.fc i.toNat (by omega)
    have hfc1 := hd.fc (i + 1).toNat (by omega)
    have hfs := firstC_succ (ds := ds) i0 hil
    obtain ⟨f_cons, e1, e2, e3, j1, j2, r1⟩ := (hx.src hs).ofDeclD i0 hil
    have hfn := r1.n
    have hcl := hd.cons _ (nth_mem (l := ds) i0 hil)
    refine go_ix hx i0 hil ?_
    refine ⟨_, _, f_cons, ⟨e1, e2, e3⟩, fun hq => ?_, fun hq => ?_⟩
    · simp only [bls] at hq
      omega
    · refine go_wrap fun r hr => ?_
      have hrc : (r = c - f_cons.n ∧ -9223372036854775808 ≤ c - f_cons.n) ∨ (c - f_cons.n < -9223372036854775808 ∧ r = c - f_cons.n + 18446744073709551616) := by
        rcases Int.lt_or_le (c - f_cons.n) (-9223372036854775808) with hlt | hge
        · refine .inr ⟨hlt, ?_⟩
          rw [← hr]
          have := wrap_low hlt (by omega)
          exact this
        · refine .inl ⟨?_, hge⟩
          rw [← hr]
          exact wrap_i64 hge (by omega)
      refine go_wr (by omega) (by omega) ?_
      refine ⟨rfl, ⟨hs, by omega, by omega, ⟨by omega, by omega⟩, by omega, fun hn => ?_, fun hn => ?_⟩, by omega⟩
      · have := hneg hn
        omega
      · have := hpos hn
        omega
  · simp only [bls] at hi
    refine ⟨?_, hs⟩
    unfold conTyV
    rw [hci, if_pos (by omega)]
    rfl
end
end Go.Vc
