/- Part of the proofs about the heaps and memories: a law is joined in the text whose name ends in W and the law. -/
import Derived.Test.YtjdgknhdphmgiaaEK6
namespace Go.Vc
open Go Go.Proofs Go.RowKit
set_option linter.all false
/-- a datum whose numbers are all told apart -/
class Mark (α : Type) where
  room : α → Nat
  mark : Int → α → α
def rooms {α : Type} [Mark α] (l : List α) : Nat := (l.map Mark.room).sum
def markL {α : Type} [Mark α] : Int → List α → List α
  | _, [] => []
  | n, a :: r => Mark.mark n a :: markL (n + Mark.room a) r
section
variable {α : Type} [Mark α]
theorem rooms_app (p q : List α) : rooms (p ++ q) = rooms p + rooms q := by unfold rooms; rw [List.map_append, List.sum_append]
theorem rooms_one (c : α) : rooms [c] = Mark.room c := by simp [rooms]
theorem rooms_cons (c : α) (r : List α) : rooms (c :: r) = Mark.room c + rooms r := by simp [rooms]
theorem markL_len (l : List α) : ∀ n : Int, (markL n l).length = l.length := by
  induction l with
  | nil => intro n; rfl
  | cons a r ih => intro n; simp [markL, ih]
theorem markL_app (p : List α) : ∀ (q : List α) (n : Int), markL n (p ++ q) = markL n p ++ markL (n + rooms p) q := by
  induction p with
  | nil => intro q n; simp [markL, rooms]
  | cons a r ih => intro q n; simp only [List.cons_append, markL, ih, rooms_cons]; congr 3; omega
theorem markL_snoc (p : List α) (c : α) (n : Int) : markL n (p ++ [c]) = markL n p ++ [Mark.mark (n + rooms p) c] := by rw [markL_app]; rfl
end

instance : Mark ConD := ⟨fun c => c.fields.length, fun n c => ⟨marks (n) c.fields.length⟩⟩
section
variable {u v w : World} {x y : Sl} {l m : List ConD} {n b i : Int} {I J L R : Items}
theorem c_markConS (hO : OwnD x l I) (hS : St u w (I ++ R)) (n0 : 0 ≤ n) (n1 : n + rooms l ≤ 1000000000000000) :
    Trip Try.prog 61 #[x.val, .int .i64 n] w fun r w' => ∃ I', r = .int .i64 (n + rooms l) ∧ OwnD x (markL n l) I' ∧ St u w' (I' ++ R) := by
  refine of61 _ _ _ _ ?_
  unfold vc61
  have hn := hO.n
  have hle0 := hO.le
  refine ⟨fun n3 i w => ∃ (p r : List ConD) (I : Items), l = p ++ r ∧ i = p.length ∧ n3 = n + rooms p ∧ OwnD x (markL n p ++ r) I ∧ St u w (I ++ R), fun _ i _ => (l.length - i).toNat, ⟨[], l, I, rfl, rfl, by simp [rooms], hO, hS⟩, ?_⟩
  clear hO hS
  rintro n3 i w ⟨p, r, I, hpr, rfl, rfl, hO, hS⟩
  dsimp only
  have hle : l.length = p.length + r.length := by rw [hpr, List.length_append]
  have hml := markL_len p n
  refine ⟨fun hi => ?_, fun hi => ?_⟩
  · simp only [decide_eq_true_eq, decide_eq_false_iff_not, Bool.and_eq_true, Bool.and_eq_false_iff, Bool.or_eq_true, Bool.or_eq_false_iff, Bool.not_eq_true', Bool.not_eq_false', Bool.not_true, Bool.not_false, Bool.false_eq_true, Bool.true_eq_false, Int.not_lt, Int.not_le, ge_iff_le, gt_iff_lt, Bool.not_eq_eq_eq_not, Bool.true_or, Bool.or_true, Bool.false_or, Bool.or_false, Bool.true_and, Bool.and_true, false_or, or_false, true_and, and_true, Decidable.not_not] at hi
    obtain ⟨c, r, rfl⟩ : ∃ c r', r = c :: r' := by
      cases r with
      | nil => simp at hle; omega
      | cons c r => exact ⟨c, r, rfl⟩
    simp only [List.length_cons] at hle
    have hrm : rooms l = rooms p + (Mark.room c + rooms r) := by rw [hpr, rooms_app, rooms_cons]
    have hroom : Mark.room c = c.fields.length := rfl
    have hi0 : (0 : Int) ≤ (p.length : Int) := by omega
    have hlt : ∀ d : ConD, (p.length : Int) < (markL n p ++ d :: r).length := fun d => by simp; omega
    have hpm : (p.length : Int) = (markL n p).length := by rw [hml]
    have hsn := markL_snoc p c n
    have hrs : rooms (p ++ [c]) = rooms p + Mark.room c := by rw [rooms_app, rooms_one]
    generalize he : n + (rooms p : Int) = e at *
    refine ⟨hO.ix hi0 (hlt _), ?_⟩
    obtain ⟨row, K, Rest, hrow, hperm, hcell, hput⟩ := hO.borrow hi0 (hlt _)
    rw [nth_mid _ _ _ hpm] at hrow
    obtain ⟨f_fields, K_fields, rfl, o_fields, rfl⟩ := hrow
    have hS2 : St u _ (K ++ (Rest ++ R)) := hS.perm (by
      classical
      have hc := hperm.count_eq
      exact List.perm_iff_count.2 fun a => by have := hc a; simp only [List.count_append] at *; omega)
    refine ⟨f_fields, hcell _ (hS2.items (I := Rest)) 0 _ rfl, ?_⟩
    refine Trip.mono' (c_markIntS (l := c.fields) (o_fields u) hS2 (by omega) (by omega)) ?_
    rintro _ w0 ⟨K'_fields, rfl, o'_fields, hS⟩
    replace hO := hput (⟨marks (e) c.fields.length⟩ : ConD) (K'_fields) ⟨f_fields, _, rfl, o'_fields.toAll, rfl⟩
    rw [set_mid _ _ _ _ hpm] at hO
    replace hS : St u w0 ((K'_fields ++ Rest) ++ R) := hS.perm (by
      classical
      exact List.perm_iff_count.2 fun a => by simp only [List.count_append]; omega)
    refine ⟨_, rfl, ?_⟩
    refine go_wr (by omega) (by omega) ?_
    refine ⟨⟨p ++ [c], r, _, by rw [hpr]; simp, by simp, by rw [hrs]; omega, ?_, hS⟩, by omega⟩
    rw [hsn, List.append_assoc]
    exact hO
  · simp only [decide_eq_true_eq, decide_eq_false_iff_not, Bool.and_eq_true, Bool.and_eq_false_iff, Bool.or_eq_true, Bool.or_eq_false_iff, Bool.not_eq_true', Bool.not_eq_false', Bool.not_true, Bool.not_false, Bool.false_eq_true, Bool.true_eq_false, Int.not_lt, Int.not_le, ge_iff_le, gt_iff_lt, Bool.not_eq_eq_eq_not, Bool.true_or, Bool.or_true, Bool.false_or, Bool.or_false, Bool.true_and, Bool.and_true, false_or, or_false, true_and, and_true, Decidable.not_not] at hi
    have hr : r = [] := List.eq_nil_of_length_eq_zero (by omega)
    subst hr
    rw [List.append_nil] at hpr hO
    subst hpr
    exact ⟨I, rfl, hO, hS⟩
end

instance : Mark DeclD := ⟨fun c => 1 + 1 + rooms c.cons, fun n c => ⟨n, n + 1, markL (n + 1 + 1) c.cons⟩⟩
section
variable {u v w : World} {x y : Sl} {l m : List DeclD} {n b i : Int} {I J L R : Items}
theorem c_markDeclS (hO : OwnD x l I) (hS : St u w (I ++ R)) (n0 : 0 ≤ n) (n1 : n + rooms l ≤ 1000000000000000) :
    Trip Try.prog 34 #[x.val, .int .i64 n] w fun r w' => ∃ I', r = .int .i64 (n + rooms l) ∧ OwnD x (markL n l) I' ∧ St u w' (I' ++ R) := by
  refine of34 _ _ _ _ ?_
  unfold vc34
  have hn := hO.n
  have hle0 := hO.le
  refine ⟨fun n3 i w => ∃ (p r : List DeclD) (I : Items), l = p ++ r ∧ i = p.length ∧ n3 = n + rooms p ∧ OwnD x (markL n p ++ r) I ∧ St u w (I ++ R), fun _ i _ => (l.length - i).toNat, ⟨[], l, I, rfl, rfl, by simp [rooms], hO, hS⟩, ?_⟩
  clear hO hS
  rintro n3 i w ⟨p, r, I, hpr, rfl, rfl, hO, hS⟩
  dsimp only
  have hle : l.length = p.length + r.length := by rw [hpr, List.length_append]
  have hml := markL_len p n
  refine ⟨fun hi => ?_, fun hi => ?_⟩
  · simp only [decide_eq_true_eq, decide_eq_false_iff_not, Bool.and_eq_true, Bool.and_eq_false_iff, Bool.or_eq_true, Bool.or_eq_false_iff, Bool.not_eq_true', Bool.not_eq_false', Bool.not_true, Bool.not_false, Bool.false_eq_true, Bool.true_eq_false, Int.not_lt, Int.not_le, ge_iff_le, gt_iff_lt, Bool.not_eq_eq_eq_not, Bool.true_or, Bool.or_true, Bool.false_or, Bool.or_false, Bool.true_and, Bool.and_true, false_or, or_false, true_and, and_true, Decidable.not_not] at hi
    obtain ⟨c, r, rfl⟩ : ∃ c r', r = c :: r' := by
      cases r with
      | nil => simp at hle; omega
      | cons c r => exact ⟨c, r, rfl⟩
    simp only [List.length_cons] at hle
    have hrm : rooms l = rooms p + (Mark.room c + rooms r) := by rw [hpr, rooms_app, rooms_cons]
    have hroom : Mark.room c = 1 + 1 + rooms c.cons := rfl
    have hi0 : (0 : Int) ≤ (p.length : Int) := by omega
    have hlt : ∀ d : DeclD, (p.length : Int) < (markL n p ++ d :: r).length := fun d => by simp; omega
    have hpm : (p.length : Int) = (markL n p).length := by rw [hml]
    have hsn := markL_snoc p c n
    have hrs : rooms (p ++ [c]) = rooms p + Mark.room c := by rw [rooms_app, rooms_one]
    generalize he : n + (rooms p : Int) = e at *
    refine ⟨hO.ix hi0 (hlt _), ?_⟩
    refine OwnD.store hO hS hi0 (hlt _) (⟨e, c.to_, c.cons⟩ : DeclD) [] (Nat.le_of_ble_eq_true rfl) (fun r' K hr => ?_) ?_
    · rw [nth_mid _ _ _ hpm] at hr
      obtain ⟨f_cons, K_cons, rfl, q_frm, q_to_, o_cons, rfl⟩ := hr
      exact ⟨_, ⟨f_cons, _, rfl, (show InI (e) from ⟨by omega, by omega⟩), q_to_, o_cons, rfl⟩, .inr ⟨rfl, rfl⟩⟩
    intro w0 I0 hO hS
    rw [List.append_nil, set_mid _ _ _ _ hpm] at hO
    refine go_wr (by omega) (by omega) ?_
    refine ⟨hO.ix hi0 (hlt _), ?_⟩
    refine OwnD.store hO hS hi0 (hlt _) (⟨e, e + 1, c.cons⟩ : DeclD) [] (Nat.le_of_ble_eq_true rfl) (fun r' K hr => ?_) ?_
    · rw [nth_mid _ _ _ hpm] at hr
      obtain ⟨f_cons, K_cons, rfl, q_frm, q_to_, o_cons, rfl⟩ := hr
      exact ⟨_, ⟨f_cons, _, rfl, q_frm, (show InI (e + 1) from ⟨by omega, by omega⟩), o_cons, rfl⟩, .inr ⟨rfl, rfl⟩⟩
    intro w1 I1 hO hS
    rw [List.append_nil, set_mid _ _ _ _ hpm] at hO
    refine go_wr (by omega) (by omega) ?_
    refine ⟨hO.ix hi0 (hlt _), ?_⟩
    obtain ⟨row, K, Rest, hrow, hperm, hcell, hput⟩ := hO.borrow hi0 (hlt _)
    rw [nth_mid _ _ _ hpm] at hrow
    obtain ⟨f_cons, K_cons, rfl, q_frm, q_to_, o_cons, rfl⟩ := hrow
    have hS2 : St u _ (K ++ (Rest ++ R)) := hS.perm (by
      classical
      have hc := hperm.count_eq
      exact List.perm_iff_count.2 fun a => by have := hc a; simp only [List.count_append] at *; omega)
    refine ⟨f_cons, hcell _ (hS2.items (I := Rest)) 2 _ rfl, ?_⟩
    refine Trip.mono' (c_markConS (l := c.cons) o_cons hS2 (by omega) (by omega)) ?_
    rintro _ w2 ⟨K'_cons, rfl, o'_cons, hS⟩
    replace hO := hput (⟨e, e + 1, markL (e + 1 + 1) c.cons⟩ : DeclD) (K'_cons) ⟨f_cons, _, rfl, q_frm, q_to_, o'_cons, rfl⟩
    rw [set_mid _ _ _ _ hpm] at hO
    replace hS : St u w2 ((K'_cons ++ Rest) ++ R) := hS.perm (by
      classical
      exact List.perm_iff_count.2 fun a => by simp only [List.count_append]; omega)
    refine ⟨_, rfl, ?_⟩
    refine go_wr (by omega) (by omega) ?_
    refine ⟨⟨p ++ [c], r, _, by rw [hpr]; simp, by simp, by rw [hrs]; omega, ?_, hS⟩, by omega⟩
    rw [hsn, List.append_assoc]
    exact hO
  · simp only [decide_eq_true_eq, decide_eq_false_iff_not, Bool.and_eq_true, Bool.and_eq_false_iff, Bool.or_eq_true, Bool.or_eq_false_iff, Bool.not_eq_true', Bool.not_eq_false', Bool.not_true, Bool.not_false, Bool.false_eq_true, Bool.true_eq_false, Int.not_lt, Int.not_le, ge_iff_le, gt_iff_lt, Bool.not_eq_eq_eq_not, Bool.true_or, Bool.or_true, Bool.false_or, Bool.or_false, Bool.true_and, Bool.and_true, false_or, or_false, true_and, and_true, Decidable.not_not] at hi
    have hr : r = [] := List.eq_nil_of_length_eq_zero (by omega)
    subst hr
    rw [List.append_nil] at hpr hO
    subst hpr
    exact ⟨I, rfl, hO, hS⟩
end

instance : Mark InstrD := ⟨fun c => 1 + 1 + 1 + 1 + c.args.length + c.jumps.length, fun n c => ⟨n, n + 1, n + 1 + 1, n + 1 + 1 + 1, marks (n + 1 + 1 + 1 + 1) c.args.length, marks (n + 1 + 1 + 1 + 1 + c.args.length) c.jumps.length⟩⟩
section
variable {u v w : World} {x y : Sl} {l m : List InstrD} {n b i : Int} {I J L R : Items}
theorem c_markInstrS (hO : OwnD x l I) (hS : St u w (I ++ R)) (n0 : 0 ≤ n) (n1 : n + rooms l ≤ 1000000000000000) :
    Trip Try.prog 62 #[x.val, .int .i64 n] w fun r w' => ∃ I', r = .int .i64 (n + rooms l) ∧ OwnD x (markL n l) I' ∧ St u w' (I' ++ R) := by
  refine of62 _ _ _ _ ?_
  unfold vc62
  have hn := hO.n
  have hle0 := hO.le
  refine ⟨fun n3 i w => ∃ (p r : List InstrD) (I : Items), l = p ++ r ∧ i = p.length ∧ n3 = n + rooms p ∧ OwnD x (markL n p ++ r) I ∧ St u w (I ++ R), fun _ i _ => (l.length - i).toNat, ⟨[], l, I, rfl, rfl, by simp [rooms], hO, hS⟩, ?_⟩
  clear hO hS
  rintro n3 i w ⟨p, r, I, hpr, rfl, rfl, hO, hS⟩
  dsimp only
  have hle : l.length = p.length + r.length := by rw [hpr, List.length_append]
  have hml := markL_len p n
  refine ⟨fun hi => ?_, fun hi => ?_⟩
  · simp only [decide_eq_true_eq, decide_eq_false_iff_not, Bool.and_eq_true, Bool.and_eq_false_iff, Bool.or_eq_true, Bool.or_eq_false_iff, Bool.not_eq_true', Bool.not_eq_false', Bool.not_true, Bool.not_false, Bool.false_eq_true, Bool.true_eq_false, Int.not_lt, Int.not_le, ge_iff_le, gt_iff_lt, Bool.not_eq_eq_eq_not, Bool.true_or, Bool.or_true, Bool.false_or, Bool.or_false, Bool.true_and, Bool.and_true, false_or, or_false, true_and, and_true, Decidable.not_not] at hi
    obtain ⟨c, r, rfl⟩ : ∃ c r', r = c :: r' := by
      cases r with
      | nil => simp at hle; omega
      | cons c r => exact ⟨c, r, rfl⟩
    simp only [List.length_cons] at hle
    have hrm : rooms l = rooms p + (Mark.room c + rooms r) := by rw [hpr, rooms_app, rooms_cons]
    have hroom : Mark.room c = 1 + 1 + 1 + 1 + c.args.length + c.jumps.length := rfl
    have hi0 : (0 : Int) ≤ (p.length : Int) := by omega
    have hlt : ∀ d : InstrD, (p.length : Int) < (markL n p ++ d :: r).length := fun d => by simp; omega
    have hpm : (p.length : Int) = (markL n p).length := by rw [hml]
    have hsn := markL_snoc p c n
    have hrs : rooms (p ++ [c]) = rooms p + Mark.room c := by rw [rooms_app, rooms_one]
    generalize he : n + (rooms p : Int) = e at *
    refine ⟨hO.ix hi0 (hlt _), ?_⟩
    refine OwnD.store hO hS hi0 (hlt _) (⟨e, c.dst, c.num, c.into, c.args, c.jumps⟩ : InstrD) [] (Nat.le_of_ble_eq_true rfl) (fun r' K hr => ?_) ?_
    · rw [nth_mid _ _ _ hpm] at hr
      obtain ⟨f_args, f_jumps, K_args, K_jumps, rfl, q_op, q_dst, q_num, q_into, o_args, o_jumps, rfl⟩ := hr
      exact ⟨_, ⟨f_args, f_jumps, _, _, rfl, (show InI (e) from ⟨by omega, by omega⟩), q_dst, q_num, q_into, o_args, o_jumps, rfl⟩, .inr ⟨rfl, rfl⟩⟩
    intro w0 I0 hO hS
    rw [List.append_nil, set_mid _ _ _ _ hpm] at hO
    refine go_wr (by omega) (by omega) ?_
    refine ⟨hO.ix hi0 (hlt _), ?_⟩
    refine OwnD.store hO hS hi0 (hlt _) (⟨e, e + 1, c.num, c.into, c.args, c.jumps⟩ : InstrD) [] (Nat.le_of_ble_eq_true rfl) (fun r' K hr => ?_) ?_
    · rw [nth_mid _ _ _ hpm] at hr
      obtain ⟨f_args, f_jumps, K_args, K_jumps, rfl, q_op, q_dst, q_num, q_into, o_args, o_jumps, rfl⟩ := hr
      exact ⟨_, ⟨f_args, f_jumps, _, _, rfl, q_op, (show InI (e + 1) from ⟨by omega, by omega⟩), q_num, q_into, o_args, o_jumps, rfl⟩, .inr ⟨rfl, rfl⟩⟩
    intro w1 I1 hO hS
    rw [List.append_nil, set_mid _ _ _ _ hpm] at hO
    refine go_wr (by omega) (by omega) ?_
    refine ⟨hO.ix hi0 (hlt _), ?_⟩
    refine OwnD.store hO hS hi0 (hlt _) (⟨e, e + 1, e + 1 + 1, c.into, c.args, c.jumps⟩ : InstrD) [] (Nat.le_of_ble_eq_true rfl) (fun r' K hr => ?_) ?_
    · rw [nth_mid _ _ _ hpm] at hr
      obtain ⟨f_args, f_jumps, K_args, K_jumps, rfl, q_op, q_dst, q_num, q_into, o_args, o_jumps, rfl⟩ := hr
      exact ⟨_, ⟨f_args, f_jumps, _, _, rfl, q_op, q_dst, (show InI (e + 1 + 1) from ⟨by omega, by omega⟩), q_into, o_args, o_jumps, rfl⟩, .inr ⟨rfl, rfl⟩⟩
    intro w2 I2 hO hS
    rw [List.append_nil, set_mid _ _ _ _ hpm] at hO
    refine go_wr (by omega) (by omega) ?_
    refine ⟨hO.ix hi0 (hlt _), ?_⟩
    refine OwnD.store hO hS hi0 (hlt _) (⟨e, e + 1, e + 1 + 1, e + 1 + 1 + 1, c.args, c.jumps⟩ : InstrD) [] (Nat.le_of_ble_eq_true rfl) (fun r' K hr => ?_) ?_
    · rw [nth_mid _ _ _ hpm] at hr
      obtain ⟨f_args, f_jumps, K_args, K_jumps, rfl, q_op, q_dst, q_num, q_into, o_args, o_jumps, rfl⟩ := hr
      exact ⟨_, ⟨f_args, f_jumps, _, _, rfl, q_op, q_dst, q_num, (show InI (e + 1 + 1 + 1) from ⟨by omega, by omega⟩), o_args, o_jumps, rfl⟩, .inr ⟨rfl, rfl⟩⟩
    intro w3 I3 hO hS
    rw [List.append_nil, set_mid _ _ _ _ hpm] at hO
    refine go_wr (by omega) (by omega) ?_
    refine ⟨hO.ix hi0 (hlt _), ?_⟩
    obtain ⟨row, K, Rest, hrow, hperm, hcell, hput⟩ := hO.borrow hi0 (hlt _)
    rw [nth_mid _ _ _ hpm] at hrow
    obtain ⟨f_args, f_jumps, K_args, K_jumps, rfl, q_op, q_dst, q_num, q_into, o_args, o_jumps, rfl⟩ := hrow
    have hS2 : St u _ (K_args ++ (K_jumps ++ (Rest ++ R))) := hS.perm (by
      classical
      have hc := hperm.count_eq
      exact List.perm_iff_count.2 fun a => by have := hc a; simp only [List.count_append] at *; omega)
    refine ⟨f_args, hcell _ (hS2.items (I := Rest)) 4 _ rfl, ?_⟩
    refine Trip.mono' (c_markIntS (l := c.args) (o_args u) hS2 (by omega) (by omega)) ?_
    rintro _ w4 ⟨K'_args, rfl, o'_args, hS⟩
    replace hO := hput (⟨e, e + 1, e + 1 + 1, e + 1 + 1 + 1, marks (e + 1 + 1 + 1 + 1) c.args.length, c.jumps⟩ : InstrD) (K'_args ++ K_jumps) ⟨f_args, f_jumps, _, _, rfl, q_op, q_dst, q_num, q_into, o'_args.toAll, o_jumps, rfl⟩
    rw [set_mid _ _ _ _ hpm] at hO
    replace hS : St u w4 (((K'_args ++ K_jumps) ++ Rest) ++ R) := hS.perm (by
      classical
      exact List.perm_iff_count.2 fun a => by simp only [List.count_append]; omega)
    refine ⟨_, rfl, ?_⟩
    refine ⟨hO.ix hi0 (hlt _), ?_⟩
    obtain ⟨row, K, Rest, hrow, hperm, hcell, hput⟩ := hO.borrow hi0 (hlt _)
    rw [nth_mid _ _ _ hpm] at hrow
    obtain ⟨f_args, f_jumps, K_args, K_jumps, rfl, q_op, q_dst, q_num, q_into, o_args, o_jumps, rfl⟩ := hrow
    have hS2 : St u _ (K_jumps ++ (K_args ++ (Rest ++ R))) := hS.perm (by
      classical
      have hc := hperm.count_eq
      exact List.perm_iff_count.2 fun a => by have := hc a; simp only [List.count_append] at *; omega)
    refine ⟨f_jumps, hcell _ (hS2.items (I := Rest)) 5 _ rfl, ?_⟩
    refine Trip.mono' (c_markIntS (l := c.jumps) (o_jumps u) hS2 (by omega) (by omega)) ?_
    rintro _ w5 ⟨K'_jumps, rfl, o'_jumps, hS⟩
    replace hO := hput (⟨e, e + 1, e + 1 + 1, e + 1 + 1 + 1, marks (e + 1 + 1 + 1 + 1) c.args.length, marks (e + 1 + 1 + 1 + 1 + c.args.length) c.jumps.length⟩ : InstrD) (K_args ++ K'_jumps) ⟨f_args, f_jumps, _, _, rfl, q_op, q_dst, q_num, q_into, o_args, o'_jumps.toAll, rfl⟩
    rw [set_mid _ _ _ _ hpm] at hO
    replace hS : St u w5 (((K_args ++ K'_jumps) ++ Rest) ++ R) := hS.perm (by
      classical
      exact List.perm_iff_count.2 fun a => by simp only [List.count_append]; omega)
    refine ⟨_, rfl, ?_⟩
    refine go_wr (by omega) (by omega) ?_
    refine ⟨⟨p ++ [c], r, _, by rw [hpr]; simp, by simp, by rw [hrs]; omega, ?_, hS⟩, by omega⟩
    rw [hsn, List.append_assoc]
    exact hO
  · simp only [decide_eq_true_eq, decide_eq_false_iff_not, Bool.and_eq_true, Bool.and_eq_false_iff, Bool.or_eq_true, Bool.or_eq_false_iff, Bool.not_eq_true', Bool.not_eq_false', Bool.not_true, Bool.not_false, Bool.false_eq_true, Bool.true_eq_false, Int.not_lt, Int.not_le, ge_iff_le, gt_iff_lt, Bool.not_eq_eq_eq_not, Bool.true_or, Bool.or_true, Bool.false_or, Bool.or_false, Bool.true_and, Bool.and_true, false_or, or_false, true_and, and_true, Decidable.not_not] at hi
    have hr : r = [] := List.eq_nil_of_length_eq_zero (by omega)
    subst hr
    rw [List.append_nil] at hpr hO
    subst hpr
    exact ⟨I, rfl, hO, hS⟩
end

instance : Mark ProcD := ⟨fun c => c.params.length + c.lent.length + 1 + 1 + rooms c.code, fun n c => ⟨marks (n) c.params.length, marks (n + c.params.length) c.lent.length, n + c.params.length + c.lent.length, n + c.params.length + c.lent.length + 1, markL (n + c.params.length + c.lent.length + 1 + 1) c.code⟩⟩
section
variable {u v w : World} {x y : Sl} {l m : List ProcD} {n b i : Int} {I J L R : Items}
theorem c_markProcS (hO : OwnD x l I) (hS : St u w (I ++ R)) (n0 : 0 ≤ n) (n1 : n + rooms l ≤ 1000000000000000) :
    Trip Try.prog 35 #[x.val, .int .i64 n] w fun r w' => ∃ I', r = .int .i64 (n + rooms l) ∧ OwnD x (markL n l) I' ∧ St u w' (I' ++ R) := by
  refine of35 _ _ _ _ ?_
  unfold vc35
  have hn := hO.n
  have hle0 := hO.le
  refine ⟨fun n3 i w => ∃ (p r : List ProcD) (I : Items), l = p ++ r ∧ i = p.length ∧ n3 = n + rooms p ∧ OwnD x (markL n p ++ r) I ∧ St u w (I ++ R), fun _ i _ => (l.length - i).toNat, ⟨[], l, I, rfl, rfl, by simp [rooms], hO, hS⟩, ?_⟩
  clear hO hS
  rintro n3 i w ⟨p, r, I, hpr, rfl, rfl, hO, hS⟩
  dsimp only
  have hle : l.length = p.length + r.length := by rw [hpr, List.length_append]
  have hml := markL_len p n
  refine ⟨fun hi => ?_, fun hi => ?_⟩
  · simp only [decide_eq_true_eq, decide_eq_false_iff_not, Bool.and_eq_true, Bool.and_eq_false_iff, Bool.or_eq_true, Bool.or_eq_false_iff, Bool.not_eq_true', Bool.not_eq_false', Bool.not_true, Bool.not_false, Bool.false_eq_true, Bool.true_eq_false, Int.not_lt, Int.not_le, ge_iff_le, gt_iff_lt, Bool.not_eq_eq_eq_not, Bool.true_or, Bool.or_true, Bool.false_or, Bool.or_false, Bool.true_and, Bool.and_true, false_or, or_false, true_and, and_true, Decidable.not_not] at hi
    obtain ⟨c, r, rfl⟩ : ∃ c r', r = c :: r' := by
      cases r with
      | nil => simp at hle; omega
      | cons c r => exact ⟨c, r, rfl⟩
    simp only [List.length_cons] at hle
    have hrm : rooms l = rooms p + (Mark.room c + rooms r) := by rw [hpr, rooms_app, rooms_cons]
    have hroom : Mark.room c = c.params.length + c.lent.length + 1 + 1 + rooms c.code := rfl
    have hi0 : (0 : Int) ≤ (p.length : Int) := by omega
    have hlt : ∀ d : ProcD, (p.length : Int) < (markL n p ++ d :: r).length := fun d => by simp; omega
    have hpm : (p.length : Int) = (markL n p).length := by rw [hml]
    have hsn := markL_snoc p c n
    have hrs : rooms (p ++ [c]) = rooms p + Mark.room c := by rw [rooms_app, rooms_one]
    generalize he : n + (rooms p : Int) = e at *
    refine ⟨hO.ix hi0 (hlt _), ?_⟩
    obtain ⟨row, K, Rest, hrow, hperm, hcell, hput⟩ := hO.borrow hi0 (hlt _)
    rw [nth_mid _ _ _ hpm] at hrow
    obtain ⟨f_params, f_lent, f_code, K_params, K_lent, K_code, rfl, q_result, q_regs, o_params, o_lent, o_code, rfl⟩ := hrow
    have hS2 : St u _ (K_params ++ (K_lent ++ (K_code ++ (Rest ++ R)))) := hS.perm (by
      classical
      have hc := hperm.count_eq
      exact List.perm_iff_count.2 fun a => by have := hc a; simp only [List.count_append] at *; omega)
    refine ⟨f_params, hcell _ (hS2.items (I := Rest)) 0 _ rfl, ?_⟩
    refine Trip.mono' (c_markIntS (l := c.params) (o_params u) hS2 (by omega) (by omega)) ?_
    rintro _ w0 ⟨K'_params, rfl, o'_params, hS⟩
    replace hO := hput (⟨marks (e) c.params.length, c.lent, c.result, c.regs, c.code⟩ : ProcD) (K'_params ++ (K_lent ++ K_code)) ⟨f_params, f_lent, f_code, _, _, _, rfl, q_result, q_regs, o'_params.toAll, o_lent, o_code, rfl⟩
    rw [set_mid _ _ _ _ hpm] at hO
    replace hS : St u w0 (((K'_params ++ (K_lent ++ K_code)) ++ Rest) ++ R) := hS.perm (by
      classical
      exact List.perm_iff_count.2 fun a => by simp only [List.count_append]; omega)
    refine ⟨_, rfl, ?_⟩
    refine ⟨hO.ix hi0 (hlt _), ?_⟩
    obtain ⟨row, K, Rest, hrow, hperm, hcell, hput⟩ := hO.borrow hi0 (hlt _)
    rw [nth_mid _ _ _ hpm] at hrow
    obtain ⟨f_params, f_lent, f_code, K_params, K_lent, K_code, rfl, q_result, q_regs, o_params, o_lent, o_code, rfl⟩ := hrow
    have hS2 : St u _ (K_lent ++ (K_params ++ (K_code ++ (Rest ++ R)))) := hS.perm (by
      classical
      have hc := hperm.count_eq
      exact List.perm_iff_count.2 fun a => by have := hc a; simp only [List.count_append] at *; omega)
    refine ⟨f_lent, hcell _ (hS2.items (I := Rest)) 1 _ rfl, ?_⟩
    refine Trip.mono' (c_markIntS (l := c.lent) (o_lent u) hS2 (by omega) (by omega)) ?_
    rintro _ w1 ⟨K'_lent, rfl, o'_lent, hS⟩
    replace hO := hput (⟨marks (e) c.params.length, marks (e + c.params.length) c.lent.length, c.result, c.regs, c.code⟩ : ProcD) (K_params ++ (K'_lent ++ K_code)) ⟨f_params, f_lent, f_code, _, _, _, rfl, q_result, q_regs, o_params, o'_lent.toAll, o_code, rfl⟩
    rw [set_mid _ _ _ _ hpm] at hO
    replace hS : St u w1 (((K_params ++ (K'_lent ++ K_code)) ++ Rest) ++ R) := hS.perm (by
      classical
      exact List.perm_iff_count.2 fun a => by simp only [List.count_append]; omega)
    refine ⟨_, rfl, ?_⟩
    refine ⟨hO.ix hi0 (hlt _), ?_⟩
    refine OwnD.store hO hS hi0 (hlt _) (⟨marks (e) c.params.length, marks (e + c.params.length) c.lent.length, e + c.params.length + c.lent.length, c.regs, c.code⟩ : ProcD) [] (Nat.le_of_ble_eq_true rfl) (fun r' K hr => ?_) ?_
    · rw [nth_mid _ _ _ hpm] at hr
      obtain ⟨f_params, f_lent, f_code, K_params, K_lent, K_code, rfl, q_result, q_regs, o_params, o_lent, o_code, rfl⟩ := hr
      exact ⟨_, ⟨f_params, f_lent, f_code, _, _, _, rfl, (show InI (e + c.params.length + c.lent.length) from ⟨by omega, by omega⟩), q_regs, o_params, o_lent, o_code, rfl⟩, .inr ⟨rfl, rfl⟩⟩
    intro w2 I2 hO hS
    rw [List.append_nil, set_mid _ _ _ _ hpm] at hO
    refine go_wr (by omega) (by omega) ?_
    refine ⟨hO.ix hi0 (hlt _), ?_⟩
    refine OwnD.store hO hS hi0 (hlt _) (⟨marks (e) c.params.length, marks (e + c.params.length) c.lent.length, e + c.params.length + c.lent.length, e + c.params.length + c.lent.length + 1, c.code⟩ : ProcD) [] (Nat.le_of_ble_eq_true rfl) (fun r' K hr => ?_) ?_
    · rw [nth_mid _ _ _ hpm] at hr
      obtain ⟨f_params, f_lent, f_code, K_params, K_lent, K_code, rfl, q_result, q_regs, o_params, o_lent, o_code, rfl⟩ := hr
      exact ⟨_, ⟨f_params, f_lent, f_code, _, _, _, rfl, q_result, (show InI (e + c.params.length + c.lent.length + 1) from ⟨by omega, by omega⟩), o_params, o_lent, o_code, rfl⟩, .inr ⟨rfl, rfl⟩⟩
    intro w3 I3 hO hS
    rw [List.append_nil, set_mid _ _ _ _ hpm] at hO
    refine go_wr (by omega) (by omega) ?_
    refine ⟨hO.ix hi0 (hlt _), ?_⟩
    obtain ⟨row, K, Rest, hrow, hperm, hcell, hput⟩ := hO.borrow hi0 (hlt _)
    rw [nth_mid _ _ _ hpm] at hrow
    obtain ⟨f_params, f_lent, f_code, K_params, K_lent, K_code, rfl, q_result, q_regs, o_params, o_lent, o_code, rfl⟩ := hrow
    have hS2 : St u _ (K_code ++ (K_params ++ (K_lent ++ (Rest ++ R)))) := hS.perm (by
      classical
      have hc := hperm.count_eq
      exact List.perm_iff_count.2 fun a => by have := hc a; simp only [List.count_append] at *; omega)
    refine ⟨f_code, hcell _ (hS2.items (I := Rest)) 4 _ rfl, ?_⟩
    refine Trip.mono' (c_markInstrS (l := c.code) o_code hS2 (by omega) (by omega)) ?_
    rintro _ w4 ⟨K'_code, rfl, o'_code, hS⟩
    replace hO := hput (⟨marks (e) c.params.length, marks (e + c.params.length) c.lent.length, e + c.params.length + c.lent.length, e + c.params.length + c.lent.length + 1, markL (e + c.params.length + c.lent.length + 1 + 1) c.code⟩ : ProcD) (K_params ++ (K_lent ++ K'_code)) ⟨f_params, f_lent, f_code, _, _, _, rfl, q_result, q_regs, o_params, o_lent, o'_code, rfl⟩
    rw [set_mid _ _ _ _ hpm] at hO
    replace hS : St u w4 (((K_params ++ (K_lent ++ K'_code)) ++ Rest) ++ R) := hS.perm (by
      classical
      exact List.perm_iff_count.2 fun a => by simp only [List.count_append]; omega)
    refine ⟨_, rfl, ?_⟩
    refine go_wr (by omega) (by omega) ?_
    refine ⟨⟨p ++ [c], r, _, by rw [hpr]; simp, by simp, by rw [hrs]; omega, ?_, hS⟩, by omega⟩
    rw [hsn, List.append_assoc]
    exact hO
  · simp only [decide_eq_true_eq, decide_eq_false_iff_not, Bool.and_eq_true, Bool.and_eq_false_iff, Bool.or_eq_true, Bool.or_eq_false_iff, Bool.not_eq_true', Bool.not_eq_false', Bool.not_true, Bool.not_false, Bool.false_eq_true, Bool.true_eq_false, Int.not_lt, Int.not_le, ge_iff_le, gt_iff_lt, Bool.not_eq_eq_eq_not, Bool.true_or, Bool.or_true, Bool.false_or, Bool.or_false, Bool.true_and, Bool.and_true, false_or, or_false, true_and, and_true, Decidable.not_not] at hi
    have hr : r = [] := List.eq_nil_of_length_eq_zero (by omega)
    subst hr
    rw [List.append_nil] at hpr hO
    subst hpr
    exact ⟨I, rfl, hO, hS⟩
end

end Go.Vc

namespace Go.Vc
open Go Go.Proofs Go.RowKit
set_option linter.all false
/-- integers of one's own -/
def OwnI (x : Sl) (l : List Int) (J : Items) : Prop := ∀ u, Own u x l J
/-- an image as a datum -/
structure ImD where
  decls : List DeclD
  procs : List ProcD
def markIm (m : ImD) : ImD := ⟨markL 1 m.decls, markL (1 + rooms m.decls) m.procs⟩
def endIm (m : ImD) : Int := 1 + rooms m.decls + rooms m.procs
section
variable {α : Type} [Mark α] [Cost α]
theorem rooms_cost (h : ∀ a : α, Mark.room a ≤ 4 + 4 * Cost.cost a) (l : List α) : rooms l ≤ 4 * costL l := by
  unfold rooms costL
  induction l with
  | nil => simp
  | cons a r ih => have := h a; simp only [List.map_cons, List.sum_cons, List.length_cons]; omega
end
theorem roomsC (l : List ConD) : rooms l ≤ 4 * costL l := rooms_cost (fun a => by show a.fields.length ≤ 4 + 4 * a.fields.length; omega) l
theorem roomsD (l : List DeclD) : rooms l ≤ 4 * costL l := rooms_cost (fun a => by show 1 + 1 + rooms a.cons ≤ 4 + 4 * costL a.cons; have := roomsC a.cons; omega) l
theorem roomsI (l : List InstrD) : rooms l ≤ 4 * costL l := rooms_cost (fun a => by show 1 + 1 + 1 + 1 + a.args.length + a.jumps.length ≤ 4 + 4 * (a.args.length + a.jumps.length); omega) l
theorem roomsP (l : List ProcD) : rooms l ≤ 4 * costL l := rooms_cost (fun a => by show a.params.length + a.lent.length + 1 + 1 + rooms a.code ≤ 4 + 4 * (a.params.length + a.lent.length + costL a.code); have := roomsI a.code; omega) l
theorem endIm_le {m : ImD} (h : costL m.decls + costL m.procs ≤ 1048576) : endIm m ≤ 100000000 := by
  have h1 := roomsD m.decls
  have h2 := roomsP m.procs
  unfold endIm
  omega
theorem endIm_pos (m : ImD) : 1 ≤ endIm m := by unfold endIm; omega
section
variable {u v w : World} {x y z t s : Sl} {l ws : List Int} {m m' : ImD} {b n : Int} {a : Addr} {I J K L R : Items} {F : Items → Items}
theorem Own.toI (h : Own u x l I) : OwnI x l I := h.toAll
theorem OwnI.read (h : OwnI x l I) (hS : St u w L) [p : Pos I L R F] : Read w x l := Own.read (h u) hS
theorem OwnI.read1 (h : OwnI x l I) (hS : St u w I) : Read w x l := Own.read1 (h u) hS
theorem c_markIntSI (hO : OwnI x l I) (hS : St u w (I ++ R)) (n0 : 0 ≤ n) (n1 : n ≤ 1000000000000000) :
    Trip Try.prog 16 #[x.val, .int .i64 n] w fun r w' => ∃ I', r = .int .i64 (n + l.length) ∧ OwnI x (marks n l.length) I' ∧ St u w' (I' ++ R) := by
  refine Trip.mono' (c_markIntS (hO u) hS n0 n1) ?_
  rintro r w ⟨I', e, hO, hS⟩
  exact ⟨I', e, hO.toI, hS⟩
theorem c_toImageM (hx : Read v x m.decls) (hy : Read v y m.procs) : Mk Try.prog 9 #[.agg #[x.val, y.val]] v fun r J => ∃ t s I K, r = .agg #[t.val, s.val] ∧ OwnD t m.decls I ∧ OwnD s m.procs K ∧ J = I ++ K := c_toImage hx hy
theorem c_eqImageM (hx : Read v x m.decls) (hy : Read v y m.procs) (hz : Read v z m'.decls) (ht : Read v t m'.procs) : Fn Try.prog 11 #[.agg #[x.val, y.val], .agg #[z.val, t.val]] v (.bool (decide (m.decls = m'.decls) && decide (m.procs = m'.procs))) := c_eqImage hx hy hz ht
theorem c_markImageM (hO : OwnD x m.decls I) (hP : OwnD y m.procs J) (hS : St u w (I ++ (J ++ R))) (hn : endIm m ≤ 1000000000000000) :
    Trip Try.prog 15 #[.agg #[x.val, y.val], .int .i64 1] w fun r w' => ∃ I' J', r = .int .i64 (endIm m) ∧ OwnD x (markIm m).decls I' ∧ OwnD y (markIm m).procs J' ∧ St u w' (I' ++ (J' ++ R)) := by
  refine of15 _ _ _ _ _ ?_
  unfold vc15
  unfold endIm at hn
  refine Trip.mono' (c_markDeclS hO hS (by omega) (by omega)) ?_
  rintro _ w1 ⟨I1, rfl, h1, hS⟩
  refine ⟨_, rfl, ?_⟩
  replace hS : St u w1 (J ++ (I1 ++ R)) := hS.perm (by
    classical
    exact List.perm_iff_count.2 fun a => by simp only [List.count_append]; omega)
  refine Trip.mono' (c_markProcS hP hS (by omega) (by omega)) ?_
  rintro _ w2 ⟨J1, rfl, h2, hS⟩
  refine ⟨_, rfl, I1, J1, rfl, h1, h2, hS.perm (by
    classical
    exact List.perm_iff_count.2 fun a => by simp only [List.count_append]; omega)⟩
/-! ### the law of EncodeImage -/
theorem encIm_len : (encIm m.decls m.procs).length ≤ 200000000000 := by
  unfold encIm
  split
  · rename_i hok
    obtain ⟨s1, s2, s3, s4⟩ := hok.sm
    have h1 := flat_le (f := encD) (B := 2000000000) m.decls fun d h => encD_len (s1 d h)
    have h2 := flat_le (f := encP) (B := 20000000000) m.procs fun d h => encP_len (s2 d h)
    unfold encM
    simp only [List.length_append, encN_len]
    omega
  · simp
theorem c_specEncodeImageI (hx : Read v x m.decls) (hy : Read v y m.procs) : Mk Try.prog 12 #[.agg #[x.val, y.val]] v fun r J => ∃ z, r = z.val ∧ OwnI z (encIm m.decls m.procs) J := by
  refine Trip.mono' (c_specEncodeImage hx hy) ?_
  rintro r w ⟨J, hS, y, e, hO⟩
  exact ⟨J, hS, y, e, hO.toI⟩
theorem c_implEncodeImageI (hx : Read v x m.decls) (hy : Read v y m.procs) : Mk Try.prog 13 #[.agg #[x.val, y.val]] v fun r J => ∃ z, r = z.val ∧ OwnI z (encIm m.decls m.procs) J := by
  refine Trip.mono' (c_implEncodeImage hx hy) ?_
  rintro r w ⟨J, hS, y, e, hO⟩
  exact ⟨J, hS, y, e, hO.toI⟩
end
theorem l_ExactEncodeImage {v : World} {x y : Sl} {m : ImD} (hx : ReadB BM v x m.decls) (hy : ReadB BM v y m.procs) :
    Trip Try.prog 4 #[.agg #[x.val, y.val]] v fun r v' => r = .bool true ∧ Sub v v' := by
  refine of4 _ _ _ _ ?_
  unfold vc4
  refine ⟨_, c_szImage (b := 1048576) hx hy (by omega) (by omega), fun hc => ⟨rfl, .refl v⟩, fun hc => ?_⟩
  simp only [decide_eq_true_eq, decide_eq_false_iff_not, Bool.and_eq_true, Bool.and_eq_false_iff, Bool.or_eq_true, Bool.or_eq_false_iff, Bool.not_eq_true', Bool.not_eq_false', Bool.not_true, Bool.not_false, Bool.false_eq_true, Bool.true_eq_false, Int.not_lt, Int.not_le, ge_iff_le, gt_iff_lt, Bool.not_eq_eq_eq_not, Bool.true_or, Bool.or_true, Bool.false_or, Bool.or_false, Bool.true_and, Bool.and_true, false_or, or_false, true_and, and_true, Decidable.not_not] at hc
  obtain ⟨b1, b2⟩ := szI_le hc
  replace hx : Read v x m.decls := hx.shr (by omega)
  replace hy : Read v y m.procs := hy.shr (by omega)
  have hendA : endIm m ≤ 100000000 := endIm_le (by omega)
  have hendA2 : 1 ≤ endIm m := endIm_pos m
  have hlR := encIm_len (m := m)
  refine Mk.use (c_toImageM hx hy) (.refl v) ?_
  rintro _ w1 _ ⟨x2, x3, J4, J5, rfl, h6, h7, rfl⟩ hS hsub
  replace hS : St v w1 (J4 ++ (J5 ++ [])) := hS.perm (by
    classical
    exact List.perm_iff_count.2 fun a => by (try simp only [List.count_append, List.count_nil]) <;> omega)
  refine ⟨_, _, rfl, ?_⟩
  replace hS : St v w1 ((J4 ++ (J5 ++ [])) ++ ([])) := hS.perm (by
    classical
    exact List.perm_iff_count.2 fun a => by (try simp only [List.count_append, List.count_nil]) <;> omega)
  obtain ⟨u8, hsu8, hS, hJ⟩ := hS.freeze (J4 ++ (J5 ++ []))
  have r9 : Read u8 x2 (m.decls) := OwnD.read1 h6 (hJ.to : St v u8 (J4 ++ [])).left
  have r10 : Read u8 x3 (m.procs) := OwnD.read1 h7 (hJ.to : St v u8 (J5 ++ [])).left
  clear hJ
  refine Mk.use (c_specEncodeImageI (m := m) r9 r10 ) hS ?_
  rintro _ w14 J13 ⟨x11, rfl, h12⟩ hS hsub
  replace hS : St u8 w14 (J13 ++ []) := hS.perm (by
    classical
    exact List.perm_iff_count.2 fun a => by (try simp only [List.count_append, List.count_nil]) <;> omega)
  replace hS : St u8 w14 ((J13 ++ []) ++ ([])) := hS.perm (by
    classical
    exact List.perm_iff_count.2 fun a => by (try simp only [List.count_append, List.count_nil]) <;> omega)
  obtain ⟨u15, hsu15, hS, hJ⟩ := hS.freeze (J13 ++ [])
  have r16 : Read u15 x11 ((encIm m.decls m.procs)) := OwnI.read1 (u := u8) h12 (hJ.to : St u8 u15 (J13 ++ [])).left
  clear hJ
  have hvu : Sub v u15 := hsu8.trans hsu15
  replace hx := hx.mono hvu
  replace hy := hy.mono hvu
  refine ⟨_, rfl, ?_⟩
  refine Mk.use (c_toImageM hx hy) hS ?_
  rintro _ w17 _ ⟨x18, x19, J20, J21, rfl, h22, h23, rfl⟩ hS hsub
  replace hS : St u15 w17 (J20 ++ (J21 ++ [])) := hS.perm (by
    classical
    exact List.perm_iff_count.2 fun a => by (try simp only [List.count_append, List.count_nil]) <;> omega)
  refine ⟨_, _, rfl, ?_⟩
  refine Mk.usew (c_implEncodeImageI (m := m) (OwnD.read h22 hS) (OwnD.read h23 hS) ) hS ?_
  rintro _ w27 J26 ⟨x24, rfl, h25⟩ hS hsub
  replace hS : St u15 w27 (J26 ++ (J20 ++ (J21 ++ []))) := hS.perm (by
    classical
    exact List.perm_iff_count.2 fun a => by (try simp only [List.count_append, List.count_nil]) <;> omega)
  refine ⟨_, rfl, _, c_eqIntS (l := (encIm m.decls m.procs)) (ws := (encIm m.decls m.procs)) (OwnI.read h25 hS) (r16.mono hS.sub), fun hc => ?_, fun _ => ?_⟩
  · simp at hc
  refine Mk.use (c_toImageM hx hy) hS ?_
  rintro _ w28 _ ⟨x29, x30, J31, J32, rfl, h33, h34, rfl⟩ hS hsub
  replace hS : St u15 w28 (J31 ++ (J32 ++ (J26 ++ (J20 ++ (J21 ++ []))))) := hS.perm (by
    classical
    exact List.perm_iff_count.2 fun a => by (try simp only [List.count_append, List.count_nil]) <;> omega)
  refine ⟨_, _, rfl, hsub, _, c_eqImageM (m := m) (m' := m) (OwnD.read h22 hS) (OwnD.read h23 hS) (OwnD.read h33 hS) (OwnD.read h34 hS), fun hc => ?_, fun _ => ?_⟩
  · simp at hc
  replace hS : St u15 w28 (J26 ++ (J20 ++ (J21 ++ []))) := hS.to
  replace hS : St u15 w28 (J20 ++ (J21 ++ (J26 ++ []))) := hS.perm (by
    classical
    exact List.perm_iff_count.2 fun a => by (try simp only [List.count_append, List.count_nil]) <;> omega)
  refine Trip.mono' (c_markImageM (m := m) h22 h23 hS (by omega)) ?_
  rintro _ w39 ⟨J35, J36, rfl, h37, h38, hS⟩
  refine ⟨_, rfl, _, fun _ => c_eqIntS (l := (encIm m.decls m.procs)) (ws := (encIm m.decls m.procs)) (OwnI.read h25 hS) (r16.mono hS.sub), fun hc => ?_, fun _ => ?_⟩
  · simp at hc
    omega
  replace hS : St u15 w39 (J26 ++ []) := hS.to
  replace hS : St u15 w39 (J26 ++ []) := hS.perm (by
    classical
    exact List.perm_iff_count.2 fun a => by (try simp only [List.count_append, List.count_nil]) <;> omega)
  refine Trip.mono' (c_markIntSI (l := (encIm m.decls m.procs)) h25 hS (by omega) (by omega)) ?_
  rintro _ w42 ⟨J40, rfl, h41, hS⟩
  refine ⟨_, rfl, _, c_heldIntS (OwnI.read h41 hS) (by omega) (by omega), fun hc => ?_, fun _ => ⟨fun hc => ?_, fun _ => ?_⟩⟩
  · simp only [decide_eq_true_eq, decide_eq_false_iff_not, Bool.and_eq_true, Bool.and_eq_false_iff, Bool.or_eq_true, Bool.or_eq_false_iff, Bool.not_eq_true', Bool.not_eq_false', Bool.not_true, Bool.not_false, Bool.false_eq_true, Bool.true_eq_false, Int.not_lt, Int.not_le, ge_iff_le, gt_iff_lt, Bool.not_eq_eq_eq_not, Bool.true_or, Bool.or_true, Bool.false_or, Bool.or_false, Bool.true_and, Bool.and_true, false_or, or_false, true_and, and_true, Decidable.not_not] at hc; omega
  · simp at hc
  refine Mk.use (c_toImageM hx hy) hS ?_
  rintro _ w43 _ ⟨x44, x45, J46, J47, rfl, h48, h49, rfl⟩ hS hsub
  replace hS : St u15 w43 (J46 ++ (J47 ++ (J40 ++ []))) := hS.perm (by
    classical
    exact List.perm_iff_count.2 fun a => by (try simp only [List.count_append, List.count_nil]) <;> omega)
  refine ⟨_, _, rfl, ?_⟩
  refine Mk.usew (c_implEncodeImageI (m := m) (OwnD.read h48 hS) (OwnD.read h49 hS) ) hS ?_
  rintro _ w53 J52 ⟨x50, rfl, h51⟩ hS hsub
  replace hS : St u15 w53 (J52 ++ (J46 ++ (J47 ++ (J40 ++ [])))) := hS.perm (by
    classical
    exact List.perm_iff_count.2 fun a => by (try simp only [List.count_append, List.count_nil]) <;> omega)
  refine ⟨_, rfl, _, c_eqIntS (l := (encIm m.decls m.procs)) (ws := (encIm m.decls m.procs)) (OwnI.read h51 hS) (r16.mono hS.sub), fun hc => ?_, fun _ => ?_⟩
  · simp at hc
  refine ⟨_, c_heldIntS (OwnI.read h41 hS) (by omega) (by omega), fun hc => ?_, fun _ => ⟨fun hc => ?_, fun _ => ⟨rfl, hvu.trans hS.sub⟩⟩⟩
  · simp only [decide_eq_true_eq, decide_eq_false_iff_not, Bool.and_eq_true, Bool.and_eq_false_iff, Bool.or_eq_true, Bool.or_eq_false_iff, Bool.not_eq_true', Bool.not_eq_false', Bool.not_true, Bool.not_false, Bool.false_eq_true, Bool.true_eq_false, Int.not_lt, Int.not_le, ge_iff_le, gt_iff_lt, Bool.not_eq_eq_eq_not, Bool.true_or, Bool.or_true, Bool.false_or, Bool.or_false, Bool.true_and, Bool.and_true, false_or, or_false, true_and, and_true, Decidable.not_not] at hc; omega
  · simp at hc
end Go.Vc
