/- Part of the proofs about the heaps and memories: a law is joined in the text whose name ends in W and the law. -/
import Derived.Test.YtjdgknhdphmgiaaEK6
namespace Go.Vc
open Go Go.Proofs Go.RowKit
set_option linter.all false
/-- a datum whose numbers are all told apart -/
class Mark (α : Type) where
  room : α → Nat
  mark : Int → α → α
def rooms {α : Type} [Mark α] (l : List α) : Nat := (l.map Mark.room).sum
def markL {α : Type} [Mark α] : Int → List α → List α
  | _, [] => []
  | n, a :: r => Mark.mark n a :: markL (n + Mark.room a) r
section
variable {α : Type} [Mark α]
theorem rooms_app (p q : List α) : rooms (p ++ q) = rooms p + rooms q := by unfold rooms; rw [List.map_append, List.sum_append]
theorem rooms_one (c : α) : rooms [c] = Mark.room c := by simp [rooms]
theorem rooms_cons (c : α) (r : List α) : rooms (c :: r) = Mark.room c + rooms r := by simp [rooms]
theorem markL_len (l : List α) : ∀ n : Int, (markL n l).length = l.length := by
  induction l with
  | nil => intro n; rfl
  | cons a r ih => intro n; simp [markL, ih]
theorem markL_app (p : List α) : ∀ (q : List α) (n : Int), markL n (p ++ q) = markL n p ++ markL (n + rooms p) q := by
  induction p with
  | nil => intro q n; simp [markL, rooms]
  | cons a r ih => intro q n; simp only [List.cons_append, markL, ih, rooms_cons]; congr 3; omega
theorem markL_snoc (p : List α) (c : α) (n : Int) : markL n (p ++ [c]) = markL n p ++ [Mark.mark (n + rooms p) c] := by rw [markL_app]; rfl
end

instance : Mark ConD := ⟨fun c => c.fields.length, fun n c => ⟨marks (n) c.fields.length⟩⟩
section
variable {u v w : World} {x y : Sl} {l m : List ConD} {n b i : Int} {I J L R : Items}
theorem c_markConS (hO : OwnD x l I) (hS : St u w (I ++ R)) (n0 : 0 ≤ n) (n1 : n + rooms l ≤ 1000000000000000) :
    Trip Try.prog 61 #[x.val, .int .i64 n] w fun r w' => ∃ I', r = .int .i64 (n + rooms l) ∧ OwnD x (markL n l) I' ∧ St u w' (I' ++ R) := by
  refine of61 _ _ _ _ ?_
  unfold vc61
  have hn := hO.n
  have hle0 := hO.le
  refine ⟨fun n3 i w => ∃ (p r : List ConD) (I : Items), l = p ++ r ∧ i = p.length ∧ n3 = n + rooms p ∧ OwnD x (markL n p ++ r) I ∧ St u w (I ++ R), fun _ i _ => (l.length - i).toNat, ⟨[], l, I, rfl, rfl, by simp [rooms], hO, hS⟩, ?_⟩
  clear hO hS
  rintro n3 i w ⟨p, r, I, hpr, rfl, rfl, hO, hS⟩
  dsimp only
  have hle : l.length = p.length + r.length := by rw [hpr, List.length_append]
  have hml := markL_len p n
  refine ⟨fun hi => ?_, fun hi => ?_⟩
  · simp only [decide_eq_true_eq, decide_eq_false_iff_not, Bool.and_eq_true, Bool.and_eq_false_iff, Bool.or_eq_true, Bool.or_eq_false_iff, Bool.not_eq_true', Bool.not_eq_false', Bool.not_true, Bool.not_false, Bool.false_eq_true, Bool.true_eq_false, Int.not_lt, Int.not_le, ge_iff_le, gt_iff_lt, Bool.not_eq_eq_eq_not, Bool.true_or, Bool.or_true, Bool.false_or, Bool.or_false, Bool.true_and, Bool.and_true, false_or, or_false, true_and, and_true, Decidable.not_not] at hi
    obtain ⟨c, r, rfl⟩ : ∃ c r', r = c :: r' := by
      cases r with
      | nil => simp at hle; omega
      | cons c r => exact ⟨c, r, rfl⟩
    simp only [List.length_cons] at hle
    have hrm : rooms l = rooms p + (Mark.room c + rooms r) := by rw [hpr, rooms_app, rooms_cons]
    have hroom : Mark.room c = c.fields.length := rfl
    have hi0 : (0 : Int) ≤ (p.length : Int) := by omega
    have hlt : ∀ d : ConD, (p.length : Int) < (markL n p ++ d :: r).length := fun d => by simp; omega
    have hpm : (p.length : Int) = (markL n p).length := by rw [hml]
    have hsn := markL_snoc p c n
    have hrs : rooms (p ++ [c]) = rooms p + Mark.room c := by rw [rooms_app, rooms_one]
    generalize he : n + (rooms p : Int) = e at *
    refine ⟨hO.ix hi0 (hlt _), ?_⟩
    obtain ⟨row, K, Rest, hrow, hperm, hcell, hput⟩ := hO.borrow hi0 (hlt _)
    rw [nth_mid _ _ _ hpm] at hrow
    obtain ⟨f_fields, K_fields, rfl, o_fields, rfl⟩ := hrow
    have hS2 : St u _ (K ++ (Rest ++ R)) := hS.perm (by
      classical
      have hc := hperm.count_eq
      exact List.perm_iff_count.2 fun a => by have := hc a; simp only [List.count_append] at *; omega)
    refine ⟨f_fields, hcell _ (hS2.items (I := Rest)) 0 _ rfl, ?_⟩
    refine Trip.mono' (c_markIntS (l := c.fields) (o_fields u) hS2 (by omega) (by omega)) ?_
    rintro _ w0 ⟨K'_fields, rfl, o'_fields, hS⟩
    replace hO := hput (⟨marks (e) c.fields.length⟩ : ConD) (K'_fields) ⟨f_fields, _, rfl, o'_fields.toAll, rfl⟩
    rw [set_mid _ _ _ _ hpm] at hO
    replace hS : St u w0 ((K'_fields ++ Rest) ++ R) := hS.perm (by
      classical
      exact List.perm_iff_count.2 fun a => by simp only [List.count_append]; omega)
    refine ⟨_, rfl, ?_⟩
    refine go_wr (by omega) (by omega) ?_
    refine ⟨⟨p ++ [c], r, _, by rw [hpr]; simp, by simp, by rw [hrs]; omega, ?_, hS⟩, by omega⟩
    rw [hsn, List.append_assoc]
    exact hO
  · simp only [decide_eq_true_eq, decide_eq_false_iff_not, Bool.and_eq_true, Bool.and_eq_false_iff, Bool.or_eq_true, Bool.or_eq_false_iff, Bool.not_eq_true', Bool.not_eq_false', Bool.not_true, Bool.not_false, Bool.false_eq_true, Bool.true_eq_false, Int.not_lt, Int.not_le, ge_iff_le, gt_iff_lt, Bool.not_eq_eq_eq_not, Bool.true_or, Bool.or_true, Bool.false_or, Bool.or_false, Bool.true_and, Bool.and_true, false_or, or_false, true_and, and_true, Decidable.not_not] at hi
    have hr : r = [] := List.eq_nil_of_length_eq_zero (by omega)
    subst hr
    rw [List.append_nil] at hpr hO
    subst hpr
    exact ⟨I, rfl, hO, hS⟩
theorem c_heldConS (hx : Read v x (markL n l)) (n0 : 0 ≤ n) (n1 : n + rooms l ≤ 1000000000000000) : Fn Try.prog 69 #[x.val, .int .i64 n] v (.int .i64 (n + rooms l)) := by
  refine of69 _ _ _ _ ?_
  unfold vc69
  have hn := hx.n
  have hle0 := hx.le
  rw [markL_len] at hn hle0
  refine ⟨fun n3 i w => ∃ (p r : List ConD), l = p ++ r ∧ i = p.length ∧ n3 = n + rooms p ∧ Sub v w, fun _ i _ => (l.length - i).toNat, ⟨[], l, rfl, rfl, by simp [rooms], .refl v⟩, ?_⟩
  rintro n3 i w ⟨p, r, hpr, rfl, rfl, hs⟩
  dsimp only
  have hle : l.length = p.length + r.length := by rw [hpr, List.length_append]
  have hml := markL_len p n
  refine ⟨fun hi => ?_, fun hi => ?_⟩
  · simp only [decide_eq_true_eq, decide_eq_false_iff_not, Bool.and_eq_true, Bool.and_eq_false_iff, Bool.or_eq_true, Bool.or_eq_false_iff, Bool.not_eq_true', Bool.not_eq_false', Bool.not_true, Bool.not_false, Bool.false_eq_true, Bool.true_eq_false, Int.not_lt, Int.not_le, ge_iff_le, gt_iff_lt, Bool.not_eq_eq_eq_not, Bool.true_or, Bool.or_true, Bool.false_or, Bool.or_false, Bool.true_and, Bool.and_true, false_or, or_false, true_and, and_true, Decidable.not_not] at hi
    obtain ⟨c, r, rfl⟩ : ∃ c r', r = c :: r' := by
      cases r with
      | nil => simp at hle; omega
      | cons c r => exact ⟨c, r, rfl⟩
    simp only [List.length_cons] at hle
    have hrm : rooms l = rooms p + (Mark.room c + rooms r) := by rw [hpr, rooms_app, rooms_cons]
    have hroom : Mark.room c = c.fields.length := rfl
    have hi0 : (0 : Int) ≤ (p.length : Int) := by omega
    have hlt : (p.length : Int) < (markL n l).length := by rw [markL_len]; omega
    have hrs : rooms (p ++ [c]) = rooms p + Mark.room c := by rw [rooms_app, rooms_one]
    have hnth : nth (markL n l) (p.length : Int) = Mark.mark (n + rooms p) c := by
      rw [hpr, markL_app]
      exact nth_mid _ _ _ (by rw [hml])
    generalize he : n + (rooms p : Int) = e at *
    replace hnth : nth (markL n l) (p.length : Int) = (⟨marks (e) c.fields.length⟩ : ConD) := hnth
    refine go_ix hx hi0 hlt ?_
    refine ld_con_fields (hx.src hs) hi0 hlt ?_
    rw [hnth]
    intro f0 hf0
    replace hf0 := hf0.mono hs
    refine ⟨_, c_heldIntS hf0 (by omega) (by omega), fun hc => ?_, fun _ => ?_⟩
    · simp only [decide_eq_true_eq, decide_eq_false_iff_not, Bool.and_eq_true, Bool.and_eq_false_iff, Bool.or_eq_true, Bool.or_eq_false_iff, Bool.not_eq_true', Bool.not_eq_false', Bool.not_true, Bool.not_false, Bool.false_eq_true, Bool.true_eq_false, Int.not_lt, Int.not_le, ge_iff_le, gt_iff_lt, Bool.not_eq_eq_eq_not, Bool.true_or, Bool.or_true, Bool.false_or, Bool.or_false, Bool.true_and, Bool.and_true, false_or, or_false, true_and, and_true, Decidable.not_not] at hc; omega
    refine go_wr (by omega) (by omega) ?_
    exact ⟨⟨p ++ [c], r, by rw [hpr]; simp, by simp, by rw [hrs]; omega, hs⟩, by omega⟩
  · simp only [decide_eq_true_eq, decide_eq_false_iff_not, Bool.and_eq_true, Bool.and_eq_false_iff, Bool.or_eq_true, Bool.or_eq_false_iff, Bool.not_eq_true', Bool.not_eq_false', Bool.not_true, Bool.not_false, Bool.false_eq_true, Bool.true_eq_false, Int.not_lt, Int.not_le, ge_iff_le, gt_iff_lt, Bool.not_eq_eq_eq_not, Bool.true_or, Bool.or_true, Bool.false_or, Bool.or_false, Bool.true_and, Bool.and_true, false_or, or_false, true_and, and_true, Decidable.not_not] at hi
    have hr : r = [] := List.eq_nil_of_length_eq_zero (by omega)
    subst hr
    rw [List.append_nil] at hpr
    subst hpr
    exact ⟨rfl, hs⟩
end

instance : Mark DeclD := ⟨fun c => 1 + 1 + rooms c.cons, fun n c => ⟨n, n + 1, markL (n + 1 + 1) c.cons⟩⟩
section
variable {u v w : World} {x y : Sl} {l m : List DeclD} {n b i : Int} {I J L R : Items}
theorem c_markDeclS (hO : OwnD x l I) (hS : St u w (I ++ R)) (n0 : 0 ≤ n) (n1 : n + rooms l ≤ 1000000000000000) :
    Trip Try.prog 34 #[x.val, .int .i64 n] w fun r w' => ∃ I', r = .int .i64 (n + rooms l) ∧ OwnD x (markL n l) I' ∧ St u w' (I' ++ R) := by
  refine of34 _ _ _ _ ?_
  unfold vc34
  have hn := hO.n
  have hle0 := hO.le
  refine ⟨fun n3 i w => ∃ (p r : List DeclD) (I : Items), l = p ++ r ∧ i = p.length ∧ n3 = n + rooms p ∧ OwnD x (markL n p ++ r) I ∧ St u w (I ++ R), fun _ i _ => (l.length - i).toNat, ⟨[], l, I, rfl, rfl, by simp [rooms], hO, hS⟩, ?_⟩
  clear hO hS
  rintro n3 i w ⟨p, r, I, hpr, rfl, rfl, hO, hS⟩
  dsimp only
  have hle : l.length = p.length + r.length := by rw [hpr, List.length_append]
  have hml := markL_len p n
  refine ⟨fun hi => ?_, fun hi => ?_⟩
  · simp only [decide_eq_true_eq, decide_eq_false_iff_not, Bool.and_eq_true, Bool.and_eq_false_iff, Bool.or_eq_true, Bool.or_eq_false_iff, Bool.not_eq_true', Bool.not_eq_false', Bool.not_true, Bool.not_false, Bool.false_eq_true, Bool.true_eq_false, Int.not_lt, Int.not_le, ge_iff_le, gt_iff_lt, Bool.not_eq_eq_eq_not, Bool.true_or, Bool.or_true, Bool.false_or, Bool.or_false, Bool.true_and, Bool.and_true, false_or, or_false, true_and, and_true, Decidable.not_not] at hi
    obtain ⟨c, r, rfl⟩ : ∃ c r', r = c :: r' := by
      cases r with
      | nil => simp at hle; omega
      | cons c r => exact ⟨c, r, rfl⟩
    simp only [List.length_cons] at hle
    have hrm : rooms l = rooms p + (Mark.room c + rooms r) := by rw [hpr, rooms_app, rooms_cons]
    have hroom : Mark.room c = 1 + 1 + rooms c.cons := rfl
    have hi0 : (0 : Int) ≤ (p.length : Int) := by omega
    have hlt : ∀ d : DeclD, (p.length : Int) < (markL n p ++ d :: r).length := fun d => by simp; omega
    have hpm : (p.length : Int) = (markL n p).length := by rw [hml]
    have hsn := markL_snoc p c n
    have hrs : rooms (p ++ [c]) = rooms p + Mark.room c := by rw [rooms_app, rooms_one]
    generalize he : n + (rooms p : Int) = e at *
    refine ⟨hO.ix hi0 (hlt _), ?_⟩
    refine OwnD.store hO hS hi0 (hlt _) (⟨e, c.to_, c.cons⟩ : DeclD) [] (Nat.le_of_ble_eq_true rfl) (fun r' K hr => ?_) ?_
    · rw [nth_mid _ _ _ hpm] at hr
      obtain ⟨f_cons, K_cons, rfl, q_frm, q_to_, o_cons, rfl⟩ := hr
      exact ⟨_, ⟨f_cons, _, rfl, (show InI (e) from ⟨by omega, by omega⟩), q_to_, o_cons, rfl⟩, .inr ⟨rfl, rfl⟩⟩
    intro w0 I0 hO hS
    rw [List.append_nil, set_mid _ _ _ _ hpm] at hO
    refine go_wr (by omega) (by omega) ?_
    refine ⟨hO.ix hi0 (hlt _), ?_⟩
    refine OwnD.store hO hS hi0 (hlt _) (⟨e, e + 1, c.cons⟩ : DeclD) [] (Nat.le_of_ble_eq_true rfl) (fun r' K hr => ?_) ?_
    · rw [nth_mid _ _ _ hpm] at hr
      obtain ⟨f_cons, K_cons, rfl, q_frm, q_to_, o_cons, rfl⟩ := hr
      exact ⟨_, ⟨f_cons, _, rfl, q_frm, (show InI (e + 1) from ⟨by omega, by omega⟩), o_cons, rfl⟩, .inr ⟨rfl, rfl⟩⟩
    intro w1 I1 hO hS
    rw [List.append_nil, set_mid _ _ _ _ hpm] at hO
    refine go_wr (by omega) (by omega) ?_
    refine ⟨hO.ix hi0 (hlt _), ?_⟩
    obtain ⟨row, K, Rest, hrow, hperm, hcell, hput⟩ := hO.borrow hi0 (hlt _)
    rw [nth_mid _ _ _ hpm] at hrow
    obtain ⟨f_cons, K_cons, rfl, q_frm, q_to_, o_cons, rfl⟩ := hrow
    have hS2 : St u _ (K ++ (Rest ++ R)) := hS.perm (by
      classical
      have hc := hperm.count_eq
      exact List.perm_iff_count.2 fun a => by have := hc a; simp only [List.count_append] at *; omega)
    refine ⟨f_cons, hcell _ (hS2.items (I := Rest)) 2 _ rfl, ?_⟩
    refine Trip.mono' (c_markConS (l := c.cons) o_cons hS2 (by omega) (by omega)) ?_
    rintro _ w2 ⟨K'_cons, rfl, o'_cons, hS⟩
    replace hO := hput (⟨e, e + 1, markL (e + 1 + 1) c.cons⟩ : DeclD) (K'_cons) ⟨f_cons, _, rfl, q_frm, q_to_, o'_cons, rfl⟩
    rw [set_mid _ _ _ _ hpm] at hO
    replace hS : St u w2 ((K'_cons ++ Rest) ++ R) := hS.perm (by
      classical
      exact List.perm_iff_count.2 fun a => by simp only [List.count_append]; omega)
    refine ⟨_, rfl, ?_⟩
    refine go_wr (by omega) (by omega) ?_
    refine ⟨⟨p ++ [c], r, _, by rw [hpr]; simp, by simp, by rw [hrs]; omega, ?_, hS⟩, by omega⟩
    rw [hsn, List.append_assoc]
    exact hO
  · simp only [decide_eq_true_eq, decide_eq_false_iff_not, Bool.and_eq_true, Bool.and_eq_false_iff, Bool.or_eq_true, Bool.or_eq_false_iff, Bool.not_eq_true', Bool.not_eq_false', Bool.not_true, Bool.not_false, Bool.false_eq_true, Bool.true_eq_false, Int.not_lt, Int.not_le, ge_iff_le, gt_iff_lt, Bool.not_eq_eq_eq_not, Bool.true_or, Bool.or_true, Bool.false_or, Bool.or_false, Bool.true_and, Bool.and_true, false_or, or_false, true_and, and_true, Decidable.not_not] at hi
    have hr : r = [] := List.eq_nil_of_length_eq_zero (by omega)
    subst hr
    rw [List.append_nil] at hpr hO
    subst hpr
    exact ⟨I, rfl, hO, hS⟩
theorem c_heldDeclS (hx : Read v x (markL n l)) (n0 : 0 ≤ n) (n1 : n + rooms l ≤ 1000000000000000) : Fn Try.prog 39 #[x.val, .int .i64 n] v (.int .i64 (n + rooms l)) := by
  refine of39 _ _ _ _ ?_
  unfold vc39
  have hn := hx.n
  have hle0 := hx.le
  rw [markL_len] at hn hle0
  refine ⟨fun n3 i w => ∃ (p r : List DeclD), l = p ++ r ∧ i = p.length ∧ n3 = n + rooms p ∧ Sub v w, fun _ i _ => (l.length - i).toNat, ⟨[], l, rfl, rfl, by simp [rooms], .refl v⟩, ?_⟩
  rintro n3 i w ⟨p, r, hpr, rfl, rfl, hs⟩
  dsimp only
  have hle : l.length = p.length + r.length := by rw [hpr, List.length_append]
  have hml := markL_len p n
  refine ⟨fun hi => ?_, fun hi => ?_⟩
  · simp only [decide_eq_true_eq, decide_eq_false_iff_not, Bool.and_eq_true, Bool.and_eq_false_iff, Bool.or_eq_true, Bool.or_eq_false_iff, Bool.not_eq_true', Bool.not_eq_false', Bool.not_true, Bool.not_false, Bool.false_eq_true, Bool.true_eq_false, Int.not_lt, Int.not_le, ge_iff_le, gt_iff_lt, Bool.not_eq_eq_eq_not, Bool.true_or, Bool.or_true, Bool.false_or, Bool.or_false, Bool.true_and, Bool.and_true, false_or, or_false, true_and, and_true, Decidable.not_not] at hi
    obtain ⟨c, r, rfl⟩ : ∃ c r', r = c :: r' := by
      cases r with
      | nil => simp at hle; omega
      | cons c r => exact ⟨c, r, rfl⟩
    simp only [List.length_cons] at hle
    have hrm : rooms l = rooms p + (Mark.room c + rooms r) := by rw [hpr, rooms_app, rooms_cons]
    have hroom : Mark.room c = 1 + 1 + rooms c.cons := rfl
    have hi0 : (0 : Int) ≤ (p.length : Int) := by omega
    have hlt : (p.length : Int) < (markL n l).length := by rw [markL_len]; omega
    have hrs : rooms (p ++ [c]) = rooms p + Mark.room c := by rw [rooms_app, rooms_one]
    have hnth : nth (markL n l) (p.length : Int) = Mark.mark (n + rooms p) c := by
      rw [hpr, markL_app]
      exact nth_mid _ _ _ (by rw [hml])
    generalize he : n + (rooms p : Int) = e at *
    replace hnth : nth (markL n l) (p.length : Int) = (⟨e, e + 1, markL (e + 1 + 1) c.cons⟩ : DeclD) := hnth
    refine go_ix hx hi0 hlt ?_
    refine ld_decl_frm (hx.src hs) hi0 hlt ?_
    rw [hnth]
    intro _ _
    refine ⟨fun hc => ?_, fun _ => ?_⟩
    · simp only [decide_eq_true_eq, decide_eq_false_iff_not, Bool.and_eq_true, Bool.and_eq_false_iff, Bool.or_eq_true, Bool.or_eq_false_iff, Bool.not_eq_true', Bool.not_eq_false', Bool.not_true, Bool.not_false, Bool.false_eq_true, Bool.true_eq_false, Int.not_lt, Int.not_le, ge_iff_le, gt_iff_lt, Bool.not_eq_eq_eq_not, Bool.true_or, Bool.or_true, Bool.false_or, Bool.or_false, Bool.true_and, Bool.and_true, false_or, or_false, true_and, and_true, Decidable.not_not] at hc; exact (hc trivial).elim
    refine go_wr (by omega) (by omega) ?_
    refine go_ix hx hi0 hlt ?_
    refine ld_decl_to_ (hx.src hs) hi0 hlt ?_
    rw [hnth]
    intro _ _
    refine ⟨fun hc => ?_, fun _ => ?_⟩
    · simp only [decide_eq_true_eq, decide_eq_false_iff_not, Bool.and_eq_true, Bool.and_eq_false_iff, Bool.or_eq_true, Bool.or_eq_false_iff, Bool.not_eq_true', Bool.not_eq_false', Bool.not_true, Bool.not_false, Bool.false_eq_true, Bool.true_eq_false, Int.not_lt, Int.not_le, ge_iff_le, gt_iff_lt, Bool.not_eq_eq_eq_not, Bool.true_or, Bool.or_true, Bool.false_or, Bool.or_false, Bool.true_and, Bool.and_true, false_or, or_false, true_and, and_true, Decidable.not_not] at hc; exact (hc trivial).elim
    refine go_wr (by omega) (by omega) ?_
    refine go_ix hx hi0 hlt ?_
    refine ld_decl_cons (hx.src hs) hi0 hlt ?_
    rw [hnth]
    intro f2 hf2
    replace hf2 := hf2.mono hs
    refine ⟨_, c_heldConS hf2 (by omega) (by omega), fun hc => ?_, fun _ => ?_⟩
    · simp only [decide_eq_true_eq, decide_eq_false_iff_not, Bool.and_eq_true, Bool.and_eq_false_iff, Bool.or_eq_true, Bool.or_eq_false_iff, Bool.not_eq_true', Bool.not_eq_false', Bool.not_true, Bool.not_false, Bool.false_eq_true, Bool.true_eq_false, Int.not_lt, Int.not_le, ge_iff_le, gt_iff_lt, Bool.not_eq_eq_eq_not, Bool.true_or, Bool.or_true, Bool.false_or, Bool.or_false, Bool.true_and, Bool.and_true, false_or, or_false, true_and, and_true, Decidable.not_not] at hc; omega
    refine go_wr (by omega) (by omega) ?_
    exact ⟨⟨p ++ [c], r, by rw [hpr]; simp, by simp, by rw [hrs]; omega, hs⟩, by omega⟩
  · simp only [decide_eq_true_eq, decide_eq_false_iff_not, Bool.and_eq_true, Bool.and_eq_false_iff, Bool.or_eq_true, Bool.or_eq_false_iff, Bool.not_eq_true', Bool.not_eq_false', Bool.not_true, Bool.not_false, Bool.false_eq_true, Bool.true_eq_false, Int.not_lt, Int.not_le, ge_iff_le, gt_iff_lt, Bool.not_eq_eq_eq_not, Bool.true_or, Bool.or_true, Bool.false_or, Bool.or_false, Bool.true_and, Bool.and_true, false_or, or_false, true_and, and_true, Decidable.not_not] at hi
    have hr : r = [] := List.eq_nil_of_length_eq_zero (by omega)
    subst hr
    rw [List.append_nil] at hpr
    subst hpr
    exact ⟨rfl, hs⟩
end

instance : Mark InstrD := ⟨fun c => 1 + 1 + 1 + 1 + c.args.length + c.jumps.length, fun n c => ⟨n, n + 1, n + 1 + 1, n + 1 + 1 + 1, marks (n + 1 + 1 + 1 + 1) c.args.length, marks (n + 1 + 1 + 1 + 1 + c.args.length) c.jumps.length⟩⟩
section
variable {u v w : World} {x y : Sl} {l m : List InstrD} {n b i : Int} {I J L R : Items}
theorem c_markInstrS (hO : OwnD x l I) (hS : St u w (I ++ R)) (n0 : 0 ≤ n) (n1 : n + rooms l ≤ 1000000000000000) :
    Trip Try.prog 62 #[x.val, .int .i64 n] w fun r w' => ∃ I', r = .int .i64 (n + rooms l) ∧ OwnD x (markL n l) I' ∧ St u w' (I' ++ R) := by
  refine of62 _ _ _ _ ?_
  unfold vc62
  have hn := hO.n
  have hle0 := hO.le
  refine ⟨fun n3 i w => ∃ (p r : List InstrD) (I : Items), l = p ++ r ∧ i = p.length ∧ n3 = n + rooms p ∧ OwnD x (markL n p ++ r) I ∧ St u w (I ++ R), fun _ i _ => (l.length - i).toNat, ⟨[], l, I, rfl, rfl, by simp [rooms], hO, hS⟩, ?_⟩
  clear hO hS
  rintro n3 i w ⟨p, r, I, hpr, rfl, rfl, hO, hS⟩
  dsimp only
  have hle : l.length = p.length + r.length := by rw [hpr, List.length_append]
  have hml := markL_len p n
  refine ⟨fun hi => ?_, fun hi => ?_⟩
  · simp only [decide_eq_true_eq, decide_eq_false_iff_not, Bool.and_eq_true, Bool.and_eq_false_iff, Bool.or_eq_true, Bool.or_eq_false_iff, Bool.not_eq_true', Bool.not_eq_false', Bool.not_true, Bool.not_false, Bool.false_eq_true, Bool.true_eq_false, Int.not_lt, Int.not_le, ge_iff_le, gt_iff_lt, Bool.not_eq_eq_eq_not, Bool.true_or, Bool.or_true, Bool.false_or, Bool.or_false, Bool.true_and, Bool.and_true, false_or, or_false, true_and, and_true, Decidable.not_not] at hi
    obtain ⟨c, r, rfl⟩ : ∃ c r', r = c :: r' := by
      cases r with
      | nil => simp at hle; omega
      | cons c r => exact ⟨c, r, rfl⟩
    simp only [List.length_cons] at hle
    have hrm : rooms l = rooms p + (Mark.room c + rooms r) := by rw [hpr, rooms_app, rooms_cons]
    have hroom : Mark.room c = 1 + 1 + 1 + 1 + c.args.length + c.jumps.length := rfl
    have hi0 : (0 : Int) ≤ (p.length : Int) := by omega
    have hlt : ∀ d : InstrD, (p.length : Int) < (markL n p ++ d :: r).length := fun d => by simp; omega
    have hpm : (p.length : Int) = (markL n p).length := by rw [hml]
    have hsn := markL_snoc p c n
    have hrs : rooms (p ++ [c]) = rooms p + Mark.room c := by rw [rooms_app, rooms_one]
    generalize he : n + (rooms p : Int) = e at *
    refine ⟨hO.ix hi0 (hlt _), ?_⟩
    refine OwnD.store hO hS hi0 (hlt _) (⟨e, c.dst, c.num, c.into, c.args, c.jumps⟩ : InstrD) [] (Nat.le_of_ble_eq_true rfl) (fun r' K hr => ?_) ?_
    · rw [nth_mid _ _ _ hpm] at hr
      obtain ⟨f_args, f_jumps, K_args, K_jumps, rfl, q_op, q_dst, q_num, q_into, o_args, o_jumps, rfl⟩ := hr
      exact ⟨_, ⟨f_args, f_jumps, _, _, rfl, (show InI (e) from ⟨by omega, by omega⟩), q_dst, q_num, q_into, o_args, o_jumps, rfl⟩, .inr ⟨rfl, rfl⟩⟩
    intro w0 I0 hO hS
    rw [List.append_nil, set_mid _ _ _ _ hpm] at hO
    refine go_wr (by omega) (by omega) ?_
    refine ⟨hO.ix hi0 (hlt _), ?_⟩
    refine OwnD.store hO hS hi0 (hlt _) (⟨e, e + 1, c.num, c.into, c.args, c.jumps⟩ : InstrD) [] (Nat.le_of_ble_eq_true rfl) (fun r' K hr => ?_) ?_
    · rw [nth_mid _ _ _ hpm] at hr
      obtain ⟨f_args, f_jumps, K_args, K_jumps, rfl, q_op, q_dst, q_num, q_into, o_args, o_jumps, rfl⟩ := hr
      exact ⟨_, ⟨f_args, f_jumps, _, _, rfl, q_op, (show InI (e + 1) from ⟨by omega, by omega⟩), q_num, q_into, o_args, o_jumps, rfl⟩, .inr ⟨rfl, rfl⟩⟩
    intro w1 I1 hO hS
    rw [List.append_nil, set_mid _ _ _ _ hpm] at hO
    refine go_wr (by omega) (by omega) ?_
    refine ⟨hO.ix hi0 (hlt _), ?_⟩
    refine OwnD.store hO hS hi0 (hlt _) (⟨e, e + 1, e + 1 + 1, c.into, c.args, c.jumps⟩ : InstrD) [] (Nat.le_of_ble_eq_true rfl) (fun r' K hr => ?_) ?_
    · rw [nth_mid _ _ _ hpm] at hr
      obtain ⟨f_args, f_jumps, K_args, K_jumps, rfl, q_op, q_dst, q_num, q_into, o_args, o_jumps, rfl⟩ := hr
      exact ⟨_, ⟨f_args, f_jumps, _, _, rfl, q_op, q_dst, (show InI (e + 1 + 1) from ⟨by omega, by omega⟩), q_into, o_args, o_jumps, rfl⟩, .inr ⟨rfl, rfl⟩⟩
    intro w2 I2 hO hS
    rw [List.append_nil, set_mid _ _ _ _ hpm] at hO
    refine go_wr (by omega) (by omega) ?_
    refine ⟨hO.ix hi0 (hlt _), ?_⟩
    refine OwnD.store hO hS hi0 (hlt _) (⟨e, e + 1, e + 1 + 1, e + 1 + 1 + 1, c.args, c.jumps⟩ : InstrD) [] (Nat.le_of_ble_eq_true rfl) (fun r' K hr => ?_) ?_
    · rw [nth_mid _ _ _ hpm] at hr
      obtain ⟨f_args, f_jumps, K_args, K_jumps, rfl, q_op, q_dst, q_num, q_into, o_args, o_jumps, rfl⟩ := hr
      exact ⟨_, ⟨f_args, f_jumps, _, _, rfl, q_op, q_dst, q_num, (show InI (e + 1 + 1 + 1) from ⟨by omega, by omega⟩), o_args, o_jumps, rfl⟩, .inr ⟨rfl, rfl⟩⟩
    intro w3 I3 hO hS
    rw [List.append_nil, set_mid _ _ _ _ hpm] at hO
    refine go_wr (by omega) (by omega) ?_
    refine ⟨hO.ix hi0 (hlt _), ?_⟩
    obtain ⟨row, K, Rest, hrow, hperm, hcell, hput⟩ := hO.borrow hi0 (hlt _)
    rw [nth_mid _ _ _ hpm] at hrow
    obtain ⟨f_args, f_jumps, K_args, K_jumps, rfl, q_op, q_dst, q_num, q_into, o_args, o_jumps, rfl⟩ := hrow
    have hS2 : St u _ (K_args ++ (K_jumps ++ (Rest ++ R))) := hS.perm (by
      classical
      have hc := hperm.count_eq
      exact List.perm_iff_count.2 fun a => by have := hc a; simp only [List.count_append] at *; omega)
    refine ⟨f_args, hcell _ (hS2.items (I := Rest)) 4 _ rfl, ?_⟩
    refine Trip.mono' (c_markIntS (l := c.args) (o_args u) hS2 (by omega) (by omega)) ?_
    rintro _ w4 ⟨K'_args, rfl, o'_args, hS⟩
    replace hO := hput (⟨e, e + 1, e + 1 + 1, e + 1 + 1 + 1, marks (e + 1 + 1 + 1 + 1) c.args.length, c.jumps⟩ : InstrD) (K'_args ++ K_jumps) ⟨f_args, f_jumps, _, _, rfl, q_op, q_dst, q_num, q_into, o'_args.toAll, o_jumps, rfl⟩
    rw [set_mid _ _ _ _ hpm] at hO
    replace hS : St u w4 (((K'_args ++ K_jumps) ++ Rest) ++ R) := hS.perm (by
      classical
      exact List.perm_iff_count.2 fun a => by simp only [List.count_append]; omega)
    refine ⟨_, rfl, ?_⟩
    refine ⟨hO.ix hi0 (hlt _), ?_⟩
    obtain ⟨row, K, Rest, hrow, hperm, hcell, hput⟩ := hO.borrow hi0 (hlt _)
    rw [nth_mid _ _ _ hpm] at hrow
    obtain ⟨f_args, f_jumps, K_args, K_jumps, rfl, q_op, q_dst, q_num, q_into, o_args, o_jumps, rfl⟩ := hrow
    have hS2 : St u _ (K_jumps ++ (K_args ++ (Rest ++ R))) := hS.perm (by
      classical
      have hc := hperm.count_eq
      exact List.perm_iff_count.2 fun a => by have := hc a; simp only [List.count_append] at *; omega)
    refine ⟨f_jumps, hcell _ (hS2.items (I := Rest)) 5 _ rfl, ?_⟩
    refine Trip.mono' (c_markIntS (l := c.jumps) (o_jumps u) hS2 (by omega) (by omega)) ?_
    rintro _ w5 ⟨K'_jumps, rfl, o'_jumps, hS⟩
    replace hO := hput (⟨e, e + 1, e + 1 + 1, e + 1 + 1 + 1, marks (e + 1 + 1 + 1 + 1) c.args.length, marks (e + 1 + 1 + 1 + 1 + c.args.length) c.jumps.length⟩ : InstrD) (K_args ++ K'_jumps) ⟨f_args, f_jumps, _, _, rfl, q_op, q_dst, q_num, q_into, o_args, o'_jumps.toAll, rfl⟩
    rw [set_mid _ _ _ _ hpm] at hO
    replace hS : St u w5 (((K_args ++ K'_jumps) ++ Rest) ++ R) := hS.perm (by
      classical
      exact List.perm_iff_count.2 fun a => by simp only [List.count_append]; omega)
    refine ⟨_, rfl, ?_⟩
    refine go_wr (by omega) (by omega) ?_
    refine ⟨⟨p ++ [c], r, _, by rw [hpr]; simp, by simp, by rw [hrs]; omega, ?_, hS⟩, by omega⟩
    rw [hsn, List.append_assoc]
    exact hO
  · simp only [decide_eq_true_eq, decide_eq_false_iff_not, Bool.and_eq_true, Bool.and_eq_false_iff, Bool.or_eq_true, Bool.or_eq_false_iff, Bool.not_eq_true', Bool.not_eq_false', Bool.not_true, Bool.not_false, Bool.false_eq_true, Bool.true_eq_false, Int.not_lt, Int.not_le, ge_iff_le, gt_iff_lt, Bool.not_eq_eq_eq_not, Bool.true_or, Bool.or_true, Bool.false_or, Bool.or_false, Bool.true_and, Bool.and_true, false_or, or_false, true_and, and_true, Decidable.not_not] at hi
    have hr : r = [] := List.eq_nil_of_length_eq_zero (by omega)
    subst hr
    rw [List.append_nil] at hpr hO
    subst hpr
    exact ⟨I, rfl, hO, hS⟩
theorem c_heldInstrS (hx : Read v x (markL n l)) (n0 : 0 ≤ n) (n1 : n + rooms l ≤ 1000000000000000) : Fn Try.prog 70 #[x.val, .int .i64 n] v (.int .i64 (n + rooms l)) := by
  refine of70 _ _ _ _ ?_
  unfold vc70
  have hn := hx.n
  have hle0 := hx.le
  rw [markL_len] at hn hle0
  refine ⟨fun n3 i w => ∃ (p r : List InstrD), l = p ++ r ∧ i = p.length ∧ n3 = n + rooms p ∧ Sub v w, fun _ i _ => (l.length - i).toNat, ⟨[], l, rfl, rfl, by simp [rooms], .refl v⟩, ?_⟩
  rintro n3 i w ⟨p, r, hpr, rfl, rfl, hs⟩
  dsimp only
  have hle : l.length = p.length + r.length := by rw [hpr, List.length_append]
  have hml := markL_len p n
  refine ⟨fun hi => ?_, fun hi => ?_⟩
  · simp only [decide_eq_true_eq, decide_eq_false_iff_not, Bool.and_eq_true, Bool.and_eq_false_iff, Bool.or_eq_true, Bool.or_eq_false_iff, Bool.not_eq_true', Bool.not_eq_false', Bool.not_true, Bool.not_false, Bool.false_eq_true, Bool.true_eq_false, Int.not_lt, Int.not_le, ge_iff_le, gt_iff_lt, Bool.not_eq_eq_eq_not, Bool.true_or, Bool.or_true, Bool.false_or, Bool.or_false, Bool.true_and, Bool.and_true, false_or, or_false, true_and, and_true, Decidable.not_not] at hi
    obtain ⟨c, r, rfl⟩ : ∃ c r', r = c :: r' := by
      cases r with
      | nil => simp at hle; omega
      | cons c r => exact ⟨c, r, rfl⟩
    simp only [List.length_cons] at hle
    have hrm : rooms l = rooms p + (Mark.room c + rooms r) := by rw [hpr, rooms_app, rooms_cons]
    have hroom : Mark.room c = 1 + 1 + 1 + 1 + c.args.length + c.jumps.length := rfl
    have hi0 : (0 : Int) ≤ (p.length : Int) := by omega
    have hlt : (p.length : Int) < (markL n l).length := by rw [markL_len]; omega
    have hrs : rooms (p ++ [c]) = rooms p + Mark.room c := by rw [rooms_app, rooms_one]
    have hnth : nth (markL n l) (p.length : Int) = Mark.mark (n + rooms p) c := by
      rw [hpr, markL_app]
      exact nth_mid _ _ _ (by rw [hml])
    generalize he : n + (rooms p : Int) = e at *
    replace hnth : nth (markL n l) (p.length : Int) = (⟨e, e + 1, e + 1 + 1, e + 1 + 1 + 1, marks (e + 1 + 1 + 1 + 1) c.args.length, marks (e + 1 + 1 + 1 + 1 + c.args.length) c.jumps.length⟩ : InstrD) := hnth
    refine go_ix hx hi0 hlt ?_
    refine ld_instr_op (hx.src hs) hi0 hlt ?_
    rw [hnth]
    intro _ _
    refine ⟨fun hc => ?_, fun _ => ?_⟩
    · simp only [decide_eq_true_eq, decide_eq_false_iff_not, Bool.and_eq_true, Bool.and_eq_false_iff, Bool.or_eq_true, Bool.or_eq_false_iff, Bool.not_eq_true', Bool.not_eq_false', Bool.not_true, Bool.not_false, Bool.false_eq_true, Bool.true_eq_false, Int.not_lt, Int.not_le, ge_iff_le, gt_iff_lt, Bool.not_eq_eq_eq_not, Bool.true_or, Bool.or_true, Bool.false_or, Bool.or_false, Bool.true_and, Bool.and_true, false_or, or_false, true_and, and_true, Decidable.not_not] at hc; exact (hc trivial).elim
    refine go_wr (by omega) (by omega) ?_
    refine go_ix hx hi0 hlt ?_
    refine ld_instr_dst (hx.src hs) hi0 hlt ?_
    rw [hnth]
    intro _ _
    refine ⟨fun hc => ?_, fun _ => ?_⟩
    · simp only [decide_eq_true_eq, decide_eq_false_iff_not, Bool.and_eq_true, Bool.and_eq_false_iff, Bool.or_eq_true, Bool.or_eq_false_iff, Bool.not_eq_true', Bool.not_eq_false', Bool.not_true, Bool.not_false, Bool.false_eq_true, Bool.true_eq_false, Int.not_lt, Int.not_le, ge_iff_le, gt_iff_lt, Bool.not_eq_eq_eq_not, Bool.true_or, Bool.or_true, Bool.false_or, Bool.or_false, Bool.true_and, Bool.and_true, false_or, or_false, true_and, and_true, Decidable.not_not] at hc; exact (hc trivial).elim
    refine go_wr (by omega) (by omega) ?_
    refine go_ix hx hi0 hlt ?_
    refine ld_instr_num (hx.src hs) hi0 hlt ?_
    rw [hnth]
    intro _ _
    refine ⟨fun hc => ?_, fun _ => ?_⟩
    · simp only [decide_eq_true_eq, decide_eq_false_iff_not, Bool.and_eq_true, Bool.and_eq_false_iff, Bool.or_eq_true, Bool.or_eq_false_iff, Bool.not_eq_true', Bool.not_eq_false', Bool.not_true, Bool.not_false, Bool.false_eq_true, Bool.true_eq_false, Int.not_lt, Int.not_le, ge_iff_le, gt_iff_lt, Bool.not_eq_eq_eq_not, Bool.true_or, Bool.or_true, Bool.false_or, Bool.or_false, Bool.true_and, Bool.and_true, false_or, or_false, true_and, and_true, Decidable.not_not] at hc; exact (hc trivial).elim
    refine go_wr (by omega) (by omega) ?_
    refine go_ix hx hi0 hlt ?_
    refine ld_instr_into (hx.src hs) hi0 hlt ?_
    rw [hnth]
    intro _ _
    refine ⟨fun hc => ?_, fun _ => ?_⟩
    · simp only [decide_eq_true_eq, decide_eq_false_iff_not, Bool.and_eq_true, Bool.and_eq_false_iff, Bool.or_eq_true, Bool.or_eq_false_iff, Bool.not_eq_true', Bool.not_eq_false', Bool.not_true, Bool.not_false, Bool.false_eq_true, Bool.true_eq_false, Int.not_lt, Int.not_le, ge_iff_le, gt_iff_lt, Bool.not_eq_eq_eq_not, Bool.true_or, Bool.or_true, Bool.false_or, Bool.or_false, Bool.true_and, Bool.and_true, false_or, or_false, true_and, and_true, Decidable.not_not] at hc; exact (hc trivial).elim
    refine go_wr (by omega) (by omega) ?_
    refine go_ix hx hi0 hlt ?_
    refine ld_instr_args (hx.src hs) hi0 hlt ?_
    rw [hnth]
    intro f4 hf4
    replace hf4 := hf4.mono hs
    refine ⟨_, c_heldIntS hf4 (by omega) (by omega), fun hc => ?_, fun _ => ?_⟩
    · simp only [decide_eq_true_eq, decide_eq_false_iff_not, Bool.and_eq_true, Bool.and_eq_false_iff, Bool.or_eq_true, Bool.or_eq_false_iff, Bool.not_eq_true', Bool.not_eq_false', Bool.not_true, Bool.not_false, Bool.false_eq_true, Bool.true_eq_false, Int.not_lt, Int.not_le, ge_iff_le, gt_iff_lt, Bool.not_eq_eq_eq_not, Bool.true_or, Bool.or_true, Bool.false_or, Bool.or_false, Bool.true_and, Bool.and_true, false_or, or_false, true_and, and_true, Decidable.not_not] at hc; omega
    refine go_ix hx hi0 hlt ?_
    refine ld_instr_jumps (hx.src hs) hi0 hlt ?_
    rw [hnth]
    intro f5 hf5
    replace hf5 := hf5.mono hs
    refine ⟨_, c_heldIntS hf5 (by omega) (by omega), fun hc => ?_, fun _ => ?_⟩
    · simp only [decide_eq_true_eq, decide_eq_false_iff_not, Bool.and_eq_true, Bool.and_eq_false_iff, Bool.or_eq_true, Bool.or_eq_false_iff, Bool.not_eq_true', Bool.not_eq_false', Bool.not_true, Bool.not_false, Bool.false_eq_true, Bool.true_eq_false, Int.not_lt, Int.not_le, ge_iff_le, gt_iff_lt, Bool.not_eq_eq_eq_not, Bool.true_or, Bool.or_true, Bool.false_or, Bool.or_false, Bool.true_and, Bool.and_true, false_or, or_false, true_and, and_true, Decidable.not_not] at hc; omega
    refine go_wr (by omega) (by omega) ?_
    exact ⟨⟨p ++ [c], r, by rw [hpr]; simp, by simp, by rw [hrs]; omega, hs⟩, by omega⟩
  · simp only [decide_eq_true_eq, decide_eq_false_iff_not, Bool.and_eq_true, Bool.and_eq_false_iff, Bool.or_eq_true, Bool.or_eq_false_iff, Bool.not_eq_true', Bool.not_eq_false', Bool.not_true, Bool.not_false, Bool.false_eq_true, Bool.true_eq_false, Int.not_lt, Int.not_le, ge_iff_le, gt_iff_lt, Bool.not_eq_eq_eq_not, Bool.true_or, Bool.or_true, Bool.false_or, Bool.or_false, Bool.true_and, Bool.and_true, false_or, or_false, true_and, and_true, Decidable.not_not] at hi
    have hr : r = [] := List.eq_nil_of_length_eq_zero (by omega)
    subst hr
    rw [List.append_nil] at hpr
    subst hpr
    exact ⟨rfl, hs⟩
end

instance : Mark ProcD := ⟨fun c => c.params.length + c.lent.length + 1 + 1 + rooms c.code, fun n c => ⟨marks (n) c.params.length, marks (n + c.params.length) c.lent.length, n + c.params.length + c.lent.length, n + c.params.length + c.lent.length + 1, markL (n + c.params.length + c.lent.length + 1 + 1) c.code⟩⟩
section
variable {u v w : World} {x y : Sl} {l m : List ProcD} {n b i : Int} {I J L R : Items}
theorem c_markProcS (hO : OwnD x l I) (hS : St u w (I ++ R)) (n0 : 0 ≤ n) (n1 : n + rooms l ≤ 1000000000000000) :
    Trip Try.prog 35 #[x.val, .int .i64 n] w fun r w' => ∃ I', r = .int .i64 (n + rooms l) ∧ OwnD x (markL n l) I' ∧ St u w' (I' ++ R) := by
  refine of35 _ _ _ _ ?_
  unfold vc35
  have hn := hO.n
  have hle0 := hO.le
  refine ⟨fun n3 i w => ∃ (p r : List ProcD) (I : Items), l = p ++ r ∧ i = p.length ∧ n3 = n + rooms p ∧ OwnD x (markL n p ++ r) I ∧ St u w (I ++ R), fun _ i _ => (l.length - i).toNat, ⟨[], l, I, rfl, rfl, by simp [rooms], hO, hS⟩, ?_⟩
  clear hO hS
  rintro n3 i w ⟨p, r, I, hpr, rfl, rfl, hO, hS⟩
  dsimp only
  have hle : l.length = p.length + r.length := by rw [hpr, List.length_append]
  have hml := markL_len p n
  refine ⟨fun hi => ?_, fun hi => ?_⟩
  · simp only [decide_eq_true_eq, decide_eq_false_iff_not, Bool.and_eq_true, Bool.and_eq_false_iff, Bool.or_eq_true, Bool.or_eq_false_iff, Bool.not_eq_true', Bool.not_eq_false', Bool.not_true, Bool.not_false, Bool.false_eq_true, Bool.true_eq_false, Int.not_lt, Int.not_le, ge_iff_le, gt_iff_lt, Bool.not_eq_eq_eq_not, Bool.true_or, Bool.or_true, Bool.false_or, Bool.or_false, Bool.true_and, Bool.and_true, false_or, or_false, true_and, and_true, Decidable.not_not] at hi
    obtain ⟨c, r, rfl⟩ : ∃ c r', r = c :: r' := by
      cases r with
      | nil => simp at hle; omega
      | cons c r => exact ⟨c, r, rfl⟩
    simp only [List.length_cons] at hle
    have hrm : rooms l = rooms p + (Mark.room c + rooms r) := by rw [hpr, rooms_app, rooms_cons]
    have hroom : Mark.room c = c.params.length + c.lent.length + 1 + 1 + rooms c.code := rfl
    have hi0 : (0 : Int) ≤ (p.length : Int) := by omega
    have hlt : ∀ d : ProcD, (p.length : Int) < (markL n p ++ d :: r).length := fun d => by simp; omega
    have hpm : (p.length : Int) = (markL n p).length := by rw [hml]
    have hsn := markL_snoc p c n
    have hrs : rooms (p ++ [c]) = rooms p + Mark.room c := by rw [rooms_app, rooms_one]
    generalize he : n + (rooms p : Int) = e at *
    refine ⟨hO.ix hi0 (hlt _), ?_⟩
    obtain ⟨row, K, Rest, hrow, hperm, hcell, hput⟩ := hO.borrow hi0 (hlt _)
    rw [nth_mid _ _ _ hpm] at hrow
    obtain ⟨f_params, f_lent, f_code, K_params, K_lent, K_code, rfl, q_result, q_regs, o_params, o_lent, o_code, rfl⟩ := hrow
    have hS2 : St u _ (K_params ++ (K_lent ++ (K_code ++ (Rest ++ R)))) := hS.perm (by
      classical
      have hc := hperm.count_eq
      exact List.perm_iff_count.2 fun a => by have := hc a; simp only [List.count_append] at *; omega)
    refine ⟨f_params, hcell _ (hS2.items (I := Rest)) 0 _ rfl, ?_⟩
    refine Trip.mono' (c_markIntS (l := c.params) (o_params u) hS2 (by omega) (by omega)) ?_
    rintro _ w0 ⟨K'_params, rfl, o'_params, hS⟩
    replace hO := hput (⟨marks (e) c.params.length, c.lent, c.result, c.regs, c.code⟩ : ProcD) (K'_params ++ (K_lent ++ K_code)) ⟨f_params, f_lent, f_code, _, _, _, rfl, q_result, q_regs, o'_params.toAll, o_lent, o_code, rfl⟩
    rw [set_mid _ _ _ _ hpm] at hO
    replace hS : St u w0 (((K'_params ++ (K_lent ++ K_code)) ++ Rest) ++ R) := hS.perm (by
      classical
      exact List.perm_iff_count.2 fun a => by simp only [List.count_append]; omega)
    refine ⟨_, rfl, ?_⟩
    refine ⟨hO.ix hi0 (hlt _), ?_⟩
    obtain ⟨row, K, Rest, hrow, hperm, hcell, hput⟩ := hO.borrow hi0 (hlt _)
    rw [nth_mid _ _ _ hpm] at hrow
    obtain ⟨f_params, f_lent, f_code, K_params, K_lent, K_code, rfl, q_result, q_regs, o_params, o_lent, o_code, rfl⟩ := hrow
    have hS2 : St u _ (K_lent ++ (K_params ++ (K_code ++ (Rest ++ R)))) := hS.perm (by
      classical
      have hc := hperm.count_eq
      exact List.perm_iff_count.2 fun a => by have := hc a; simp only [List.count_append] at *; omega)
    refine ⟨f_lent, hcell _ (hS2.items (I := Rest)) 1 _ rfl, ?_⟩
    refine Trip.mono' (c_markIntS (l := c.lent) (o_lent u) hS2 (by omega) (by omega)) ?_
    rintro _ w1 ⟨K'_lent, rfl, o'_lent, hS⟩
    replace hO := hput (⟨marks (e) c.params.length, marks (e + c.params.length) c.lent.length, c.result, c.regs, c.code⟩ : ProcD) (K_params ++ (K'_lent ++ K_code)) ⟨f_params, f_lent, f_code, _, _, _, rfl, q_result, q_regs, o_params, o'_lent.toAll, o_code, rfl⟩
    rw [set_mid _ _ _ _ hpm] at hO
    replace hS : St u w1 (((K_params ++ (K'_lent ++ K_code)) ++ Rest) ++ R) := hS.perm (by
      classical
      exact List.perm_iff_count.2 fun a => by simp only [List.count_append]; omega)
    refine ⟨_, rfl, ?_⟩
    refine ⟨hO.ix hi0 (hlt _), ?_⟩
    refine OwnD.store hO hS hi0 (hlt _) (⟨marks (e) c.params.length, marks (e + c.params.length) c.lent.length, e + c.params.length + c.lent.length, c.regs, c.code⟩ : ProcD) [] (Nat.le_of_ble_eq_true rfl) (fun r' K hr => ?_) ?_
    · rw [nth_mid _ _ _ hpm] at hr
      obtain ⟨f_params, f_lent, f_code, K_params, K_lent, K_code, rfl, q_result, q_regs, o_params, o_lent, o_code, rfl⟩ := hr
      exact ⟨_, ⟨f_params, f_lent, f_code, _, _, _, rfl, (show InI (e + c.params.length + c.lent.length) from ⟨by omega, by omega⟩), q_regs, o_params, o_lent, o_code, rfl⟩, .inr ⟨rfl, rfl⟩⟩
    intro w2 I2 hO hS
    rw [List.append_nil, set_mid _ _ _ _ hpm] at hO
    refine go_wr (by omega) (by omega) ?_
    refine ⟨hO.ix hi0 (hlt _), ?_⟩
    refine OwnD.store hO hS hi0 (hlt _) (⟨marks (e) c.params.length, marks (e + c.params.length) c.lent.length, e + c.params.length + c.lent.length, e + c.params.length + c.lent.length + 1, c.code⟩ : ProcD) [] (Nat.le_of_ble_eq_true rfl) (fun r' K hr => ?_) ?_
    · rw [nth_mid _ _ _ hpm] at hr
      obtain ⟨f_params, f_lent, f_code, K_params, K_lent, K_code, rfl, q_result, q_regs, o_params, o_lent, o_code, rfl⟩ := hr
      exact ⟨_, ⟨f_params, f_lent, f_code, _, _, _, rfl, q_result, (show InI (e + c.params.length + c.lent.length + 1) from ⟨by omega, by omega⟩), o_params, o_lent, o_code, rfl⟩, .inr ⟨rfl, rfl⟩⟩
    intro w3 I3 hO hS
    rw [List.append_nil, set_mid _ _ _ _ hpm] at hO
    refine go_wr (by omega) (by omega) ?_
    refine ⟨hO.ix hi0 (hlt _), ?_⟩
    obtain ⟨row, K, Rest, hrow, hperm, hcell, hput⟩ := hO.borrow hi0 (hlt _)
    rw [nth_mid _ _ _ hpm] at hrow
    obtain ⟨f_params, f_lent, f_code, K_params, K_lent, K_code, rfl, q_result, q_regs, o_params, o_lent, o_code, rfl⟩ := hrow
    have hS2 : St u _ (K_code ++ (K_params ++ (K_lent ++ (Rest ++ R)))) := hS.perm (by
      classical
      have hc := hperm.count_eq
      exact List.perm_iff_count.2 fun a => by have := hc a; simp only [List.count_append] at *; omega)
    refine ⟨f_code, hcell _ (hS2.items (I := Rest)) 4 _ rfl, ?_⟩
    refine Trip.mono' (c_markInstrS (l := c.code) o_code hS2 (by omega) (by omega)) ?_
    rintro _ w4 ⟨K'_code, rfl, o'_code, hS⟩
    replace hO := hput (⟨marks (e) c.params.length, marks (e + c.params.length) c.lent.length, e + c.params.length + c.lent.length, e + c.params.length + c.lent.length + 1, markL (e + c.params.length + c.lent.length + 1 + 1) c.code⟩ : ProcD) (K_params ++ (K_lent ++ K'_code)) ⟨f_params, f_lent, f_code, _, _, _, rfl, q_result, q_regs, o_params, o_lent, o'_code, rfl⟩
    rw [set_mid _ _ _ _ hpm] at hO
    replace hS : St u w4 (((K_params ++ (K_lent ++ K'_code)) ++ Rest) ++ R) := hS.perm (by
      classical
      exact List.perm_iff_count.2 fun a => by simp only [List.count_append]; omega)
    refine ⟨_, rfl, ?_⟩
    refine go_wr (by omega) (by omega) ?_
    refine ⟨⟨p ++ [c], r, _, by rw [hpr]; simp, by simp, by rw [hrs]; omega, ?_, hS⟩, by omega⟩
    rw [hsn, List.append_assoc]
    exact hO
  · simp only [decide_eq_true_eq, decide_eq_false_iff_not, Bool.and_eq_true, Bool.and_eq_false_iff, Bool.or_eq_true, Bool.or_eq_false_iff, Bool.not_eq_true', Bool.not_eq_false', Bool.not_true, Bool.not_false, Bool.false_eq_true, Bool.true_eq_false, Int.not_lt, Int.not_le, ge_iff_le, gt_iff_lt, Bool.not_eq_eq_eq_not, Bool.true_or, Bool.or_true, Bool.false_or, Bool.or_false, Bool.true_and, Bool.and_true, false_or, or_false, true_and, and_true, Decidable.not_not] at hi
    have hr : r = [] := List.eq_nil_of_length_eq_zero (by omega)
    subst hr
    rw [List.append_nil] at hpr hO
    subst hpr
    exact ⟨I, rfl, hO, hS⟩
theorem c_heldProcS (hx : Read v x (markL n l)) (n0 : 0 ≤ n) (n1 : n + rooms l ≤ 1000000000000000) : Fn Try.prog 40 #[x.val, .int .i64 n] v (.int .i64 (n + rooms l)) := by
  refine of40 _ _ _ _ ?_
  unfold vc40
  have hn := hx.n
  have hle0 := hx.le
  rw [markL_len] at hn hle0
  refine ⟨fun n3 i w => ∃ (p r : List ProcD), l = p ++ r ∧ i = p.length ∧ n3 = n + rooms p ∧ Sub v w, fun _ i _ => (l.length - i).toNat, ⟨[], l, rfl, rfl, by simp [rooms], .refl v⟩, ?_⟩
  rintro n3 i w ⟨p, r, hpr, rfl, rfl, hs⟩
  dsimp only
  have hle : l.length = p.length + r.length := by rw [hpr, List.length_append]
  have hml := markL_len p n
  refine ⟨fun hi => ?_, fun hi => ?_⟩
  · simp only [decide_eq_true_eq, decide_eq_false_iff_not, Bool.and_eq_true, Bool.and_eq_false_iff, Bool.or_eq_true, Bool.or_eq_false_iff, Bool.not_eq_true', Bool.not_eq_false', Bool.not_true, Bool.not_false, Bool.false_eq_true, Bool.true_eq_false, Int.not_lt, Int.not_le, ge_iff_le, gt_iff_lt, Bool.not_eq_eq_eq_not, Bool.true_or, Bool.or_true, Bool.false_or, Bool.or_false, Bool.true_and, Bool.and_true, false_or, or_false, true_and, and_true, Decidable.not_not] at hi
    obtain ⟨c, r, rfl⟩ : ∃ c r', r = c :: r' := by
      cases r with
      | nil => simp at hle; omega
      | cons c r => exact ⟨c, r, rfl⟩
    simp only [List.length_cons] at hle
    have hrm : rooms l = rooms p + (Mark.room c + rooms r) := by rw [hpr, rooms_app, rooms_cons]
    have hroom : Mark.room c = c.params.length + c.lent.length + 1 + 1 + rooms c.code := rfl
    have hi0 : (0 : Int) ≤ (p.length : Int) := by omega
    have hlt : (p.length : Int) < (markL n l).length := by rw [markL_len]; omega
    have hrs : rooms (p ++ [c]) = rooms p + Mark.room c := by rw [rooms_app, rooms_one]
    have hnth : nth (markL n l) (p.length : Int) = Mark.mark (n + rooms p) c := by
      rw [hpr, markL_app]
      exact nth_mid _ _ _ (by rw [hml])
    generalize he : n + (rooms p : Int) = e at *
    replace hnth : nth (markL n l) (p.length : Int) = (⟨marks (e) c.params.length, marks (e + c.params.length) c.lent.length, e + c.params.length + c.lent.length, e + c.params.length + c.lent.length + 1, markL (e + c.params.length + c.lent.length + 1 + 1) c.code⟩ : ProcD) := hnth
    refine go_ix hx hi0 hlt ?_
    refine ld_proc_params (hx.src hs) hi0 hlt ?_
    rw [hnth]
    intro f0 hf0
    replace hf0 := hf0.mono hs
    refine ⟨_, c_heldIntS hf0 (by omega) (by omega), fun hc => ?_, fun _ => ?_⟩
    · simp only [decide_eq_true_eq, decide_eq_false_iff_not, Bool.and_eq_true, Bool.and_eq_false_iff, Bool.or_eq_true, Bool.or_eq_false_iff, Bool.not_eq_true', Bool.not_eq_false', Bool.not_true, Bool.not_false, Bool.false_eq_true, Bool.true_eq_false, Int.not_lt, Int.not_le, ge_iff_le, gt_iff_lt, Bool.not_eq_eq_eq_not, Bool.true_or, Bool.or_true, Bool.false_or, Bool.or_false, Bool.true_and, Bool.and_true, false_or, or_false, true_and, and_true, Decidable.not_not] at hc; omega
    refine go_ix hx hi0 hlt ?_
    refine ld_proc_lent (hx.src hs) hi0 hlt ?_
    rw [hnth]
    intro f1 hf1
    replace hf1 := hf1.mono hs
    refine ⟨_, c_heldIntS hf1 (by omega) (by omega), fun hc => ?_, fun _ => ?_⟩
    · simp only [decide_eq_true_eq, decide_eq_false_iff_not, Bool.and_eq_true, Bool.and_eq_false_iff, Bool.or_eq_true, Bool.or_eq_false_iff, Bool.not_eq_true', Bool.not_eq_false', Bool.not_true, Bool.not_false, Bool.false_eq_true, Bool.true_eq_false, Int.not_lt, Int.not_le, ge_iff_le, gt_iff_lt, Bool.not_eq_eq_eq_not, Bool.true_or, Bool.or_true, Bool.false_or, Bool.or_false, Bool.true_and, Bool.and_true, false_or, or_false, true_and, and_true, Decidable.not_not] at hc; omega
    refine go_ix hx hi0 hlt ?_
    refine ld_proc_result (hx.src hs) hi0 hlt ?_
    rw [hnth]
    intro _ _
    refine ⟨fun hc => ?_, fun _ => ?_⟩
    · simp only [decide_eq_true_eq, decide_eq_false_iff_not, Bool.and_eq_true, Bool.and_eq_false_iff, Bool.or_eq_true, Bool.or_eq_false_iff, Bool.not_eq_true', Bool.not_eq_false', Bool.not_true, Bool.not_false, Bool.false_eq_true, Bool.true_eq_false, Int.not_lt, Int.not_le, ge_iff_le, gt_iff_lt, Bool.not_eq_eq_eq_not, Bool.true_or, Bool.or_true, Bool.false_or, Bool.or_false, Bool.true_and, Bool.and_true, false_or, or_false, true_and, and_true, Decidable.not_not] at hc; exact (hc trivial).elim
    refine go_wr (by omega) (by omega) ?_
    refine go_ix hx hi0 hlt ?_
    refine ld_proc_regs (hx.src hs) hi0 hlt ?_
    rw [hnth]
    intro _ _
    refine ⟨fun hc => ?_, fun _ => ?_⟩
    · simp only [decide_eq_true_eq, decide_eq_false_iff_not, Bool.and_eq_true, Bool.and_eq_false_iff, Bool.or_eq_true, Bool.or_eq_false_iff, Bool.not_eq_true', Bool.not_eq_false', Bool.not_true, Bool.not_false, Bool.false_eq_true, Bool.true_eq_false, Int.not_lt, Int.not_le, ge_iff_le, gt_iff_lt, Bool.not_eq_eq_eq_not, Bool.true_or, Bool.or_true, Bool.false_or, Bool.or_false, Bool.true_and, Bool.and_true, false_or, or_false, true_and, and_true, Decidable.not_not] at hc; exact (hc trivial).elim
    refine go_wr (by omega) (by omega) ?_
    refine go_ix hx hi0 hlt ?_
    refine ld_proc_code (hx.src hs) hi0 hlt ?_
    rw [hnth]
    intro f4 hf4
    replace hf4 := hf4.mono hs
    refine ⟨_, c_heldInstrS hf4 (by omega) (by omega), fun hc => ?_, fun _ => ?_⟩
    · simp only [decide_eq_true_eq, decide_eq_false_iff_not, Bool.and_eq_true, Bool.and_eq_false_iff, Bool.or_eq_true, Bool.or_eq_false_iff, Bool.not_eq_true', Bool.not_eq_false', Bool.not_true, Bool.not_false, Bool.false_eq_true, Bool.true_eq_false, Int.not_lt, Int.not_le, ge_iff_le, gt_iff_lt, Bool.not_eq_eq_eq_not, Bool.true_or, Bool.or_true, Bool.false_or, Bool.or_false, Bool.true_and, Bool.and_true, false_or, or_false, true_and, and_true, Decidable.not_not] at hc; omega
    refine go_wr (by omega) (by omega) ?_
    exact ⟨⟨p ++ [c], r, by rw [hpr]; simp, by simp, by rw [hrs]; omega, hs⟩, by omega⟩
  · simp only [decide_eq_true_eq, decide_eq_false_iff_not, Bool.and_eq_true, Bool.and_eq_false_iff, Bool.or_eq_true, Bool.or_eq_false_iff, Bool.not_eq_true', Bool.not_eq_false', Bool.not_true, Bool.not_false, Bool.false_eq_true, Bool.true_eq_false, Int.not_lt, Int.not_le, ge_iff_le, gt_iff_lt, Bool.not_eq_eq_eq_not, Bool.true_or, Bool.or_true, Bool.false_or, Bool.or_false, Bool.true_and, Bool.and_true, false_or, or_false, true_and, and_true, Decidable.not_not] at hi
    have hr : r = [] := List.eq_nil_of_length_eq_zero (by omega)
    subst hr
    rw [List.append_nil] at hpr
    subst hpr
    exact ⟨rfl, hs⟩
end

end Go.Vc

namespace Go.Vc
open Go Go.Proofs Go.RowKit
set_option linter.all false
/-- integers of one's own -/
def OwnI (x : Sl) (l : List Int) (J : Items) : Prop := ∀ u, Own u x l J
/-- an image as a datum -/
structure ImD where
  decls : List DeclD
  procs : List ProcD
def markIm (m : ImD) : ImD := ⟨markL 1 m.decls, markL (1 + rooms m.decls) m.procs⟩
def endIm (m : ImD) : Int := 1 + rooms m.decls + rooms m.procs
section
variable {α : Type} [Mark α] [Cost α]
theorem rooms_le {B : Nat} : ∀ (l : List α), (∀ a ∈ l, Mark.room a ≤ B) → rooms l ≤ B * l.length
  | [], _ => by simp [rooms]
  | a :: r, h => by
    have h1 := rooms_le r fun b hb => h b (List.mem_cons_of_mem _ hb)
    have h2 := h a List.mem_cons_self
    rw [rooms_cons, List.length_cons, Nat.mul_add]
    omega
end
theorem endIm_pos (m : ImD) : 1 ≤ endIm m := by unfold endIm; omega
section
variable {u v w : World} {x y z t s : Sl} {l ws : List Int} {m m' : ImD} {b n : Int} {a : Addr} {I J K L R : Items} {F : Items → Items}
theorem Own.toI (h : Own u x l I) : OwnI x l I := h.toAll
theorem OwnI.read (h : OwnI x l I) (hS : St u w L) [p : Pos I L R F] : Read w x l := Own.read (h u) hS
theorem OwnI.read1 (h : OwnI x l I) (hS : St u w I) : Read w x l := Own.read1 (h u) hS
theorem c_toIntSI (hx : Read v x l) : Mk Try.prog 19 #[x.val] v fun r J => ∃ y, r = y.val ∧ OwnI y l J := by
  refine Trip.mono' (c_toIntS hx) ?_
  rintro r w ⟨J, hS, y, e, hO⟩
  exact ⟨J, hS, y, e, hO.toI⟩
theorem c_markIntSI (hO : OwnI x l I) (hS : St u w (I ++ R)) (n0 : 0 ≤ n) (n1 : n ≤ 1000000000000000) :
    Trip Try.prog 16 #[x.val, .int .i64 n] w fun r w' => ∃ I', r = .int .i64 (n + l.length) ∧ OwnI x (marks n l.length) I' ∧ St u w' (I' ++ R) := by
  refine Trip.mono' (c_markIntS (hO u) hS n0 n1) ?_
  rintro r w ⟨I', e, hO, hS⟩
  exact ⟨I', e, hO.toI, hS⟩
theorem c_eqImageM (hx : Read v x m.decls) (hy : Read v y m.procs) (hz : Read v z m'.decls) (ht : Read v t m'.procs) : Fn Try.prog 11 #[.agg #[x.val, y.val], .agg #[z.val, t.val]] v (.bool (decide (m.decls = m'.decls) && decide (m.procs = m'.procs))) := c_eqImage hx hy hz ht
theorem c_markImageM (hO : OwnD x m.decls I) (hP : OwnD y m.procs J) (hS : St u w (I ++ (J ++ R))) (hn : endIm m ≤ 1000000000000000) :
    Trip Try.prog 15 #[.agg #[x.val, y.val], .int .i64 1] w fun r w' => ∃ I' J', r = .int .i64 (endIm m) ∧ OwnD x (markIm m).decls I' ∧ OwnD y (markIm m).procs J' ∧ St u w' (I' ++ (J' ++ R)) := by
  refine of15 _ _ _ _ _ ?_
  unfold vc15
  unfold endIm at hn
  refine Trip.mono' (c_markDeclS hO hS (by omega) (by omega)) ?_
  rintro _ w1 ⟨I1, rfl, h1, hS⟩
  refine ⟨_, rfl, ?_⟩
  replace hS : St u w1 (J ++ (I1 ++ R)) := hS.perm (by
    classical
    exact List.perm_iff_count.2 fun a => by simp only [List.count_append]; omega)
  refine Trip.mono' (c_markProcS hP hS (by omega) (by omega)) ?_
  rintro _ w2 ⟨J1, rfl, h2, hS⟩
  refine ⟨_, rfl, I1, J1, rfl, h1, h2, hS.perm (by
    classical
    exact List.perm_iff_count.2 fun a => by simp only [List.count_append]; omega)⟩
theorem c_heldImageM (hx : Read v x (markIm m).decls) (hy : Read v y (markIm m).procs) (hn : endIm m ≤ 1000000000000000) :
    Fn Try.prog 21 #[.agg #[x.val, y.val], .int .i64 1] v (.int .i64 (endIm m)) := by
  refine of21 _ _ _ _ _ ?_
  unfold vc21
  unfold endIm at hn ⊢
  refine ⟨_, c_heldDeclS (l := m.decls) hx (by omega) (by omega), fun hc => ?_, fun _ => ?_⟩
  · simp only [decide_eq_true_eq, decide_eq_false_iff_not, Bool.and_eq_true, Bool.and_eq_false_iff, Bool.or_eq_true, Bool.or_eq_false_iff, Bool.not_eq_true', Bool.not_eq_false', Bool.not_true, Bool.not_false, Bool.false_eq_true, Bool.true_eq_false, Int.not_lt, Int.not_le, ge_iff_le, gt_iff_lt, Bool.not_eq_eq_eq_not, Bool.true_or, Bool.or_true, Bool.false_or, Bool.or_false, Bool.true_and, Bool.and_true, false_or, or_false, true_and, and_true, Decidable.not_not] at hc; omega
  refine ⟨_, c_heldProcS (l := m.procs) hy (by omega) (by omega), fun hc => ?_, fun _ => ⟨rfl, .refl v⟩⟩
  simp only [decide_eq_true_eq, decide_eq_false_iff_not, Bool.and_eq_true, Bool.and_eq_false_iff, Bool.or_eq_true, Bool.or_eq_false_iff, Bool.not_eq_true', Bool.not_eq_false', Bool.not_true, Bool.not_false, Bool.false_eq_true, Bool.true_eq_false, Int.not_lt, Int.not_le, ge_iff_le, gt_iff_lt, Bool.not_eq_eq_eq_not, Bool.true_or, Bool.or_true, Bool.false_or, Bool.or_false, Bool.true_and, Bool.and_true, false_or, or_false, true_and, and_true, Decidable.not_not] at hc; omega
/-! ### the law of EncodeImage -/
end
end Go.Vc

namespace Go.Vc
open Go Go.Proofs Go.RowKit
set_option linter.all false
/-! ### filling a slice, with stores that do not finish an element -/
section
variable {α : Type} [DatO α] [Inhabited α] {u v w : World} {x y z : Sl} {g l : List α} {I J K R L : Items} {F : Items → Items} {q q' : Nat → List Value → Prop}
theorem OwnG.row {i : Int} (h : OwnG q i.toNat x g I) (h0 : 0 ≤ i) (hi : i < g.length) : ∃ r, q i.toNat r ∧ ∀ w : World, AtAll w I → ∀ (j : Nat) (v : Value), r[j]? = some v → w.cell? ((elA x i (Dat.sz α)).add j) = some v := by
  obtain ⟨rows, I0, Is, k1, k2, k3, k4, k5, k6, k7, k8⟩ := h
  have hlt : i.toNat < rows.length := by omega
  have er := List.getElem?_eq_getElem hlt
  refine ⟨_, k6 _ _ (Nat.le_refl _) er, fun w hA j v hv => ?_⟩
  exact (k1.rd (w := w) fun p hp => (hA.perm k7.symm) p (List.mem_append_left _ hp)).at_ h0 er hv
theorem OwnG.put {i : Int} (h : OwnG q i.toNat x g I) (hS : St u w (I ++ R)) (h0 : 0 ≤ i) (hi : i < g.length) {off : Nat} {vals : List Value} (hv : off + vals.length ≤ Dat.sz α) {Kt : World → Prop}
    (k : ∀ w' I', OwnG (fun j r => if j = i.toNat then ∃ r0, q j r0 ∧ r = putR r0 off vals else q j r) i.toNat x g I' → St u w' (I' ++ R) → Kt w') : StoreAt w (elA x i (Dat.sz α)) off vals Kt := by
  obtain ⟨rows, I0, Is, k1, k2, k3, k4, k5, k6, k7, k8⟩ := h
  have hlt : i.toNat < rows.length := by omega
  have er := List.getElem?_eq_getElem hlt
  have hS1 : St u w (I0 ++ (Is.flatten ++ R)) := hS.perm (by
    classical
    exact List.perm_iff_count.2 fun a => by have := k7.count_eq a; simp only [List.count_append] at *; omega)
  obtain ⟨c1, I0', c2, c3⟩ := k1.store hS1 h0 er hv
  refine ⟨c1, k _ (I0' ++ Is.flatten) ⟨_, I0', Is, c2, by simpa using k2, k3, k4, fun j r a K' hr ha hK => ?_, fun j r hj hr => ?_, .refl _, k8⟩ (by rw [List.append_assoc]; exact c3)⟩
  · rw [List.getElem?_set] at hr
    split at hr
    · rename_i e
      subst e
      have := (List.getElem?_eq_some_iff.1 hK).1
      omega
    · exact k5 j r a K' hr ha hK
  · rw [List.getElem?_set] at hr
    split at hr
    · rename_i e
      subst e
      simp only [hlt, if_true, Option.some.injEq] at hr
      rw [if_pos rfl]
      exact ⟨_, k6 _ _ (Nat.le_refl _) er, hr.symm⟩
    · rename_i e
      rw [if_neg (by omega)]
      exact k6 j r hj hr
/-- append(x, a) for an owned a -/
theorem OwnD.pushC {P : Program} {t ty : TypeId} {bytes : Nat} {zc : List Value} [hT : SlT P t (Dat.sz α) bytes zc] {cs : List Value} {a : α} (h : OwnD x l I) (hS : St u w (I ++ (J ++ R)))
    (hy : Rows w y (Dat.sz α) [cs]) (ho : DatO.own cs a J) (hb : l.length + 1 ≤ 1099511627776) (hby : bytes ≤ 128) {Q : Value → World → Prop}
    (k : ∀ x' w' I', OwnD x' (l ++ [a]) I' → St u w' (I' ++ R) → Q x'.val w') : StepT P (Builtin.append_ #[t, t] ty #[x.val, y.val]) w Q :=
  h.push hS hy ho (DatO.read ho (fun z hz => hS.at_ z (by simp [hz]))) hb hby fun x' w' I' k1 k2 => k x' w' _ k1 (by rw [List.append_assoc]; exact k2)
theorem OwnD.add {P : Program} {t ty : TypeId} {bytes : Nat} {zc : List Value} [hT : SlT P t (Dat.sz α) bytes zc] {val : Value} {a : α} (h : OwnD x l I) (hS : St u w (I ++ (J ++ R)))
    (hsz : val.cells.size = Dat.sz α) (ho : DatO.own val.cells.toList a J) (hs2 : Dat.sz α ≤ 100) (hb : l.length + 1 ≤ 1099511627776) (hby : bytes ≤ 128) {Q : Sl → World → Prop}
    (k : ∀ x' w' I', OwnD x' (l ++ [a]) I' → St u w' (I' ++ R) → Q x' w') :
    StepT P (Instr.buildSlice t 1 #[(0, val)]) w fun r w2 => ∃ z : Sl, r = z.val ∧ StepT P (Builtin.append_ #[t, t] ty #[x.val, z.val]) w2 fun r2 w3 => ∃ x' : Sl, r2 = x'.val ∧ Q x' w3 := by
  refine St.buildR hS (fun v hv => ?_) rfl (by omega) ?_
  · simp only [List.map_cons, List.map_nil, List.mem_singleton] at hv; rw [hv]; exact hsz
  intro x3 w3 I3 hB hS hs _
  refine ⟨_, rfl, ?_⟩
  have hy : Rows w3 x3 (Dat.sz α) [val.cells.toList] := hB.rd hS.items
  have hS2 : St u w3 (I ++ (J ++ R)) := hS.right
  exact h.pushC hS2 hy ho hb hby fun x' w' I' k1 k2 => ⟨x', rfl, k x' w' I' k1 k2⟩
/-- an empty slice that was made -/
theorem OwnD.ofEmpty (h : Own u x ([] : List α) I) : OwnD x ([] : List α) I := by
  obtain ⟨rows, k1, k2, k3⟩ := h
  have e : rows = [] := List.eq_nil_of_length_eq_zero (by simpa using k2.1)
  subst e
  exact ⟨[], I, [], [], k1, by simp, by simp, fun i r a K h => by simp at h, by simp, by simp⟩
end

/-! ### what comes behind a call -/
inductive Br (code : List InstrD) : Int → Int → Bool → Prop where
  | jump {a r : Int} {q : Bool} : (nth code a).op = 22 → a < (nth code a).num → Br code (nth code a).num r q → Br code a r q
  | move {a r : Int} {q : Bool} : (nth code a).op = 18 → nth (nth code a).args 0 = r → Br code (a + 1) (nth code a).dst q → Br code a r q
  | stop {a r : Int} : (nth code a).op ≠ 22 → ¬((nth code a).op = 18 ∧ nth (nth code a).args 0 = r) → Br code a r (decide ((nth code a).op = 23) && decide (nth (nth code a).args 0 = r))
/-- jumps go forward, and code ends -/
structure Fw (code : List InstrD) : Prop where
  len : code.length ≤ 2000
  ok : ∀ i : Int, 0 ≤ i → i < code.length → ((nth code i).op = 22 → i < (nth code i).num ∧ (nth code i).num < code.length) ∧ ((nth code i).op = 18 ∨ (nth code i).op = 9 → i + 1 < code.length) ∧
    ((nth code i).op = 18 ∨ (nth code i).op = 23 → (nth code i).args.length = 1) ∧ ((nth code i).op = 9 → (nth code i).into = 0)
section
variable {code cur : List InstrD} {a r : Int} {q : Bool}
theorem Br.ex (h : Fw code) : ∀ (n : Nat) (a r : Int), 0 ≤ a → a < code.length → (code.length : Int) - a ≤ n → ∃ q, Br code a r q := by
  intro n
  induction n with
  | zero => intro a r h0 h1 h2; omega
  | succ n ih =>
    intro a r h0 h1 h2
    obtain ⟨k1, k2, k3, k4⟩ := h.ok a h0 h1
    by_cases e1 : (nth code a).op = 22
    · obtain ⟨j1, j2⟩ := k1 e1
      obtain ⟨q, hq⟩ := ih (nth code a).num r (by omega) j2 (by omega)
      exact ⟨q, .jump e1 j1 hq⟩
    · by_cases e2 : (nth code a).op = 18 ∧ nth (nth code a).args 0 = r
      · obtain ⟨q, hq⟩ := ih (a + 1) (nth code a).dst (by omega) (k2 (.inl e2.1)) (by omega)
        exact ⟨q, .move e2.1 e2.2 hq⟩
      · exact ⟨_, .stop e1 e2⟩
end
section
variable {u v w : World} {x y z t s : Sl} {code : List InstrD} {at_ reg : Int} {q : Bool} {ds : List DeclD} {ps : List ProcD}
end
end Go.Vc

namespace Go.Vc
open Go Go.Proofs Go.RowKit
set_option linter.all false
section
variable {u v w : World} {x y z t s : Sl} {ds : List DeclD} {ps : List ProcD} {code : List InstrD} {c : InstrD} {cs : List ConD} {I J K R : Items}
end
section
variable {u v w : World} {x y z t s : Sl} {m : ImD}
end
end Go.Vc

namespace Go.Vc
open Go Go.Proofs Go.RowKit
set_option linter.all false
section
variable {u v w : World} {x y z t s : Sl} {ds : List DeclD} {ps : List ProcD} {code : List InstrD} {c : InstrD} {cs : List ConD} {I J K R : Items}
end
end Go.Vc

namespace Go.Vc
open Go Go.Proofs Go.RowKit
set_option linter.all false
section
variable {α : Type} [Inhabited α] {l m : List α} {n : Nat} {i j : Int}
end
section
variable {code : List InstrD} {k : Int}
end
section
variable {u v w : World} {x y z t s : Sl} {ds : List DeclD} {ps : List ProcD} {code : List InstrD} {m : ImD} {I J K R : Items}
theorem roomC_sm {c : ConD} (h : SmL c.fields) : Mark.room c ≤ 100000 := h.1
theorem roomD_sm {d : DeclD} (h : SmDecl d) : Mark.room d ≤ 200000000 := by
  show 1 + 1 + rooms d.cons ≤ _
  have h1 := rooms_le (B := 100000) d.cons fun c hc => roomC_sm (h.2.2.2 c hc)
  have h2 := h.2.2.1
  omega
theorem roomI_sm {c : InstrD} (h : SmInstr c) : Mark.room c ≤ 300000 := by
  show 1 + 1 + 1 + 1 + c.args.length + c.jumps.length ≤ _
  have h1 := h.2.2.2.2.1.1
  have h2 := h.2.2.2.2.2.1
  omega
theorem roomP_sm {p : ProcD} (h : SmProc p) : Mark.room p ≤ 4000000000 := by
  show p.params.length + p.lent.length + 1 + 1 + rooms p.code ≤ _
  have h1 := rooms_le (B := 300000) p.code fun c hc => roomI_sm (h.2.2.2.2.2 c hc)
  have h2 := h.1.1
  have h3 := h.2.1.1
  have h4 := h.2.2.2.2.1
  omega
end
end Go.Vc
