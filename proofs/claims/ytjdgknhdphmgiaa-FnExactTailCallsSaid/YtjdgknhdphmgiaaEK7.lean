/- Part of the proofs about the heaps and memories: a law is joined in the text whose name ends in W and the law. -/
import Derived.Test.YtjdgknhdphmgiaaEK6
namespace Go.Vc
open Go Go.Proofs Go.RowKit
set_option linter.all false
/-- a datum whose numbers are all told apart -/
class Mark (α : Type) where
  room : α → Nat
  mark : Int → α → α
def rooms {α : Type} [Mark α] (l : List α) : Nat := (l.map Mark.room).sum
def markL {α : Type} [Mark α] : Int → List α → List α
  | _, [] => []
  | n, a :: r => Mark.mark n a :: markL (n + Mark.room a) r
section
variable {α : Type} [Mark α]
theorem rooms_app (p q : List α) : rooms (p ++ q) = rooms p + rooms q := by unfold rooms; rw [List.map_append, List.sum_append]
theorem rooms_one (c : α) : rooms [c] = Mark.room c := by simp [rooms]
theorem rooms_cons (c : α) (r : List α) : rooms (c :: r) = Mark.room c + rooms r := by simp [rooms]
theorem markL_len (l : List α) : ∀ n : Int, (markL n l).length = l.length := by
  induction l with
  | nil => intro n; rfl
  | cons a r ih => intro n; simp [markL, ih]
theorem markL_app (p : List α) : ∀ (q : List α) (n : Int), markL n (p ++ q) = markL n p ++ markL (n + rooms p) q := by
  induction p with
  | nil => intro q n; simp [markL, rooms]
  | cons a r ih => intro q n; simp only [List.cons_append, markL, ih, rooms_cons]; congr 3; omega
theorem markL_snoc (p : List α) (c : α) (n : Int) : markL n (p ++ [c]) = markL n p ++ [Mark.mark (n + rooms p) c] := by rw [markL_app]; rfl
end

instance : Mark ConD := ⟨fun c => c.fields.length, fun n c => ⟨marks (n) c.fields.length⟩⟩
section
variable {u v w : World} {x y : Sl} {l m : List ConD} {n b i : Int} {I J L R : Items}
theorem c_markConS (hO : OwnD x l I) (hS : St u w (I ++ R)) (n0 : 0 ≤ n) (n1 : n + rooms l ≤ 1000000000000000) :
    Trip Try.prog 61 #[x.val, .int .i64 n] w fun r w' => ∃ I', r = .int .i64 (n + rooms l) ∧ OwnD x (markL n l) I' ∧ St u w' (I' ++ R) := by
  refine of61 _ _ _ _ ?_
  unfold vc61
  have hn := hO.n
  have hle0 := hO.le
  refine ⟨fun n3 i w => ∃ (p r : List ConD) (I : Items), l = p ++ r ∧ i = p.length ∧ n3 = n + rooms p ∧ OwnD x (markL n p ++ r) I ∧ St u w (I ++ R), fun _ i _ => (l.length - i).toNat, ⟨[], l, I, rfl, rfl, by simp [rooms], hO, hS⟩, ?_⟩
  clear hO hS
  rintro n3 i w ⟨p, r, I, hpr, rfl, rfl, hO, hS⟩
  dsimp only
  have hle : l.length = p.length + r.length := by rw [hpr, List.length_append]
  have hml := markL_len p n
  refine ⟨fun hi => ?_, fun hi => ?_⟩
  · simp only [decide_eq_true_eq, decide_eq_false_iff_not, Bool.and_eq_true, Bool.and_eq_false_iff, Bool.or_eq_true, Bool.or_eq_false_iff, Bool.not_eq_true', Bool.not_eq_false', Bool.not_true, Bool.not_false, Bool.false_eq_true, Bool.true_eq_false, Int.not_lt, Int.not_le, ge_iff_le, gt_iff_lt, Bool.not_eq_eq_eq_not, Bool.true_or, Bool.or_true, Bool.false_or, Bool.or_false, Bool.true_and, Bool.and_true, false_or, or_false, true_and, and_true, Decidable.not_not] at hi
    obtain ⟨c, r, rfl⟩ : ∃ c r', r = c :: r' := by
      cases r with
      | nil => simp at hle; omega
      | cons c r => exact ⟨c, r, rfl⟩
    simp only [List.length_cons] at hle
    have hrm : rooms l = rooms p + (Mark.room c + rooms r) := by rw [hpr, rooms_app, rooms_cons]
    have hroom : Mark.room c = c.fields.length := rfl
    have hi0 : (0 : Int) ≤ (p.length : Int) := by omega
    have hlt : ∀ d : ConD, (p.length : Int) < (markL n p ++ d :: r).length := fun d => by simp; omega
    have hpm : (p.length : Int) = (markL n p).length := by rw [hml]
    have hsn := markL_snoc p c n
    have hrs : rooms (p ++ [c]) = rooms p + Mark.room c := by rw [rooms_app, rooms_one]
    generalize he : n + (rooms p : Int) = e at *
    refine ⟨hO.ix hi0 (hlt _), ?_⟩
    obtain ⟨row, K, Rest, hrow, hperm, hcell, hput⟩ := hO.borrow hi0 (hlt _)
    rw [nth_mid _ _ _ hpm] at hrow
    obtain ⟨f_fields, K_fields, rfl, o_fields, rfl⟩ := hrow
    have hS2 : St u _ (K ++ (Rest ++ R)) := hS.perm (by
      classical
      have hc := hperm.count_eq
      exact List.perm_iff_count.2 fun a => by have := hc a; simp only [List.count_append] at *; omega)
    refine ⟨f_fields, hcell _ (hS2.items (I := Rest)) 0 _ rfl, ?_⟩
    refine Trip.mono' (c_markIntS (l := c.fields) (o_fields u) hS2 (by omega) (by omega)) ?_
    rintro _ w0 ⟨K'_fields, rfl, o'_fields, hS⟩
    replace hO := hput (⟨marks (e) c.fields.length⟩ : ConD) (K'_fields) ⟨f_fields, _, rfl, o'_fields.toAll, rfl⟩
    rw [set_mid _ _ _ _ hpm] at hO
    replace hS : St u w0 ((K'_fields ++ Rest) ++ R) := hS.perm (by
      classical
      exact List.perm_iff_count.2 fun a => by simp only [List.count_append]; omega)
    refine ⟨_, rfl, ?_⟩
    refine go_wr (by omega) (by omega) ?_
    refine ⟨⟨p ++ [c], r, _, by rw [hpr]; simp, by simp, by rw [hrs]; omega, ?_, hS⟩, by omega⟩
    rw [hsn, List.append_assoc]
    exact hO
  · simp only [decide_eq_true_eq, decide_eq_false_iff_not, Bool.and_eq_true, Bool.and_eq_false_iff, Bool.or_eq_true, Bool.or_eq_false_iff, Bool.not_eq_true', Bool.not_eq_false', Bool.not_true, Bool.not_false, Bool.false_eq_true, Bool.true_eq_false, Int.not_lt, Int.not_le, ge_iff_le, gt_iff_lt, Bool.not_eq_eq_eq_not, Bool.true_or, Bool.or_true, Bool.false_or, Bool.or_false, Bool.true_and, Bool.and_true, false_or, or_false, true_and, and_true, Decidable.not_not] at hi
    have hr : r = [] := List.eq_nil_of_length_eq_zero (by omega)
    subst hr
    rw [List.append_nil] at hpr hO
    subst hpr
    exact ⟨I, rfl, hO, hS⟩
theorem c_heldConS (hx : Read v x (markL n l)) (n0 : 0 ≤ n) (n1 : n + rooms l ≤ 1000000000000000) : Fn Try.prog 69 #[x.val, .int .i64 n] v (.int .i64 (n + rooms l)) := by
  refine of69 _ _ _ _ ?_
  unfold vc69
  have hn := hx.n
  have hle0 := hx.le
  rw [markL_len] at hn hle0
  refine ⟨fun n3 i w => ∃ (p r : List ConD), l = p ++ r ∧ i = p.length ∧ n3 = n + rooms p ∧ Sub v w, fun _ i _ => (l.length - i).toNat, ⟨[], l, rfl, rfl, by simp [rooms], .refl v⟩, ?_⟩
  rintro n3 i w ⟨p, r, hpr, rfl, rfl, hs⟩
  dsimp only
  have hle : l.length = p.length + r.length := by rw [hpr, List.length_append]
  have hml := markL_len p n
  refine ⟨fun hi => ?_, fun hi => ?_⟩
  · simp only [decide_eq_true_eq, decide_eq_false_iff_not, Bool.and_eq_true, Bool.and_eq_false_iff, Bool.or_eq_true, Bool.or_eq_false_iff, Bool.not_eq_true', Bool.not_eq_false', Bool.not_true, Bool.not_false, Bool.false_eq_true, Bool.true_eq_false, Int.not_lt, Int.not_le, ge_iff_le, gt_iff_lt, Bool.not_eq_eq_eq_not, Bool.true_or, Bool.or_true, Bool.false_or, Bool.or_false, Bool.true_and, Bool.and_true, false_or, or_false, true_and, and_true, Decidable.not_not] at hi
    obtain ⟨c, r, rfl⟩ : ∃ c r', r = c :: r' := by
      cases r with
      | nil => simp at hle; omega
      | cons c r => exact ⟨c, r, rfl⟩
    simp only [List.length_cons] at hle
    have hrm : rooms l = rooms p + (Mark.room c + rooms r) := by rw [hpr, rooms_app, rooms_cons]
    have hroom : Mark.room c = c.fields.length := rfl
    have hi0 : (0 : Int) ≤ (p.length : Int) := by omega
    have hlt : (p.length : Int) < (markL n l).length := by rw [markL_len]; omega
    have hrs : rooms (p ++ [c]) = rooms p + Mark.room c := by rw [rooms_app, rooms_one]
    have hnth : nth (markL n l) (p.length : Int) = Mark.mark (n + rooms p) c := by
      rw [hpr, markL_app]
      exact nth_mid _ _ _ (by rw [hml])
    generalize he : n + (rooms p : Int) = e at *
    replace hnth : nth (markL n l) (p.length : Int) = (⟨marks (e) c.fields.length⟩ : ConD) := hnth
    refine go_ix hx hi0 hlt ?_
    refine ld_con_fields (hx.src hs) hi0 hlt ?_
    rw [hnth]
    intro f0 hf0
    replace hf0 := hf0.mono hs
    refine ⟨_, c_heldIntS hf0 (by omega) (by omega), fun hc => ?_, fun _ => ?_⟩
    · simp only [decide_eq_true_eq, decide_eq_false_iff_not, Bool.and_eq_true, Bool.and_eq_false_iff, Bool.or_eq_true, Bool.or_eq_false_iff, Bool.not_eq_true', Bool.not_eq_false', Bool.not_true, Bool.not_false, Bool.false_eq_true, Bool.true_eq_false, Int.not_lt, Int.not_le, ge_iff_le, gt_iff_lt, Bool.not_eq_eq_eq_not, Bool.true_or, Bool.or_true, Bool.false_or, Bool.or_false, Bool.true_and, Bool.and_true, false_or, or_false, true_and, and_true, Decidable.not_not] at hc; omega
    refine go_wr (by omega) (by omega) ?_
    exact ⟨⟨p ++ [c], r, by rw [hpr]; simp, by simp, by rw [hrs]; omega, hs⟩, by omega⟩
  · simp only [decide_eq_true_eq, decide_eq_false_iff_not, Bool.and_eq_true, Bool.and_eq_false_iff, Bool.or_eq_true, Bool.or_eq_false_iff, Bool.not_eq_true', Bool.not_eq_false', Bool.not_true, Bool.not_false, Bool.false_eq_true, Bool.true_eq_false, Int.not_lt, Int.not_le, ge_iff_le, gt_iff_lt, Bool.not_eq_eq_eq_not, Bool.true_or, Bool.or_true, Bool.false_or, Bool.or_false, Bool.true_and, Bool.and_true, false_or, or_false, true_and, and_true, Decidable.not_not] at hi
    have hr : r = [] := List.eq_nil_of_length_eq_zero (by omega)
    subst hr
    rw [List.append_nil] at hpr
    subst hpr
    exact ⟨rfl, hs⟩
end

instance : Mark DeclD := ⟨fun c => 1 + 1 + rooms c.cons, fun n c => ⟨n, n + 1, markL (n + 1 + 1) c.cons⟩⟩
section
variable {u v w : World} {x y : Sl} {l m : List DeclD} {n b i : Int} {I J L R : Items}
theorem c_markDeclS (hO : OwnD x l I) (hS : St u w (I ++ R)) (n0 : 0 ≤ n) (n1 : n + rooms l ≤ 1000000000000000) :
    Trip Try.prog 34 #[x.val, .int .i64 n] w fun r w' => ∃ I', r = .int .i64 (n + rooms l) ∧ OwnD x (markL n l) I' ∧ St u w' (I' ++ R) := by
  refine of34 _ _ _ _ ?_
  unfold vc34
  have hn := hO.n
  have hle0 := hO.le
  refine ⟨fun n3 i w => ∃ (p r : List DeclD) (I : Items), l = p ++ r ∧ i = p.length ∧ n3 = n + rooms p ∧ OwnD x (markL n p ++ r) I ∧ St u w (I ++ R), fun _ i _ => (l.length - i).toNat, ⟨[], l, I, rfl, rfl, by simp [rooms], hO, hS⟩, ?_⟩
  clear hO hS
  rintro n3 i w ⟨p, r, I, hpr, rfl, rfl, hO, hS⟩
  dsimp only
  have hle : l.length = p.length + r.length := by rw [hpr, List.length_append]
  have hml := markL_len p n
  refine ⟨fun hi => ?_, fun hi => ?_⟩
  · simp only [decide_eq_true_eq, decide_eq_false_iff_not, Bool.and_eq_true, Bool.and_eq_false_iff, Bool.or_eq_true, Bool.or_eq_false_iff, Bool.not_eq_true', Bool.not_eq_false', Bool.not_true, Bool.not_false, Bool.false_eq_true, Bool.true_eq_false, Int.not_lt, Int.not_le, ge_iff_le, gt_iff_lt, Bool.not_eq_eq_eq_not, Bool.true_or, Bool.or_true, Bool.false_or, Bool.or_false, Bool.true_and, Bool.and_true, false_or, or_false, true_and, and_true, Decidable.not_not] at hi
    obtain ⟨c, r, rfl⟩ : ∃ c r', r = c :: r' := by
      cases r with
      | nil => simp at hle; omega
      | cons c r => exact ⟨c, r, rfl⟩
    simp only [List.length_cons] at hle
    have hrm : rooms l = rooms p + (Mark.room c + rooms r) := by rw [hpr, rooms_app, rooms_cons]
    have hroom : Mark.room c = 1 + 1 + rooms c.cons := rfl
    have hi0 : (0 : Int) ≤ (p.length : Int) := by omega
    have hlt : ∀ d : DeclD, (p.length : Int) < (markL n p ++ d :: r).length := fun d => by simp; omega
    have hpm : (p.length : Int) = (markL n p).length := by rw [hml]
    have hsn := markL_snoc p c n
    have hrs : rooms (p ++ [c]) = rooms p + Mark.room c := by rw [rooms_app, rooms_one]
    generalize he : n + (rooms p : Int) = e at *
    refine ⟨hO.ix hi0 (hlt _), ?_⟩
    refine OwnD.store hO hS hi0 (hlt _) (⟨e, c.to_, c.cons⟩ : DeclD) [] (Nat.le_of_ble_eq_true rfl) (fun r' K hr => ?_) ?_
    · rw [nth_mid _ _ _ hpm] at hr
      obtain ⟨f_cons, K_cons, rfl, q_frm, q_to_, o_cons, rfl⟩ := hr
      exact ⟨_, ⟨f_cons, _, rfl, (show InI (e) from ⟨by omega, by omega⟩), q_to_, o_cons, rfl⟩, .inr ⟨rfl, rfl⟩⟩
    intro w0 I0 hO hS
    rw [List.append_nil, set_mid _ _ _ _ hpm] at hO
    refine go_wr (by omega) (by omega) ?_
    refine ⟨hO.ix hi0 (hlt _), ?_⟩
    refine OwnD.store hO hS hi0 (hlt _) (⟨e, e + 1, c.cons⟩ : DeclD) [] (Nat.le_of_ble_eq_true rfl) (fun r' K hr => ?_) ?_
    · rw [nth_mid _ _ _ hpm] at hr
      obtain ⟨f_cons, K_cons, rfl, q_frm, q_to_, o_cons, rfl⟩ := hr
      exact ⟨_, ⟨f_cons, _, rfl, q_frm, (show InI (e + 1) from ⟨by omega, by omega⟩), o_cons, rfl⟩, .inr ⟨rfl, rfl⟩⟩
    intro w1 I1 hO hS
    rw [List.append_nil, set_mid _ _ _ _ hpm] at hO
    refine go_wr (by omega) (by omega) ?_
    refine ⟨hO.ix hi0 (hlt _), ?_⟩
    obtain ⟨row, K, Rest, hrow, hperm, hcell, hput⟩ := hO.borrow hi0 (hlt _)
    rw [nth_mid _ _ _ hpm] at hrow
    obtain ⟨f_cons, K_cons, rfl, q_frm, q_to_, o_cons, rfl⟩ := hrow
    have hS2 : St u _ (K ++ (Rest ++ R)) := hS.perm (by
      classical
      have hc := hperm.count_eq
      exact List.perm_iff_count.2 fun a => by have := hc a; simp only [List.count_append] at *; omega)
    refine ⟨f_cons, hcell _ (hS2.items (I := Rest)) 2 _ rfl, ?_⟩
    refine Trip.mono' (c_markConS (l := c.cons) o_cons hS2 (by omega) (by omega)) ?_
    rintro _ w2 ⟨K'_cons, rfl, o'_cons, hS⟩
    replace hO := hput (⟨e, e + 1, markL (e + 1 + 1) c.cons⟩ : DeclD) (K'_cons) ⟨f_cons, _, rfl, q_frm, q_to_, o'_cons, rfl⟩
    rw [set_mid _ _ _ _ hpm] at hO
    replace hS : St u w2 ((K'_cons ++ Rest) ++ R) := hS.perm (by
      classical
      exact List.perm_iff_count.2 fun a => by simp only [List.count_append]; omega)
    refine ⟨_, rfl, ?_⟩
    refine go_wr (by omega) (by omega) ?_
    refine ⟨⟨p ++ [c], r, _, by rw [hpr]; simp, by simp, by rw [hrs]; omega, ?_, hS⟩, by omega⟩
    rw [hsn, List.append_assoc]
    exact hO
  · simp only [decide_eq_true_eq, decide_eq_false_iff_not, Bool.and_eq_true, Bool.and_eq_false_iff, Bool.or_eq_true, Bool.or_eq_false_iff, Bool.not_eq_true', Bool.not_eq_false', Bool.not_true, Bool.not_false, Bool.false_eq_true, Bool.true_eq_false, Int.not_lt, Int.not_le, ge_iff_le, gt_iff_lt, Bool.not_eq_eq_eq_not, Bool.true_or, Bool.or_true, Bool.false_or, Bool.or_false, Bool.true_and, Bool.and_true, false_or, or_false, true_and, and_true, Decidable.not_not] at hi
    have hr : r = [] := List.eq_nil_of_length_eq_zero (by omega)
    subst hr
    rw [List.append_nil] at hpr hO
    subst hpr
    exact ⟨I, rfl, hO, hS⟩
theorem c_heldDeclS (hx : Read v x (markL n l)) (n0 : 0 ≤ n) (n1 : n + rooms l ≤ 1000000000000000) : Fn Try.prog 39 #[x.val, .int .i64 n] v (.int .i64 (n + rooms l)) := by
  refine of39 _ _ _ _ ?_
  unfold vc39
  have hn := hx.n
  have hle0 := hx.le
  rw [markL_len] at hn hle0
  refine ⟨fun n3 i w => ∃ (p r : List DeclD), l = p ++ r ∧ i = p.length ∧ n3 = n + rooms p ∧ Sub v w, fun _ i _ => (l.length - i).toNat, ⟨[], l, rfl, rfl, by simp [rooms], .refl v⟩, ?_⟩
  rintro n3 i w ⟨p, r, hpr, rfl, rfl, hs⟩
  dsimp only
  have hle : l.length = p.length + r.length := by rw [hpr, List.length_append]
  have hml := markL_len p n
  refine ⟨fun hi => ?_, fun hi => ?_⟩
  · simp only [decide_eq_true_eq, decide_eq_false_iff_not, Bool.and_eq_true, Bool.and_eq_false_iff, Bool.or_eq_true, Bool.or_eq_false_iff, Bool.not_eq_true', Bool.not_eq_false', Bool.not_true, Bool.not_false, Bool.false_eq_true, Bool.true_eq_false, Int.not_lt, Int.not_le, ge_iff_le, gt_iff_lt, Bool.not_eq_eq_eq_not, Bool.true_or, Bool.or_true, Bool.false_or, Bool.or_false, Bool.true_and, Bool.and_true, false_or, or_false, true_and, and_true, Decidable.not_not] at hi
    obtain ⟨c, r, rfl⟩ : ∃ c r', r = c :: r' := by
      cases r with
      | nil => simp at hle; omega
      | cons c r => exact ⟨c, r, rfl⟩
    simp only [List.length_cons] at hle
    have hrm : rooms l = rooms p + (Mark.room c + rooms r) := by rw [hpr, rooms_app, rooms_cons]
    have hroom : Mark.room c = 1 + 1 + rooms c.cons := rfl
    have hi0 : (0 : Int) ≤ (p.length : Int) := by omega
    have hlt : (p.length : Int) < (markL n l).length := by rw [markL_len]; omega
    have hrs : rooms (p ++ [c]) = rooms p + Mark.room c := by rw [rooms_app, rooms_one]
    have hnth : nth (markL n l) (p.length : Int) = Mark.mark (n + rooms p) c := by
      rw [hpr, markL_app]
      exact nth_mid _ _ _ (by rw [hml])
    generalize he : n + (rooms p : Int) = e at *
    replace hnth : nth (markL n l) (p.length : Int) = (⟨e, e + 1, markL (e + 1 + 1) c.cons⟩ : DeclD) := hnth
    refine go_ix hx hi0 hlt ?_
    refine ld_decl_frm (hx.src hs) hi0 hlt ?_
    rw [hnth]
    intro _ _
    refine ⟨fun hc => ?_, fun _ => ?_⟩
    · simp only [decide_eq_true_eq, decide_eq_false_iff_not, Bool.and_eq_true, Bool.and_eq_false_iff, Bool.or_eq_true, Bool.or_eq_false_iff, Bool.not_eq_true', Bool.not_eq_false', Bool.not_true, Bool.not_false, Bool.false_eq_true, Bool.true_eq_false, Int.not_lt, Int.not_le, ge_iff_le, gt_iff_lt, Bool.not_eq_eq_eq_not, Bool.true_or, Bool.or_true, Bool.false_or, Bool.or_false, Bool.true_and, Bool.and_true, false_or, or_false, true_and, and_true, Decidable.not_not] at hc; exact (hc trivial).elim
    refine go_wr (by omega) (by omega) ?_
    refine go_ix hx hi0 hlt ?_
    refine ld_decl_to_ (hx.src hs) hi0 hlt ?_
    rw [hnth]
    intro _ _
    refine ⟨fun hc => ?_, fun _ => ?_⟩
    · simp only [decide_eq_true_eq, decide_eq_false_iff_not, Bool.and_eq_true, Bool.and_eq_false_iff, Bool.or_eq_true, Bool.or_eq_false_iff, Bool.not_eq_true', Bool.not_eq_false', Bool.not_true, Bool.not_false, Bool.false_eq_true, Bool.true_eq_false, Int.not_lt, Int.not_le, ge_iff_le, gt_iff_lt, Bool.not_eq_eq_eq_not, Bool.true_or, Bool.or_true, Bool.false_or, Bool.or_false, Bool.true_and, Bool.and_true, false_or, or_false, true_and, and_true, Decidable.not_not] at hc; exact (hc trivial).elim
    refine go_wr (by omega) (by omega) ?_
    refine go_ix hx hi0 hlt ?_
    refine ld_decl_cons (hx.src hs) hi0 hlt ?_
    rw [hnth]
    intro f2 hf2
    replace hf2 := hf2.mono hs
    refine ⟨_, c_heldConS hf2 (by omega) (by omega), fun hc => ?_, fun _ => ?_⟩
    · simp only [decide_eq_true_eq, decide_eq_false_iff_not, Bool.and_eq_true, Bool.and_eq_false_iff, Bool.or_eq_true, Bool.or_eq_false_iff, Bool.not_eq_true', Bool.not_eq_false', Bool.not_true, Bool.not_false, Bool.false_eq_true, Bool.true_eq_false, Int.not_lt, Int.not_le, ge_iff_le, gt_iff_lt, Bool.not_eq_eq_eq_not, Bool.true_or, Bool.or_true, Bool.false_or, Bool.or_false, Bool.true_and, Bool.and_true, false_or, or_false, true_and, and_true, Decidable.not_not] at hc; omega
    refine go_wr (by omega) (by omega) ?_
    exact ⟨⟨p ++ [c], r, by rw [hpr]; simp, by simp, by rw [hrs]; omega, hs⟩, by omega⟩
  · simp only [decide_eq_true_eq, decide_eq_false_iff_not, Bool.and_eq_true, Bool.and_eq_false_iff, Bool.or_eq_true, Bool.or_eq_false_iff, Bool.not_eq_true', Bool.not_eq_false', Bool.not_true, Bool.not_false, Bool.false_eq_true, Bool.true_eq_false, Int.not_lt, Int.not_le, ge_iff_le, gt_iff_lt, Bool.not_eq_eq_eq_not, Bool.true_or, Bool.or_true, Bool.false_or, Bool.or_false, Bool.true_and, Bool.and_true, false_or, or_false, true_and, and_true, Decidable.not_not] at hi
    have hr : r = [] := List.eq_nil_of_length_eq_zero (by omega)
    subst hr
    rw [List.append_nil] at hpr
    subst hpr
    exact ⟨rfl, hs⟩
end

instance : Mark InstrD := ⟨fun c => 1 + 1 + 1 + 1 + c.args.length + c.jumps.length, fun n c => ⟨n, n + 1, n + 1 + 1, n + 1 + 1 + 1, marks (n + 1 + 1 + 1 + 1) c.args.length, marks (n + 1 + 1 + 1 + 1 + c.args.length) c.jumps.length⟩⟩
section
variable {u v w : World} {x y : Sl} {l m : List InstrD} {n b i : Int} {I J L R : Items}
theorem c_markInstrS (hO : OwnD x l I) (hS : St u w (I ++ R)) (n0 : 0 ≤ n) (n1 : n + rooms l ≤ 1000000000000000) :
    Trip Try.prog 62 #[x.val, .int .i64 n] w fun r w' => ∃ I', r = .int .i64 (n + rooms l) ∧ OwnD x (markL n l) I' ∧ St u w' (I' ++ R) := by
  refine of62 _ _ _ _ ?_
  unfold vc62
  have hn := hO.n
  have hle0 := hO.le
  refine ⟨fun n3 i w => ∃ (p r : List InstrD) (I : Items), l = p ++ r ∧ i = p.length ∧ n3 = n + rooms p ∧ OwnD x (markL n p ++ r) I ∧ St u w (I ++ R), fun _ i _ => (l.length - i).toNat, ⟨[], l, I, rfl, rfl, by simp [rooms], hO, hS⟩, ?_⟩
  clear hO hS
  rintro n3 i w ⟨p, r, I, hpr, rfl, rfl, hO, hS⟩
  dsimp only
  have hle : l.length = p.length + r.length := by rw [hpr, List.length_append]
  have hml := markL_len p n
  refine ⟨fun hi => ?_, fun hi => ?_⟩
  · simp only [decide_eq_true_eq, decide_eq_false_iff_not, Bool.and_eq_true, Bool.and_eq_false_iff, Bool.or_eq_true, Bool.or_eq_false_iff, Bool.not_eq_true', Bool.not_eq_false', Bool.not_true, Bool.not_false, Bool.false_eq_true, Bool.true_eq_false, Int.not_lt, Int.not_le, ge_iff_le, gt_iff_lt, Bool.not_eq_eq_eq_not, Bool.true_or, Bool.or_true, Bool.false_or, Bool.or_false, Bool.true_and, Bool.and_true, false_or, or_false, true_and, and_true, Decidable.not_not] at hi
    obtain ⟨c, r, rfl⟩ : ∃ c r', r = c :: r' := by
      cases r with
      | nil => simp at hle; omega
      | cons c r => exact ⟨c, r, rfl⟩
    simp only [List.length_cons] at hle
    have hrm : rooms l = rooms p + (Mark.room c + rooms r) := by rw [hpr, rooms_app, rooms_cons]
    have hroom : Mark.room c = 1 + 1 + 1 + 1 + c.args.length + c.jumps.length := rfl
    have hi0 : (0 : Int) ≤ (p.length : Int) := by omega
    have hlt : ∀ d : InstrD, (p.length : Int) < (markL n p ++ d :: r).length := fun d => by simp; omega
    have hpm : (p.length : Int) = (markL n p).length := by rw [hml]
    have hsn := markL_snoc p c n
    have hrs : rooms (p ++ [c]) = rooms p + Mark.room c := by rw [rooms_app, rooms_one]
    generalize he : n + (rooms p : Int) = e at *
    refine ⟨hO.ix hi0 (hlt _), ?_⟩
    refine OwnD.store hO hS hi0 (hlt _) (⟨e, c.dst, c.num, c.into, c.args, c.jumps⟩ : InstrD) [] (Nat.le_of_ble_eq_true rfl) (fun r' K hr => ?_) ?_
    · rw [nth_mid _ _ _ hpm] at hr
      obtain ⟨f_args, f_jumps, K_args, K_jumps, rfl, q_op, q_dst, q_num, q_into, o_args, o_jumps, rfl⟩ := hr
      exact ⟨_, ⟨f_args, f_jumps, _, _, rfl, (show InI (e) from ⟨by omega, by omega⟩), q_dst, q_num, q_into, o_args, o_jumps, rfl⟩, .inr ⟨rfl, rfl⟩⟩
    intro w0 I0 hO hS
    rw [List.append_nil, set_mid _ _ _ _ hpm] at hO
    refine go_wr (by omega) (by omega) ?_
    refine ⟨hO.ix hi0 (hlt _), ?_⟩
    refine OwnD.store hO hS hi0 (hlt _) (⟨e, e + 1, c.num, c.into, c.args, c.jumps⟩ : InstrD) [] (Nat.le_of_ble_eq_true rfl) (fun r' K hr => ?_) ?_
    · rw [nth_mid _ _ _ hpm] at hr
      obtain ⟨f_args, f_jumps, K_args, K_jumps, rfl, q_op, q_dst, q_num, q_into, o_args, o_jumps, rfl⟩ := hr
      exact ⟨_, ⟨f_args, f_jumps, _, _, rfl, q_op, (show InI (e + 1) from ⟨by omega, by omega⟩), q_num, q_into, o_args, o_jumps, rfl⟩, .inr ⟨rfl, rfl⟩⟩
    intro w1 I1 hO hS
    rw [List.append_nil, set_mid _ _ _ _ hpm] at hO
    refine go_wr (by omega) (by omega) ?_
    refine ⟨hO.ix hi0 (hlt _), ?_⟩
    refine OwnD.store hO hS hi0 (hlt _) (⟨e, e + 1, e + 1 + 1, c.into, c.args, c.jumps⟩ : InstrD) [] (Nat.le_of_ble_eq_true rfl) (fun r' K hr => ?_) ?_
    · rw [nth_mid _ _ _ hpm] at hr
      obtain ⟨f_args, f_jumps, K_args, K_jumps, rfl, q_op, q_dst, q_num, q_into, o_args, o_jumps, rfl⟩ := hr
      exact ⟨_, ⟨f_args, f_jumps, _, _, rfl, q_op, q_dst, (show InI (e + 1 + 1) from ⟨by omega, by omega⟩), q_into, o_args, o_jumps, rfl⟩, .inr ⟨rfl, rfl⟩⟩
    intro w2 I2 hO hS
    rw [List.append_nil, set_mid _ _ _ _ hpm] at hO
    refine go_wr (by omega) (by omega) ?_
    refine ⟨hO.ix hi0 (hlt _), ?_⟩
    refine OwnD.store hO hS hi0 (hlt _) (⟨e, e + 1, e + 1 + 1, e + 1 + 1 + 1, c.args, c.jumps⟩ : InstrD) [] (Nat.le_of_ble_eq_true rfl) (fun r' K hr => ?_) ?_
    · rw [nth_mid _ _ _ hpm] at hr
      obtain ⟨f_args, f_jumps, K_args, K_jumps, rfl, q_op, q_dst, q_num, q_into, o_args, o_jumps, rfl⟩ := hr
      exact ⟨_, ⟨f_args, f_jumps, _, _, rfl, q_op, q_dst, q_num, (show InI (e + 1 + 1 + 1) from ⟨by omega, by omega⟩), o_args, o_jumps, rfl⟩, .inr ⟨rfl, rfl⟩⟩
    intro w3 I3 hO hS
    rw [List.append_nil, set_mid _ _ _ _ hpm] at hO
    refine go_wr (by omega) (by omega) ?_
    refine ⟨hO.ix hi0 (hlt _), ?_⟩
    obtain ⟨row, K, Rest, hrow, hperm, hcell, hput⟩ := hO.borrow hi0 (hlt _)
    rw [nth_mid _ _ _ hpm] at hrow
    obtain ⟨f_args, f_jumps, K_args, K_jumps, rfl, q_op, q_dst, q_num, q_into, o_args, o_jumps, rfl⟩ := hrow
    have hS2 : St u _ (K_args ++ (K_jumps ++ (Rest ++ R))) := hS.perm (by
      classical
      have hc := hperm.count_eq
      exact List.perm_iff_count.2 fun a => by have := hc a; simp only [List.count_append] at *; omega)
    refine ⟨f_args, hcell _ (hS2.items (I := Rest)) 4 _ rfl, ?_⟩
    refine Trip.mono' (c_markIntS (l := c.args) (o_args u) hS2 (by omega) (by omega)) ?_
    rintro _ w4 ⟨K'_args, rfl, o'_args, hS⟩
    replace hO := hput (⟨e, e + 1, e + 1 + 1, e + 1 + 1 + 1, marks (e + 1 + 1 + 1 + 1) c.args.length, c.jumps⟩ : InstrD) (K'_args ++ K_jumps) ⟨f_args, f_jumps, _, _, rfl, q_op, q_dst, q_num, q_into, o'_args.toAll, o_jumps, rfl⟩
    rw [set_mid _ _ _ _ hpm] at hO
    replace hS : St u w4 (((K'_args ++ K_jumps) ++ Rest) ++ R) := hS.perm (by
      classical
      exact List.perm_iff_count.2 fun a => by simp only [List.count_append]; omega)
    refine ⟨_, rfl, ?_⟩
    refine ⟨hO.ix hi0 (hlt _), ?_⟩
    obtain ⟨row, K, Rest, hrow, hperm, hcell, hput⟩ := hO.borrow hi0 (hlt _)
    rw [nth_mid _ _ _ hpm] at hrow
    obtain ⟨f_args, f_jumps, K_args, K_jumps, rfl, q_op, q_dst, q_num, q_into, o_args, o_jumps, rfl⟩ := hrow
    have hS2 : St u _ (K_jumps ++ (K_args ++ (Rest ++ R))) := hS.perm (by
      classical
      have hc := hperm.count_eq
      exact List.perm_iff_count.2 fun a => by have := hc a; simp only [List.count_append] at *; omega)
    refine ⟨f_jumps, hcell _ (hS2.items (I := Rest)) 5 _ rfl, ?_⟩
    refine Trip.mono' (c_markIntS (l := c.jumps) (o_jumps u) hS2 (by omega) (by omega)) ?_
    rintro _ w5 ⟨K'_jumps, rfl, o'_jumps, hS⟩
    replace hO := hput (⟨e, e + 1, e + 1 + 1, e + 1 + 1 + 1, marks (e + 1 + 1 + 1 + 1) c.args.length, marks (e + 1 + 1 + 1 + 1 + c.args.length) c.jumps.length⟩ : InstrD) (K_args ++ K'_jumps) ⟨f_args, f_jumps, _, _, rfl, q_op, q_dst, q_num, q_into, o_args, o'_jumps.toAll, rfl⟩
    rw [set_mid _ _ _ _ hpm] at hO
    replace hS : St u w5 (((K_args ++ K'_jumps) ++ Rest) ++ R) := hS.perm (by
      classical
      exact List.perm_iff_count.2 fun a => by simp only [List.count_append]; omega)
    refine ⟨_, rfl, ?_⟩
    refine go_wr (by omega) (by omega) ?_
    refine ⟨⟨p ++ [c], r, _, by rw [hpr]; simp, by simp, by rw [hrs]; omega, ?_, hS⟩, by omega⟩
    rw [hsn, List.append_assoc]
    exact hO
  · simp only [decide_eq_true_eq, decide_eq_false_iff_not, Bool.and_eq_true, Bool.and_eq_false_iff, Bool.or_eq_true, Bool.or_eq_false_iff, Bool.not_eq_true', Bool.not_eq_false', Bool.not_true, Bool.not_false, Bool.false_eq_true, Bool.true_eq_false, Int.not_lt, Int.not_le, ge_iff_le, gt_iff_lt, Bool.not_eq_eq_eq_not, Bool.true_or, Bool.or_true, Bool.false_or, Bool.or_false, Bool.true_and, Bool.and_true, false_or, or_false, true_and, and_true, Decidable.not_not] at hi
    have hr : r = [] := List.eq_nil_of_length_eq_zero (by omega)
    subst hr
    rw [List.append_nil] at hpr hO
    subst hpr
    exact ⟨I, rfl, hO, hS⟩
theorem c_heldInstrS (hx : Read v x (markL n l)) (n0 : 0 ≤ n) (n1 : n + rooms l ≤ 1000000000000000) : Fn Try.prog 70 #[x.val, .int .i64 n] v (.int .i64 (n + rooms l)) := by
  refine of70 _ _ _ _ ?_
  unfold vc70
  have hn := hx.n
  have hle0 := hx.le
  rw [markL_len] at hn hle0
  refine ⟨fun n3 i w => ∃ (p r : List InstrD), l = p ++ r ∧ i = p.length ∧ n3 = n + rooms p ∧ Sub v w, fun _ i _ => (l.length - i).toNat, ⟨[], l, rfl, rfl, by simp [rooms], .refl v⟩, ?_⟩
  rintro n3 i w ⟨p, r, hpr, rfl, rfl, hs⟩
  dsimp only
  have hle : l.length = p.length + r.length := by rw [hpr, List.length_append]
  have hml := markL_len p n
  refine ⟨fun hi => ?_, fun hi => ?_⟩
  · simp only [decide_eq_true_eq, decide_eq_false_iff_not, Bool.and_eq_true, Bool.and_eq_false_iff, Bool.or_eq_true, Bool.or_eq_false_iff, Bool.not_eq_true', Bool.not_eq_false', Bool.not_true, Bool.not_false, Bool.false_eq_true, Bool.true_eq_false, Int.not_lt, Int.not_le, ge_iff_le, gt_iff_lt, Bool.not_eq_eq_eq_not, Bool.true_or, Bool.or_true, Bool.false_or, Bool.or_false, Bool.true_and, Bool.and_true, false_or, or_false, true_and, and_true, Decidable.not_not] at hi
    obtain ⟨c, r, rfl⟩ : ∃ c r', r = c :: r' := by
      cases r with
      | nil => simp at hle; omega
      | cons c r => exact ⟨c, r, rfl⟩
    simp only [List.length_cons] at hle
    have hrm : rooms l = rooms p + (Mark.room c + rooms r) := by rw [hpr, rooms_app, rooms_cons]
    have hroom : Mark.room c = 1 + 1 + 1 + 1 + c.args.length + c.jumps.length := rfl
    have hi0 : (0 : Int) ≤ (p.length : Int) := by omega
    have hlt : (p.length : Int) < (markL n l).length := by rw [markL_len]; omega
    have hrs : rooms (p ++ [c]) = rooms p + Mark.room c := by rw [rooms_app, rooms_one]
    have hnth : nth (markL n l) (p.length : Int) = Mark.mark (n + rooms p) c := by
      rw [hpr, markL_app]
      exact nth_mid _ _ _ (by rw [hml])
    generalize he : n + (rooms p : Int) = e at *
    replace hnth : nth (markL n l) (p.length : Int) = (⟨e, e + 1, e + 1 + 1, e + 1 + 1 + 1, marks (e + 1 + 1 + 1 + 1) c.args.length, marks (e + 1 + 1 + 1 + 1 + c.args.length) c.jumps.length⟩ : InstrD) := hnth
    refine go_ix hx hi0 hlt ?_
    refine ld_instr_op (hx.src hs) hi0 hlt ?_
    rw [hnth]
    intro _ _
    refine ⟨fun hc => ?_, fun _ => ?_⟩
    · simp only [decide_eq_true_eq, decide_eq_false_iff_not, Bool.and_eq_true, Bool.and_eq_false_iff, Bool.or_eq_true, Bool.or_eq_false_iff, Bool.not_eq_true', Bool.not_eq_false', Bool.not_true, Bool.not_false, Bool.false_eq_true, Bool.true_eq_false, Int.not_lt, Int.not_le, ge_iff_le, gt_iff_lt, Bool.not_eq_eq_eq_not, Bool.true_or, Bool.or_true, Bool.false_or, Bool.or_false, Bool.true_and, Bool.and_true, false_or, or_false, true_and, and_true, Decidable.not_not] at hc; exact (hc trivial).elim
    refine go_wr (by omega) (by omega) ?_
    refine go_ix hx hi0 hlt ?_
    refine ld_instr_dst (hx.src hs) hi0 hlt ?_
    rw [hnth]
    intro _ _
    refine ⟨fun hc => ?_, fun _ => ?_⟩
    · simp only [decide_eq_true_eq, decide_eq_false_iff_not, Bool.and_eq_true, Bool.and_eq_false_iff, Bool.or_eq_true, Bool.or_eq_false_iff, Bool.not_eq_true', Bool.not_eq_false', Bool.not_true, Bool.not_false, Bool.false_eq_true, Bool.true_eq_false, Int.not_lt, Int.not_le, ge_iff_le, gt_iff_lt, Bool.not_eq_eq_eq_not, Bool.true_or, Bool.or_true, Bool.false_or, Bool.or_false, Bool.true_and, Bool.and_true, false_or, or_false, true_and, and_true, Decidable.not_not] at hc; exact (hc trivial).elim
    refine go_wr (by omega) (by omega) ?_
    refine go_ix hx hi0 hlt ?_
    refine ld_instr_num (hx.src hs) hi0 hlt ?_
    rw [hnth]
    intro _ _
    refine ⟨fun hc => ?_, fun _ => ?_⟩
    · simp only [decide_eq_true_eq, decide_eq_false_iff_not, Bool.and_eq_true, Bool.and_eq_false_iff, Bool.or_eq_true, Bool.or_eq_false_iff, Bool.not_eq_true', Bool.not_eq_false', Bool.not_true, Bool.not_false, Bool.false_eq_true, Bool.true_eq_false, Int.not_lt, Int.not_le, ge_iff_le, gt_iff_lt, Bool.not_eq_eq_eq_not, Bool.true_or, Bool.or_true, Bool.false_or, Bool.or_false, Bool.true_and, Bool.and_true, false_or, or_false, true_and, and_true, Decidable.not_not] at hc; exact (hc trivial).elim
    refine go_wr (by omega) (by omega) ?_
    refine go_ix hx hi0 hlt ?_
    refine ld_instr_into (hx.src hs) hi0 hlt ?_
    rw [hnth]
    intro _ _
    refine ⟨fun hc => ?_, fun _ => ?_⟩
    · simp only [decide_eq_true_eq, decide_eq_false_iff_not, Bool.and_eq_true, Bool.and_eq_false_iff, Bool.or_eq_true, Bool.or_eq_false_iff, Bool.not_eq_true', Bool.not_eq_false', Bool.not_true, Bool.not_false, Bool.false_eq_true, Bool.true_eq_false, Int.not_lt, Int.not_le, ge_iff_le, gt_iff_lt, Bool.not_eq_eq_eq_not, Bool.true_or, Bool.or_true, Bool.false_or, Bool.or_false, Bool.true_and, Bool.and_true, false_or, or_false, true_and, and_true, Decidable.not_not] at hc; exact (hc trivial).elim
    refine go_wr (by omega) (by omega) ?_
    refine go_ix hx hi0 hlt ?_
    refine ld_instr_args (hx.src hs) hi0 hlt ?_
    rw [hnth]
    intro f4 hf4
    replace hf4 := hf4.mono hs
    refine ⟨_, c_heldIntS hf4 (by omega) (by omega), fun hc => ?_, fun _ => ?_⟩
    · simp only [decide_eq_true_eq, decide_eq_false_iff_not, Bool.and_eq_true, Bool.and_eq_false_iff, Bool.or_eq_true, Bool.or_eq_false_iff, Bool.not_eq_true', Bool.not_eq_false', Bool.not_true, Bool.not_false, Bool.false_eq_true, Bool.true_eq_false, Int.not_lt, Int.not_le, ge_iff_le, gt_iff_lt, Bool.not_eq_eq_eq_not, Bool.true_or, Bool.or_true, Bool.false_or, Bool.or_false, Bool.true_and, Bool.and_true, false_or, or_false, true_and, and_true, Decidable.not_not] at hc; omega
    refine go_ix hx hi0 hlt ?_
    refine ld_instr_jumps (hx.src hs) hi0 hlt ?_
    rw [hnth]
    intro f5 hf5
    replace hf5 := hf5.mono hs
    refine ⟨_, c_heldIntS hf5 (by omega) (by omega), fun hc => ?_, fun _ => ?_⟩
    · simp only [decide_eq_true_eq, decide_eq_false_iff_not, Bool.and_eq_true, Bool.and_eq_false_iff, Bool.or_eq_true, Bool.or_eq_false_iff, Bool.not_eq_true', Bool.not_eq_false', Bool.not_true, Bool.not_false, Bool.false_eq_true, Bool.true_eq_false, Int.not_lt, Int.not_le, ge_iff_le, gt_iff_lt, Bool.not_eq_eq_eq_not, Bool.true_or, Bool.or_true, Bool.false_or, Bool.or_false, Bool.true_and, Bool.and_true, false_or, or_false, true_and, and_true, Decidable.not_not] at hc; omega
    refine go_wr (by omega) (by omega) ?_
    exact ⟨⟨p ++ [c], r, by rw [hpr]; simp, by simp, by rw [hrs]; omega, hs⟩, by omega⟩
  · simp only [decide_eq_true_eq, decide_eq_false_iff_not, Bool.and_eq_true, Bool.and_eq_false_iff, Bool.or_eq_true, Bool.or_eq_false_iff, Bool.not_eq_true', Bool.not_eq_false', Bool.not_true, Bool.not_false, Bool.false_eq_true, Bool.true_eq_false, Int.not_lt, Int.not_le, ge_iff_le, gt_iff_lt, Bool.not_eq_eq_eq_not, Bool.true_or, Bool.or_true, Bool.false_or, Bool.or_false, Bool.true_and, Bool.and_true, false_or, or_false, true_and, and_true, Decidable.not_not] at hi
    have hr : r = [] := List.eq_nil_of_length_eq_zero (by omega)
    subst hr
    rw [List.append_nil] at hpr
    subst hpr
    exact ⟨rfl, hs⟩
end

instance : Mark ProcD := ⟨fun c => c.params.length + c.lent.length + 1 + 1 + rooms c.code, fun n c => ⟨marks (n) c.params.length, marks (n + c.params.length) c.lent.length, n + c.params.length + c.lent.length, n + c.params.length + c.lent.length + 1, markL (n + c.params.length + c.lent.length + 1 + 1) c.code⟩⟩
section
variable {u v w : World} {x y : Sl} {l m : List ProcD} {n b i : Int} {I J L R : Items}
theorem c_markProcS (hO : OwnD x l I) (hS : St u w (I ++ R)) (n0 : 0 ≤ n) (n1 : n + rooms l ≤ 1000000000000000) :
    Trip Try.prog 35 #[x.val, .int .i64 n] w fun r w' => ∃ I', r = .int .i64 (n + rooms l) ∧ OwnD x (markL n l) I' ∧ St u w' (I' ++ R) := by
  refine of35 _ _ _ _ ?_
  unfold vc35
  have hn := hO.n
  have hle0 := hO.le
  refine ⟨fun n3 i w => ∃ (p r : List ProcD) (I : Items), l = p ++ r ∧ i = p.length ∧ n3 = n + rooms p ∧ OwnD x (markL n p ++ r) I ∧ St u w (I ++ R), fun _ i _ => (l.length - i).toNat, ⟨[], l, I, rfl, rfl, by simp [rooms], hO, hS⟩, ?_⟩
  clear hO hS
  rintro n3 i w ⟨p, r, I, hpr, rfl, rfl, hO, hS⟩
  dsimp only
  have hle : l.length = p.length + r.length := by rw [hpr, List.length_append]
  have hml := markL_len p n
  refine ⟨fun hi => ?_, fun hi => ?_⟩
  · simp only [decide_eq_true_eq, decide_eq_false_iff_not, Bool.and_eq_true, Bool.and_eq_false_iff, Bool.or_eq_true, Bool.or_eq_false_iff, Bool.not_eq_true', Bool.not_eq_false', Bool.not_true, Bool.not_false, Bool.false_eq_true, Bool.true_eq_false, Int.not_lt, Int.not_le, ge_iff_le, gt_iff_lt, Bool.not_eq_eq_eq_not, Bool.true_or, Bool.or_true, Bool.false_or, Bool.or_false, Bool.true_and, Bool.and_true, false_or, or_false, true_and, and_true, Decidable.not_not] at hi
    obtain ⟨c, r, rfl⟩ : ∃ c r', r = c :: r' := by
      cases r with
      | nil => simp at hle; omega
      | cons c r => exact ⟨c, r, rfl⟩
    simp only [List.length_cons] at hle
    have hrm : rooms l = rooms p + (Mark.room c + rooms r) := by rw [hpr, rooms_app, rooms_cons]
    have hroom : Mark.room c = c.params.length + c.lent.length + 1 + 1 + rooms c.code := rfl
    have hi0 : (0 : Int) ≤ (p.length : Int) := by omega
    have hlt : ∀ d : ProcD, (p.length : Int) < (markL n p ++ d :: r).length := fun d => by simp; omega
    have hpm : (p.length : Int) = (markL n p).length := by rw [hml]
    have hsn := markL_snoc p c n
    have hrs : rooms (p ++ [c]) = rooms p + Mark.room c := by rw [rooms_app, rooms_one]
    generalize he : n + (rooms p : Int) = e at *
    refine ⟨hO.ix hi0 (hlt _), ?_⟩
    obtain ⟨row, K, Rest, hrow, hperm, hcell, hput⟩ := hO.borrow hi0 (hlt _)
    rw [nth_mid _ _ _ hpm] at hrow
    obtain ⟨f_params, f_lent, f_code, K_params, K_lent, K_code, rfl, q_result, q_regs, o_params, o_lent, o_code, rfl⟩ := hrow
    have hS2 : St u _ (K_params ++ (K_lent ++ (K_code ++ (Rest ++ R)))) := hS.perm (by
      classical
      have hc := hperm.count_eq
      exact List.perm_iff_count.2 fun a => by have := hc a; simp only [List.count_append] at *; omega)
    refine ⟨f_params, hcell _ (hS2.items (I := Rest)) 0 _ rfl, ?_⟩
    refine Trip.mono' (c_markIntS (l := c.params) (o_params u) hS2 (by omega) (by omega)) ?_
    rintro _ w0 ⟨K'_params, rfl, o'_params, hS⟩
    replace hO := hput (⟨marks (e) c.params.length, c.lent, c.result, c.regs, c.code⟩ : ProcD) (K'_params ++ (K_lent ++ K_code)) ⟨f_params, f_lent, f_code, _, _, _, rfl, q_result, q_regs, o'_params.toAll, o_lent, o_code, rfl⟩
    rw [set_mid _ _ _ _ hpm] at hO
    replace hS : St u w0 (((K'_params ++ (K_lent ++ K_code)) ++ Rest) ++ R) := hS.perm (by
      classical
      exact List.perm_iff_count.2 fun a => by simp only [List.count_append]; omega)
    refine ⟨_, rfl, ?_⟩
    refine ⟨hO.ix hi0 (hlt _), ?_⟩
    obtain ⟨row, K, Rest, hrow, hperm, hcell, hput⟩ := hO.borrow hi0 (hlt _)
    rw [nth_mid _ _ _ hpm] at hrow
    obtain ⟨f_params, f_lent, f_code, K_params, K_lent, K_code, rfl, q_result, q_regs, o_params, o_lent, o_code, rfl⟩ := hrow
    have hS2 : St u _ (K_lent ++ (K_params ++ (K_code ++ (Rest ++ R)))) := hS.perm (by
      classical
      have hc := hperm.count_eq
      exact List.perm_iff_count.2 fun a => by have := hc a; simp only [List.count_append] at *; omega)
    refine ⟨f_lent, hcell _ (hS2.items (I := Rest)) 1 _ rfl, ?_⟩
    refine Trip.mono' (c_markIntS (l := c.lent) (o_lent u) hS2 (by omega) (by omega)) ?_
    rintro _ w1 ⟨K'_lent, rfl, o'_lent, hS⟩
    replace hO := hput (⟨marks (e) c.params.length, marks (e + c.params.length) c.lent.length, c.result, c.regs, c.code⟩ : ProcD) (K_params ++ (K'_lent ++ K_code)) ⟨f_params, f_lent, f_code, _, _, _, rfl, q_result, q_regs, o_params, o'_lent.toAll, o_code, rfl⟩
    rw [set_mid _ _ _ _ hpm] at hO
    replace hS : St u w1 (((K_params ++ (K'_lent ++ K_code)) ++ Rest) ++ R) := hS.perm (by
      classical
      exact List.perm_iff_count.2 fun a => by simp only [List.count_append]; omega)
    refine ⟨_, rfl, ?_⟩
    refine ⟨hO.ix hi0 (hlt _), ?_⟩
    refine OwnD.store hO hS hi0 (hlt _) (⟨marks (e) c.params.length, marks (e + c.params.length) c.lent.length, e + c.params.length + c.lent.length, c.regs, c.code⟩ : ProcD) [] (Nat.le_of_ble_eq_true rfl) (fun r' K hr => ?_) ?_
    · rw [nth_mid _ _ _ hpm] at hr
      obtain ⟨f_params, f_lent, f_code, K_params, K_lent, K_code, rfl, q_result, q_regs, o_params, o_lent, o_code, rfl⟩ := hr
      exact ⟨_, ⟨f_params, f_lent, f_code, _, _, _, rfl, (show InI (e + c.params.length + c.lent.length) from ⟨by omega, by omega⟩), q_regs, o_params, o_lent, o_code, rfl⟩, .inr ⟨rfl, rfl⟩⟩
    intro w2 I2 hO hS
    rw [List.append_nil, set_mid _ _ _ _ hpm] at hO
    refine go_wr (by omega) (by omega) ?_
    refine ⟨hO.ix hi0 (hlt _), ?_⟩
    refine OwnD.store hO hS hi0 (hlt _) (⟨marks (e) c.params.length, marks (e + c.params.length) c.lent.length, e + c.params.length + c.lent.length, e + c.params.length + c.lent.length + 1, c.code⟩ : ProcD) [] (Nat.le_of_ble_eq_true rfl) (fun r' K hr => ?_) ?_
    · rw [nth_mid _ _ _ hpm] at hr
      obtain ⟨f_params, f_lent, f_code, K_params, K_lent, K_code, rfl, q_result, q_regs, o_params, o_lent, o_code, rfl⟩ := hr
      exact ⟨_, ⟨f_params, f_lent, f_code, _, _, _, rfl, q_result, (show InI (e + c.params.length + c.lent.length + 1) from ⟨by omega, by omega⟩), o_params, o_lent, o_code, rfl⟩, .inr ⟨rfl, rfl⟩⟩
    intro w3 I3 hO hS
    rw [List.append_nil, set_mid _ _ _ _ hpm] at hO
    refine go_wr (by omega) (by omega) ?_
    refine ⟨hO.ix hi0 (hlt _), ?_⟩
    obtain ⟨row, K, Rest, hrow, hperm, hcell, hput⟩ := hO.borrow hi0 (hlt _)
    rw [nth_mid _ _ _ hpm] at hrow
    obtain ⟨f_params, f_lent, f_code, K_params, K_lent, K_code, rfl, q_result, q_regs, o_params, o_lent, o_code, rfl⟩ := hrow
    have hS2 : St u _ (K_code ++ (K_params ++ (K_lent ++ (Rest ++ R)))) := hS.perm (by
      classical
      have hc := hperm.count_eq
      exact List.perm_iff_count.2 fun a => by have := hc a; simp only [List.count_append] at *; omega)
    refine ⟨f_code, hcell _ (hS2.items (I := Rest)) 4 _ rfl, ?_⟩
    refine Trip.mono' (c_markInstrS (l := c.code) o_code hS2 (by omega) (by omega)) ?_
    rintro _ w4 ⟨K'_code, rfl, o'_code, hS⟩
    replace hO := hput (⟨marks (e) c.params.length, marks (e + c.params.length) c.lent.length, e + c.params.length + c.lent.length, e + c.params.length + c.lent.length + 1, markL (e + c.params.length + c.lent.length + 1 + 1) c.code⟩ : ProcD) (K_params ++ (K_lent ++ K'_code)) ⟨f_params, f_lent, f_code, _, _, _, rfl, q_result, q_regs, o_params, o_lent, o'_code, rfl⟩
    rw [set_mid _ _ _ _ hpm] at hO
    replace hS : St u w4 (((K_params ++ (K_lent ++ K'_code)) ++ Rest) ++ R) := hS.perm (by
      classical
      exact List.perm_iff_count.2 fun a => by simp only [List.count_append]; omega)
    refine ⟨_, rfl, ?_⟩
    refine go_wr (by omega) (by omega) ?_
    refine ⟨⟨p ++ [c], r, _, by rw [hpr]; simp, by simp, by rw [hrs]; omega, ?_, hS⟩, by omega⟩
    rw [hsn, List.append_assoc]
    exact hO
  · simp only [decide_eq_true_eq, decide_eq_false_iff_not, Bool.and_eq_true, Bool.and_eq_false_iff, Bool.or_eq_true, Bool.or_eq_false_iff, Bool.not_eq_true', Bool.not_eq_false', Bool.not_true, Bool.not_false, Bool.false_eq_true, Bool.true_eq_false, Int.not_lt, Int.not_le, ge_iff_le, gt_iff_lt, Bool.not_eq_eq_eq_not, Bool.true_or, Bool.or_true, Bool.false_or, Bool.or_false, Bool.true_and, Bool.and_true, false_or, or_false, true_and, and_true, Decidable.not_not] at hi
    have hr : r = [] := List.eq_nil_of_length_eq_zero (by omega)
    subst hr
    rw [List.append_nil] at hpr hO
    subst hpr
    exact ⟨I, rfl, hO, hS⟩
theorem c_heldProcS (hx : Read v x (markL n l)) (n0 : 0 ≤ n) (n1 : n + rooms l ≤ 1000000000000000) : Fn Try.prog 40 #[x.val, .int .i64 n] v (.int .i64 (n + rooms l)) := by
  refine of40 _ _ _ _ ?_
  unfold vc40
  have hn := hx.n
  have hle0 := hx.le
  rw [markL_len] at hn hle0
  refine ⟨fun n3 i w => ∃ (p r : List ProcD), l = p ++ r ∧ i = p.length ∧ n3 = n + rooms p ∧ Sub v w, fun _ i _ => (l.length - i).toNat, ⟨[], l, rfl, rfl, by simp [rooms], .refl v⟩, ?_⟩
  rintro n3 i w ⟨p, r, hpr, rfl, rfl, hs⟩
  dsimp only
  have hle : l.length = p.length + r.length := by rw [hpr, List.length_append]
  have hml := markL_len p n
  refine ⟨fun hi => ?_, fun hi => ?_⟩
  · simp only [decide_eq_true_eq, decide_eq_false_iff_not, Bool.and_eq_true, Bool.and_eq_false_iff, Bool.or_eq_true, Bool.or_eq_false_iff, Bool.not_eq_true', Bool.not_eq_false', Bool.not_true, Bool.not_false, Bool.false_eq_true, Bool.true_eq_false, Int.not_lt, Int.not_le, ge_iff_le, gt_iff_lt, Bool.not_eq_eq_eq_not, Bool.true_or, Bool.or_true, Bool.false_or, Bool.or_false, Bool.true_and, Bool.and_true, false_or, or_false, true_and, and_true, Decidable.not_not] at hi
    obtain ⟨c, r, rfl⟩ : ∃ c r', r = c :: r' := by
      cases r with
      | nil => simp at hle; omega
      | cons c r => exact ⟨c, r, rfl⟩
    simp only [List.length_cons] at hle
    have hrm : rooms l = rooms p + (Mark.room c + rooms r) := by rw [hpr, rooms_app, rooms_cons]
    have hroom : Mark.room c = c.params.length + c.lent.length + 1 + 1 + rooms c.code := rfl
    have hi0 : (0 : Int) ≤ (p.length : Int) := by omega
    have hlt : (p.length : Int) < (markL n l).length := by rw [markL_len]; omega
    have hrs : rooms (p ++ [c]) = rooms p + Mark.room c := by rw [rooms_app, rooms_one]
    have hnth : nth (markL n l) (p.length : Int) = Mark.mark (n + rooms p) c := by
      rw [hpr, markL_app]
      exact nth_mid _ _ _ (by rw [hml])
    generalize he : n + (rooms p : Int) = e at *
    replace hnth : nth (markL n l) (p.length : Int) = (⟨marks (e) c.params.length, marks (e + c.params.length) c.lent.length, e + c.params.length + c.lent.length, e + c.params.length + c.lent.length + 1, markL (e + c.params.length + c.lent.length + 1 + 1) c.code⟩ : ProcD) := hnth
    refine go_ix hx hi0 hlt ?_
    refine ld_proc_params (hx.src hs) hi0 hlt ?_
    rw [hnth]
    intro f0 hf0
    replace hf0 := hf0.mono hs
    refine ⟨_, c_heldIntS hf0 (by omega) (by omega), fun hc => ?_, fun _ => ?_⟩
    · simp only [decide_eq_true_eq, decide_eq_false_iff_not, Bool.and_eq_true, Bool.and_eq_false_iff, Bool.or_eq_true, Bool.or_eq_false_iff, Bool.not_eq_true', Bool.not_eq_false', Bool.not_true, Bool.not_false, Bool.false_eq_true, Bool.true_eq_false, Int.not_lt, Int.not_le, ge_iff_le, gt_iff_lt, Bool.not_eq_eq_eq_not, Bool.true_or, Bool.or_true, Bool.false_or, Bool.or_false, Bool.true_and, Bool.and_true, false_or, or_false, true_and, and_true, Decidable.not_not] at hc; omega
    refine go_ix hx hi0 hlt ?_
    refine ld_proc_lent (hx.src hs) hi0 hlt ?_
    rw [hnth]
    intro f1 hf1
    replace hf1 := hf1.mono hs
    refine ⟨_, c_heldIntS hf1 (by omega) (by omega), fun hc => ?_, fun _ => ?_⟩
    · simp only [decide_eq_true_eq, decide_eq_false_iff_not, Bool.and_eq_true, Bool.and_eq_false_iff, Bool.or_eq_true, Bool.or_eq_false_iff, Bool.not_eq_true', Bool.not_eq_false', Bool.not_true, Bool.not_false, Bool.false_eq_true, Bool.true_eq_false, Int.not_lt, Int.not_le, ge_iff_le, gt_iff_lt, Bool.not_eq_eq_eq_not, Bool.true_or, Bool.or_true, Bool.false_or, Bool.or_false, Bool.true_and, Bool.and_true, false_or, or_false, true_and, and_true, Decidable.not_not] at hc; omega
    refine go_ix hx hi0 hlt ?_
    refine ld_proc_result (hx.src hs) hi0 hlt ?_
    rw [hnth]
    intro _ _
    refine ⟨fun hc => ?_, fun _ => ?_⟩
    · simp only [decide_eq_true_eq, decide_eq_false_iff_not, Bool.and_eq_true, Bool.and_eq_false_iff, Bool.or_eq_true, Bool.or_eq_false_iff, Bool.not_eq_true', Bool.not_eq_false', Bool.not_true, Bool.not_false, Bool.false_eq_true, Bool.true_eq_false, Int.not_lt, Int.not_le, ge_iff_le, gt_iff_lt, Bool.not_eq_eq_eq_not, Bool.true_or, Bool.or_true, Bool.false_or, Bool.or_false, Bool.true_and, Bool.and_true, false_or, or_false, true_and, and_true, Decidable.not_not] at hc; exact (hc trivial).elim
    refine go_wr (by omega) (by omega) ?_
    refine go_ix hx hi0 hlt ?_
    refine ld_proc_regs (hx.src hs) hi0 hlt ?_
    rw [hnth]
    intro _ _
    refine ⟨fun hc => ?_, fun _ => ?_⟩
    · simp only [decide_eq_true_eq, decide_eq_false_iff_not, Bool.and_eq_true, Bool.and_eq_false_iff, Bool.or_eq_true, Bool.or_eq_false_iff, Bool.not_eq_true', Bool.not_eq_false', Bool.not_true, Bool.not_false, Bool.false_eq_true, Bool.true_eq_false, Int.not_lt, Int.not_le, ge_iff_le, gt_iff_lt, Bool.not_eq_eq_eq_not, Bool.true_or, Bool.or_true, Bool.false_or, Bool.or_false, Bool.true_and, Bool.and_true, false_or, or_false, true_and, and_true, Decidable.not_not] at hc; exact (hc trivial).elim
    refine go_wr (by omega) (by omega) ?_
    refine go_ix hx hi0 hlt ?_
    refine ld_proc_code (hx.src hs) hi0 hlt ?_
    rw [hnth]
    intro f4 hf4
    replace hf4 := hf4.mono hs
    refine ⟨_, c_heldInstrS hf4 (by omega) (by omega), fun hc => ?_, fun _ => ?_⟩
    · simp only [decide_eq_true_eq, decide_eq_false_iff_not, Bool.and_eq_true, Bool.and_eq_false_iff, Bool.or_eq_true, Bool.or_eq_false_iff, Bool.not_eq_true', Bool.not_eq_false', Bool.not_true, Bool.not_false, Bool.false_eq_true, Bool.true_eq_false, Int.not_lt, Int.not_le, ge_iff_le, gt_iff_lt, Bool.not_eq_eq_eq_not, Bool.true_or, Bool.or_true, Bool.false_or, Bool.or_false, Bool.true_and, Bool.and_true, false_or, or_false, true_and, and_true, Decidable.not_not] at hc; omega
    refine go_wr (by omega) (by omega) ?_
    exact ⟨⟨p ++ [c], r, by rw [hpr]; simp, by simp, by rw [hrs]; omega, hs⟩, by omega⟩
  · simp only [decide_eq_true_eq, decide_eq_false_iff_not, Bool.and_eq_true, Bool.and_eq_false_iff, Bool.or_eq_true, Bool.or_eq_false_iff, Bool.not_eq_true', Bool.not_eq_false', Bool.not_true, Bool.not_false, Bool.false_eq_true, Bool.true_eq_false, Int.not_lt, Int.not_le, ge_iff_le, gt_iff_lt, Bool.not_eq_eq_eq_not, Bool.true_or, Bool.or_true, Bool.false_or, Bool.or_false, Bool.true_and, Bool.and_true, false_or, or_false, true_and, and_true, Decidable.not_not] at hi
    have hr : r = [] := List.eq_nil_of_length_eq_zero (by omega)
    subst hr
    rw [List.append_nil] at hpr
    subst hpr
    exact ⟨rfl, hs⟩
end

end Go.Vc

namespace Go.Vc
open Go Go.Proofs Go.RowKit
set_option linter.all false
/-- integers of one's own -/
def OwnI (x : Sl) (l : List Int) (J : Items) : Prop := ∀ u, Own u x l J
/-- an image as a datum -/
structure ImD where
  decls : List DeclD
  procs : List ProcD
def markIm (m : ImD) : ImD := ⟨markL 1 m.decls, markL (1 + rooms m.decls) m.procs⟩
def endIm (m : ImD) : Int := 1 + rooms m.decls + rooms m.procs
section
variable {α : Type} [Mark α] [Cost α]
theorem rooms_cost (h : ∀ a : α, Mark.room a ≤ 4 + 4 * Cost.cost a) (l : List α) : rooms l ≤ 4 * costL l := by
  unfold rooms costL
  induction l with
  | nil => simp
  | cons a r ih => have := h a; simp only [List.map_cons, List.sum_cons, List.length_cons]; omega
theorem rooms_le {B : Nat} : ∀ (l : List α), (∀ a ∈ l, Mark.room a ≤ B) → rooms l ≤ B * l.length
  | [], _ => by simp [rooms]
  | a :: r, h => by
    have h1 := rooms_le r fun b hb => h b (List.mem_cons_of_mem _ hb)
    have h2 := h a List.mem_cons_self
    rw [rooms_cons, List.length_cons, Nat.mul_add]
    omega
end
theorem roomsC (l : List ConD) : rooms l ≤ 4 * costL l := rooms_cost (fun a => by show a.fields.length ≤ 4 + 4 * a.fields.length; omega) l
theorem roomsD (l : List DeclD) : rooms l ≤ 4 * costL l := rooms_cost (fun a => by show 1 + 1 + rooms a.cons ≤ 4 + 4 * costL a.cons; have := roomsC a.cons; omega) l
theorem roomsI (l : List InstrD) : rooms l ≤ 4 * costL l := rooms_cost (fun a => by show 1 + 1 + 1 + 1 + a.args.length + a.jumps.length ≤ 4 + 4 * (a.args.length + a.jumps.length); omega) l
theorem roomsP (l : List ProcD) : rooms l ≤ 4 * costL l := rooms_cost (fun a => by show a.params.length + a.lent.length + 1 + 1 + rooms a.code ≤ 4 + 4 * (a.params.length + a.lent.length + costL a.code); have := roomsI a.code; omega) l
theorem endIm_le {m : ImD} (h : costL m.decls + costL m.procs ≤ 1048576) : endIm m ≤ 100000000 := by
  have h1 := roomsD m.decls
  have h2 := roomsP m.procs
  unfold endIm
  omega
theorem endIm_pos (m : ImD) : 1 ≤ endIm m := by unfold endIm; omega
section
variable {u v w : World} {x y z t s : Sl} {l ws : List Int} {m m' : ImD} {b n : Int} {a : Addr} {I J K L R : Items} {F : Items → Items}
theorem OwnI.read (h : OwnI x l I) (hS : St u w L) [p : Pos I L R F] : Read w x l := Own.read (h u) hS
theorem OwnI.read1 (h : OwnI x l I) (hS : St u w I) : Read w x l := Own.read1 (h u) hS
theorem c_toImageM (hx : Read v x m.decls) (hy : Read v y m.procs) : Mk Try.prog 9 #[.agg #[x.val, y.val]] v fun r J => ∃ t s I K, r = .agg #[t.val, s.val] ∧ OwnD t m.decls I ∧ OwnD s m.procs K ∧ J = I ++ K := c_toImage hx hy
theorem c_eqImageM (hx : Read v x m.decls) (hy : Read v y m.procs) (hz : Read v z m'.decls) (ht : Read v t m'.procs) : Fn Try.prog 11 #[.agg #[x.val, y.val], .agg #[z.val, t.val]] v (.bool (decide (m.decls = m'.decls) && decide (m.procs = m'.procs))) := c_eqImage hx hy hz ht
theorem c_markImageM (hO : OwnD x m.decls I) (hP : OwnD y m.procs J) (hS : St u w (I ++ (J ++ R))) (hn : endIm m ≤ 1000000000000000) :
    Trip Try.prog 15 #[.agg #[x.val, y.val], .int .i64 1] w fun r w' => ∃ I' J', r = .int .i64 (endIm m) ∧ OwnD x (markIm m).decls I' ∧ OwnD y (markIm m).procs J' ∧ St u w' (I' ++ (J' ++ R)) := by
  refine of15 _ _ _ _ _ ?_
  unfold vc15
  unfold endIm at hn
  refine Trip.mono' (c_markDeclS hO hS (by omega) (by omega)) ?_
  rintro _ w1 ⟨I1, rfl, h1, hS⟩
  refine ⟨_, rfl, ?_⟩
  replace hS : St u w1 (J ++ (I1 ++ R)) := hS.perm (by
    classical
    exact List.perm_iff_count.2 fun a => by simp only [List.count_append]; omega)
  refine Trip.mono' (c_markProcS hP hS (by omega) (by omega)) ?_
  rintro _ w2 ⟨J1, rfl, h2, hS⟩
  refine ⟨_, rfl, I1, J1, rfl, h1, h2, hS.perm (by
    classical
    exact List.perm_iff_count.2 fun a => by simp only [List.count_append]; omega)⟩
theorem c_heldImageM (hx : Read v x (markIm m).decls) (hy : Read v y (markIm m).procs) (hn : endIm m ≤ 1000000000000000) :
    Fn Try.prog 21 #[.agg #[x.val, y.val], .int .i64 1] v (.int .i64 (endIm m)) := by
  refine of21 _ _ _ _ _ ?_
  unfold vc21
  unfold endIm at hn ⊢
  refine ⟨_, c_heldDeclS (l := m.decls) hx (by omega) (by omega), fun hc => ?_, fun _ => ?_⟩
  · simp only [decide_eq_true_eq, decide_eq_false_iff_not, Bool.and_eq_true, Bool.and_eq_false_iff, Bool.or_eq_true, Bool.or_eq_false_iff, Bool.not_eq_true', Bool.not_eq_false', Bool.not_true, Bool.not_false, Bool.false_eq_true, Bool.true_eq_false, Int.not_lt, Int.not_le, ge_iff_le, gt_iff_lt, Bool.not_eq_eq_eq_not, Bool.true_or, Bool.or_true, Bool.false_or, Bool.or_false, Bool.true_and, Bool.and_true, false_or, or_false, true_and, and_true, Decidable.not_not] at hc; omega
  refine ⟨_, c_heldProcS (l := m.procs) hy (by omega) (by omega), fun hc => ?_, fun _ => ⟨rfl, .refl v⟩⟩
  simp only [decide_eq_true_eq, decide_eq_false_iff_not, Bool.and_eq_true, Bool.and_eq_false_iff, Bool.or_eq_true, Bool.or_eq_false_iff, Bool.not_eq_true', Bool.not_eq_false', Bool.not_true, Bool.not_false, Bool.false_eq_true, Bool.true_eq_false, Int.not_lt, Int.not_le, ge_iff_le, gt_iff_lt, Bool.not_eq_eq_eq_not, Bool.true_or, Bool.or_true, Bool.false_or, Bool.or_false, Bool.true_and, Bool.and_true, false_or, or_false, true_and, and_true, Decidable.not_not] at hc; omega
/-! ### the law of EncodeImage -/
end
end Go.Vc

namespace Go.Vc
open Go Go.Proofs Go.RowKit
set_option linter.all false
/-! ### filling a slice, with stores that do not finish an element -/
section
variable {α : Type} [DatO α] [Inhabited α] {u v w : World} {x y z : Sl} {g l : List α} {I J K R L : Items} {F : Items → Items} {q q' : Nat → List Value → Prop}
theorem OwnG.weak {i : Nat} (h : OwnG q i x g I) (hq : ∀ j r, i ≤ j → q j r → q' j r) : OwnG q' i x g I := by
  obtain ⟨rows, I0, Is, k1, k2, k3, k4, k5, k6, k7, k8⟩ := h
  exact ⟨rows, I0, Is, k1, k2, k3, k4, k5, fun j r hj hr => hq j r hj (k6 j r hj hr), k7, k8⟩
theorem OwnG.row {i : Int} (h : OwnG q i.toNat x g I) (h0 : 0 ≤ i) (hi : i < g.length) : ∃ r, q i.toNat r ∧ ∀ w : World, AtAll w I → ∀ (j : Nat) (v : Value), r[j]? = some v → w.cell? ((elA x i (Dat.sz α)).add j) = some v := by
  obtain ⟨rows, I0, Is, k1, k2, k3, k4, k5, k6, k7, k8⟩ := h
  have hlt : i.toNat < rows.length := by omega
  have er := List.getElem?_eq_getElem hlt
  refine ⟨_, k6 _ _ (Nat.le_refl _) er, fun w hA j v hv => ?_⟩
  exact (k1.rd (w := w) fun p hp => (hA.perm k7.symm) p (List.mem_append_left _ hp)).at_ h0 er hv
theorem OwnG.put {i : Int} (h : OwnG q i.toNat x g I) (hS : St u w (I ++ R)) (h0 : 0 ≤ i) (hi : i < g.length) {off : Nat} {vals : List Value} (hv : off + vals.length ≤ Dat.sz α) {Kt : World → Prop}
    (k : ∀ w' I', OwnG (fun j r => if j = i.toNat then ∃ r0, q j r0 ∧ r = putR r0 off vals else q j r) i.toNat x g I' → St u w' (I' ++ R) → Kt w') : StoreAt w (elA x i (Dat.sz α)) off vals Kt := by
  obtain ⟨rows, I0, Is, k1, k2, k3, k4, k5, k6, k7, k8⟩ := h
  have hlt : i.toNat < rows.length := by omega
  have er := List.getElem?_eq_getElem hlt
  have hS1 : St u w (I0 ++ (Is.flatten ++ R)) := hS.perm (by
    classical
    exact List.perm_iff_count.2 fun a => by have := k7.count_eq a; simp only [List.count_append] at *; omega)
  obtain ⟨c1, I0', c2, c3⟩ := k1.store hS1 h0 er hv
  refine ⟨c1, k _ (I0' ++ Is.flatten) ⟨_, I0', Is, c2, by simpa using k2, k3, k4, fun j r a K' hr ha hK => ?_, fun j r hj hr => ?_, .refl _, k8⟩ (by rw [List.append_assoc]; exact c3)⟩
  · rw [List.getElem?_set] at hr
    split at hr
    · rename_i e
      subst e
      have := (List.getElem?_eq_some_iff.1 hK).1
      omega
    · exact k5 j r a K' hr ha hK
  · rw [List.getElem?_set] at hr
    split at hr
    · rename_i e
      subst e
      simp only [hlt, if_true, Option.some.injEq] at hr
      rw [if_pos rfl]
      exact ⟨_, k6 _ _ (Nat.le_refl _) er, hr.symm⟩
    · rename_i e
      rw [if_neg (by omega)]
      exact k6 j r hj hr
theorem OwnG.adv {i : Int} (h : OwnG q i.toNat x g I) (h0 : 0 ≤ i) (hi : i < g.length) (hown : ∀ r, q i.toNat r → DatO.own r (nth g i) K) : OwnG q (i + 1).toNat x g (I ++ K) := by
  obtain ⟨rows, I0, Is, k1, k2, k3, k4, k5, k6, k7, k8⟩ := h
  have hlt : i.toNat < rows.length := by omega
  have er := List.getElem?_eq_getElem hlt
  refine ⟨rows, I0, Is ++ [K], k1, k2, by simp; omega, by omega, fun j r a K' hr ha hK => ?_, fun j r hj hr => k6 j r (by omega) hr, ?_, k8⟩
  · by_cases e : j = i.toNat
    · subst e
      rw [List.getElem?_append_right (by omega), show i.toNat - Is.length = 0 from by omega] at hK
      simp only [List.getElem?_cons_zero, Option.some.injEq] at hK
      subst hK
      have := nth_of (i := i) ha
      rw [← this]
      exact hown _ (k6 _ _ (Nat.le_refl _) hr)
    · have hj : j < Is.length := by
        have := (List.getElem?_eq_some_iff.1 hK).1
        simp only [List.length_append, List.length_singleton] at this
        omega
      rw [List.getElem?_append_left hj] at hK
      exact k5 j r a K' hr ha hK
  · classical
    exact List.perm_iff_count.2 fun a => by have := k7.count_eq a; simp only [List.flatten_append, List.flatten_cons, List.flatten_nil, List.append_nil, List.count_append] at *; omega
/-- a shallow copy, to be filled -/
theorem OwnG.ofOwn (h : Own u x g I) : OwnG (fun j r => ∃ a, g[j]? = some a ∧ Dat.cells BB u r a) 0 x g I := by
  obtain ⟨rows, k1, k2, k3⟩ := h
  refine .start k1 k2.1 (fun j r hr => ?_) k3
  have hj : j < g.length := by rw [← k2.1]; exact (List.getElem?_eq_some_iff.1 hr).1
  exact ⟨g[j], List.getElem?_eq_getElem hj, k2.2 j r _ hr (List.getElem?_eq_getElem hj)⟩
/-- append(x, a) for an owned a -/
theorem OwnD.pushC {P : Program} {t ty : TypeId} {bytes : Nat} {zc : List Value} [hT : SlT P t (Dat.sz α) bytes zc] {cs : List Value} {a : α} (h : OwnD x l I) (hS : St u w (I ++ (J ++ R)))
    (hy : Rows w y (Dat.sz α) [cs]) (ho : DatO.own cs a J) (hb : l.length + 1 ≤ 1099511627776) (hby : bytes ≤ 128) {Q : Value → World → Prop}
    (k : ∀ x' w' I', OwnD x' (l ++ [a]) I' → St u w' (I' ++ R) → Q x'.val w') : StepT P (Builtin.append_ #[t, t] ty #[x.val, y.val]) w Q :=
  h.push hS hy ho (DatO.read ho (fun z hz => hS.at_ z (by simp [hz]))) hb hby fun x' w' I' k1 k2 => k x' w' _ k1 (by rw [List.append_assoc]; exact k2)
theorem OwnD.addS {P : Program} {t ty : TypeId} {bytes : Nat} {zc : List Value} [hT : SlT P t (Dat.sz α) bytes zc] {val : Value} {a : α} (h : OwnD x l I) (hS : St u w (I ++ (J ++ R)))
    (hsz : val.cells.size = Dat.sz α) (ho : DatO.own val.cells.toList a J) (hs2 : Dat.sz α ≤ 100) (hb : l.length + 1 ≤ 1099511627776) (hby : bytes ≤ 128) {Q : Sl → World → Prop}
    (k : ∀ x' w' I', OwnD x' (l ++ [a]) I' → St u w' (I' ++ R) → Q x' w') :
    StepT P (Instr.buildSlice t 1 #[(0, val)]) w fun r w2 => ∃ z : Sl, r = z.val ∧ Sub w w2 ∧ StepT P (Builtin.append_ #[t, t] ty #[x.val, z.val]) w2 fun r2 w3 => ∃ x' : Sl, r2 = x'.val ∧ Q x' w3 := by
  refine St.buildR hS (fun v hv => ?_) rfl (by omega) ?_
  · simp only [List.map_cons, List.map_nil, List.mem_singleton] at hv; rw [hv]; exact hsz
  intro x3 w3 I3 hB hS hs _
  refine ⟨_, rfl, hs, ?_⟩
  have hy : Rows w3 x3 (Dat.sz α) [val.cells.toList] := hB.rd hS.items
  have hS2 : St u w3 (I ++ (J ++ R)) := hS.right
  exact h.pushC hS2 hy ho hb hby fun x' w' I' k1 k2 => ⟨x', rfl, k x' w' I' k1 k2⟩
theorem OwnD.add {P : Program} {t ty : TypeId} {bytes : Nat} {zc : List Value} [hT : SlT P t (Dat.sz α) bytes zc] {val : Value} {a : α} (h : OwnD x l I) (hS : St u w (I ++ (J ++ R)))
    (hsz : val.cells.size = Dat.sz α) (ho : DatO.own val.cells.toList a J) (hs2 : Dat.sz α ≤ 100) (hb : l.length + 1 ≤ 1099511627776) (hby : bytes ≤ 128) {Q : Sl → World → Prop}
    (k : ∀ x' w' I', OwnD x' (l ++ [a]) I' → St u w' (I' ++ R) → Q x' w') :
    StepT P (Instr.buildSlice t 1 #[(0, val)]) w fun r w2 => ∃ z : Sl, r = z.val ∧ StepT P (Builtin.append_ #[t, t] ty #[x.val, z.val]) w2 fun r2 w3 => ∃ x' : Sl, r2 = x'.val ∧ Q x' w3 := by
  refine St.buildR hS (fun v hv => ?_) rfl (by omega) ?_
  · simp only [List.map_cons, List.map_nil, List.mem_singleton] at hv; rw [hv]; exact hsz
  intro x3 w3 I3 hB hS hs _
  refine ⟨_, rfl, ?_⟩
  have hy : Rows w3 x3 (Dat.sz α) [val.cells.toList] := hB.rd hS.items
  have hS2 : St u w3 (I ++ (J ++ R)) := hS.right
  exact h.pushC hS2 hy ho hb hby fun x' w' I' k1 k2 => ⟨x', rfl, k x' w' I' k1 k2⟩
/-- an empty slice that was made -/
theorem OwnD.ofEmpty (h : Own u x ([] : List α) I) : OwnD x ([] : List α) I := by
  obtain ⟨rows, k1, k2, k3⟩ := h
  have e : rows = [] := List.eq_nil_of_length_eq_zero (by simpa using k2.1)
  subst e
  exact ⟨[], I, [], [], k1, by simp, by simp, fun i r a K h => by simp at h, by simp, by simp⟩
end

/-! ### what comes behind a call -/
inductive Br (code : List InstrD) : Int → Int → Bool → Prop where
  | jump {a r : Int} {q : Bool} : (nth code a).op = 22 → a < (nth code a).num → Br code (nth code a).num r q → Br code a r q
  | move {a r : Int} {q : Bool} : (nth code a).op = 18 → nth (nth code a).args 0 = r → Br code (a + 1) (nth code a).dst q → Br code a r q
  | stop {a r : Int} : (nth code a).op ≠ 22 → ¬((nth code a).op = 18 ∧ nth (nth code a).args 0 = r) → Br code a r (decide ((nth code a).op = 23) && decide (nth (nth code a).args 0 = r))
/-- jumps go forward, and code ends -/
structure Fw (code : List InstrD) : Prop where
  len : code.length ≤ 2000
  ok : ∀ i : Int, 0 ≤ i → i < code.length → ((nth code i).op = 22 → i < (nth code i).num ∧ (nth code i).num < code.length) ∧ ((nth code i).op = 18 ∨ (nth code i).op = 9 → i + 1 < code.length) ∧
    ((nth code i).op = 18 ∨ (nth code i).op = 23 → (nth code i).args.length = 1) ∧ ((nth code i).op = 9 → (nth code i).into = 0)
section
variable {code cur : List InstrD} {a r : Int} {q : Bool}
theorem Br.ex (h : Fw code) : ∀ (n : Nat) (a r : Int), 0 ≤ a → a < code.length → (code.length : Int) - a ≤ n → ∃ q, Br code a r q := by
  intro n
  induction n with
  | zero => intro a r h0 h1 h2; omega
  | succ n ih =>
    intro a r h0 h1 h2
    obtain ⟨k1, k2, k3, k4⟩ := h.ok a h0 h1
    by_cases e1 : (nth code a).op = 22
    · obtain ⟨j1, j2⟩ := k1 e1
      obtain ⟨q, hq⟩ := ih (nth code a).num r (by omega) j2 (by omega)
      exact ⟨q, .jump e1 j1 hq⟩
    · by_cases e2 : (nth code a).op = 18 ∧ nth (nth code a).args 0 = r
      · obtain ⟨q, hq⟩ := ih (a + 1) (nth code a).dst (by omega) (k2 (.inl e2.1)) (by omega)
        exact ⟨q, .move e2.1 e2.2 hq⟩
      · exact ⟨_, .stop e1 e2⟩
theorem Br.inv_jump (h : Br code a r q) (e : (nth code a).op = 22) : Br code (nth code a).num r q := by
  cases h with
  | jump _ _ h => exact h
  | move e2 _ _ => omega
  | stop e2 _ => exact absurd e e2
theorem Br.inv_move (h : Br code a r q) (e : (nth code a).op = 18) (e' : nth (nth code a).args 0 = r) : Br code (a + 1) (nth code a).dst q := by
  cases h with
  | jump e2 _ _ => omega
  | move _ _ h => exact h
  | stop _ e2 => exact absurd ⟨e, e'⟩ e2
theorem Br.inv_stop (h : Br code a r q) (e : (nth code a).op ≠ 22) (e' : ¬((nth code a).op = 18 ∧ nth (nth code a).args 0 = r)) : q = (decide ((nth code a).op = 23) && decide (nth (nth code a).args 0 = r)) := by
  cases h with
  | jump e2 _ _ => exact absurd e2 e
  | move e2 e3 _ => exact absurd ⟨e2, e3⟩ e'
  | stop _ _ => rfl
theorem Br.agree (h : Br code a r q) (hc : ∀ j : Int, a ≤ j → nth cur j = nth code j) : Br cur a r q := by
  induction h with
  | @jump a r q e1 e2 _ ih =>
    have e := hc a (Int.le_refl a)
    have := ih (fun j hj => hc j (by omega))
    rw [← e] at e1 e2 this
    exact .jump e1 e2 this
  | @move a r q e1 e2 _ ih =>
    have e := hc a (Int.le_refl a)
    have := ih (fun j hj => hc j (by omega))
    rw [← e] at e1 e2 this
    exact .move e1 e2 this
  | @stop a r e1 e2 =>
    have e := hc a (Int.le_refl a)
    rw [← e] at e1 e2 ⊢
    exact .stop e1 e2
open Classical in
noncomputable def brB (code : List InstrD) (a r : Int) : Bool := if h : ∃ q, Br code a r q then Classical.choose h else false
theorem brB_spec (h : Fw code) (h0 : 0 ≤ a) (h1 : a < code.length) : Br code a r (brB code a r) := by
  have hx := Br.ex h (code.length) a r h0 h1 (by omega)
  unfold brB
  rw [dif_pos hx]
  exact Classical.choose_spec hx
/-- an instruction with tail calls -/
noncomputable def tailI (code : List InstrD) (i : Int) : InstrD := if (nth code i).op = 9 ∧ brB code (i + 1) (nth code i).dst = true then ⟨24, 0, (nth code i).num, 0, (nth code i).args, (nth code i).jumps⟩ else nth code i
noncomputable def tailC (code : List InstrD) : List InstrD := (List.range code.length).map fun (i : Nat) => tailI code i
noncomputable def tailP (p : ProcD) : ProcD := ⟨p.params, p.lent, p.result, p.regs, tailC p.code⟩
theorem tailC_len (code : List InstrD) : (tailC code).length = code.length := by simp [tailC]
theorem tailC_nth {i : Int} (h0 : 0 ≤ i) (h1 : i < code.length) : nth (tailC code) i = tailI code i := by
  refine nth_of ?_
  unfold tailC
  rw [List.getElem?_map, List.getElem?_range (by omega)]
  simp only [Option.map_some]
  congr 2
  omega
theorem tailC_take {i : Int} (h0 : 0 ≤ i) (h1 : i < code.length) : (tailC code).take (i + 1).toNat = (tailC code).take i.toNat ++ [tailI code i] := by
  rw [take_nth h0 (by rw [tailC_len]; exact h1), tailC_nth h0 h1]
end
section
variable {u v w : World} {x y z t s : Sl} {code : List InstrD} {at_ reg : Int} {q : Bool} {ds : List DeclD} {ps : List ProcD}
theorem c_returnsAt (hx : Read v x code) (hf : Fw code) (h0 : 0 ≤ at_) (h1 : at_ < code.length) (hb : Br code at_ reg q) : Fn Try.prog 100 #[x.val, .int .i64 at_, .int .i64 reg] v (.bool q) := by
  refine of100 _ _ _ _ _ ?_
  unfold vc100
  have hxn := hx.n
  have hlen := hf.len
  refine ⟨fun a r w => v = w ∧ 0 ≤ a ∧ a < code.length ∧ Br code a r q, fun a _ _ => (code.length - a).toNat, ⟨rfl, h0, h1, hb⟩, ?_⟩
  clear hb h0 h1
  rintro a r _ ⟨rfl, h0, h1, hb⟩
  dsimp only
  obtain ⟨k1, k2, k3, k4⟩ := hf.ok a h0 h1
  refine ⟨fun _ => ?_, fun hi => ?_⟩
  · obtain ⟨f_args, f_jumps, e1, e2, e3, e4, e5, e6, i1, i2, i3, i4, r1, r2⟩ := (hx.src (.refl v)).ofInstrD h0 h1
    refine go_ix hx h0 h1 ?_
    refine ⟨_, _, _, _, f_args, f_jumps, ⟨e1, e2, e3, e4, e5, e6⟩, ?_⟩
    refine go_ixg r1 (fun hc => ⟨Int.le_refl 0, by have := k3 (.inl (of_decide_eq_true hc)); omega⟩) ?_
    refine ld_intg r1 (fun hc => ⟨Int.le_refl 0, by have := k3 (.inl (of_decide_eq_true hc)); omega⟩) ?_
    refine ⟨fun hq => ?_, fun hq => ?_⟩
    · simp only [Bool.and_eq_true, decide_eq_true_eq] at hq
      have := k2 (.inl hq.1)
      refine go_wr (by omega) (by omega) ?_
      exact ⟨⟨rfl, by omega, by omega, hb.inv_move hq.1 hq.2⟩, by omega⟩
    · have hn : ¬((nth code a).op = 18 ∧ nth (nth code a).args 0 = r) := fun hh => by rw [decide_eq_true hh.1, decide_eq_true hh.2] at hq; cases hq
      refine ⟨fun hj => ?_, fun hj => ?_⟩
      · have e := of_decide_eq_true hj
        obtain ⟨j1, j2⟩ := k1 e
        exact ⟨⟨rfl, by omega, by omega, hb.inv_jump e⟩, by omega⟩
      · refine go_ixg r1 (fun hc => ⟨Int.le_refl 0, by have := k3 (.inr (of_decide_eq_true hc)); omega⟩) ?_
        refine ld_intg r1 (fun hc => ⟨Int.le_refl 0, by have := k3 (.inr (of_decide_eq_true hc)); omega⟩) ?_
        exact ⟨by rw [hb.inv_stop (of_decide_eq_false hj) hn], .refl v⟩
  · simp only [decide_eq_true_eq, decide_eq_false_iff_not, Bool.and_eq_true, Bool.and_eq_false_iff, Bool.or_eq_true, Bool.or_eq_false_iff, Bool.not_eq_true', Bool.not_eq_false', Bool.not_true, Bool.not_false, Bool.false_eq_true, Bool.true_eq_false, Int.not_lt, Int.not_le, ge_iff_le, gt_iff_lt, Bool.not_eq_eq_eq_not, Bool.true_or, Bool.or_true, Bool.false_or, Bool.or_false, Bool.true_and, Bool.and_true, false_or, or_false, true_and, and_true, Decidable.not_not] at hi
    omega
theorem c_bringsBack (hx : Read v x code) (hf : Fw code) (h0 : 0 ≤ at_) (h1 : at_ < code.length) (hb : Br code at_ reg q) : Fn Try.prog 43 #[x.val, .int .i64 at_, .int .i64 reg] v (.bool q) := by
  refine of43 _ _ _ _ _ ?_
  unfold vc43
  have hxn := hx.n
  have hlen := hf.len
  refine ⟨fun a r w => v = w ∧ 0 ≤ a ∧ a < code.length ∧ Br code a r q, fun a _ _ => (code.length - a).toNat, ⟨rfl, h0, h1, hb⟩, ?_⟩
  clear hb h0 h1
  rintro a r _ ⟨rfl, h0, h1, hb⟩
  dsimp only
  obtain ⟨k1, k2, k3, k4⟩ := hf.ok a h0 h1
  obtain ⟨f_args, f_jumps, e1, e2, e3, e4, e5, e6, i1, i2, i3, i4, r1, r2⟩ := (hx.src (.refl v)).ofInstrD h0 h1
  refine go_ix hx h0 h1 ?_
  refine ⟨_, _, _, _, f_args, f_jumps, ⟨e1, e2, e3, e4, e5, e6⟩, fun hj => ?_, fun hj => ?_⟩
  · have e := of_decide_eq_true hj
    obtain ⟨j1, j2⟩ := k1 e
    exact ⟨⟨rfl, by omega, by omega, hb.inv_jump e⟩, by omega⟩
  · refine go_ixg r1 (fun hc => ⟨Int.le_refl 0, by have := k3 (.inl (of_decide_eq_true hc)); omega⟩) ?_
    refine ld_intg r1 (fun hc => ⟨Int.le_refl 0, by have := k3 (.inl (of_decide_eq_true hc)); omega⟩) ?_
    refine ⟨fun hq => ?_, fun hq => ?_⟩
    · simp only [Bool.and_eq_true, decide_eq_true_eq] at hq
      have := k2 (.inl hq.1)
      refine go_wr (by omega) (by omega) ?_
      exact ⟨⟨rfl, by omega, by omega, hb.inv_move hq.1 hq.2⟩, by omega⟩
    · have hn : ¬((nth code a).op = 18 ∧ nth (nth code a).args 0 = r) := fun hh => by rw [decide_eq_true hh.1, decide_eq_true hh.2] at hq; cases hq
      refine go_ixg r1 (fun hc => ⟨Int.le_refl 0, by have := k3 (.inr (of_decide_eq_true hc)); omega⟩) ?_
      refine ld_intg r1 (fun hc => ⟨Int.le_refl 0, by have := k3 (.inr (of_decide_eq_true hc)); omega⟩) ?_
      exact ⟨by rw [hb.inv_stop (of_decide_eq_false hj) hn], .refl v⟩
/-- code of a valid image -/
theorem imOk.fw (h : imOk ds ps) : ∀ p ∈ ps, Fw p.code := by
  intro p hp
  obtain ⟨i, hi, rfl⟩ := List.mem_iff_getElem.1 hp
  have e := nth_of (i := i) (l := ps) (a := ps[i]) (by simp [hi])
  obtain ⟨c1, c2, c3, c4, c5, c6, c7⟩ := h.2 i (by omega) (by omega)
  rw [e] at c1 c2 c3 c4 c5 c6 c7
  refine ⟨c5, fun j j0 j1 => ?_⟩
  have hv := c7 j j0 j1
  unfold instrB at hv
  have hv2 : instrOk ds (ps.map sigOf) ps[i].regs ps[i].code.length j (nth ps[i].code j) := @of_decide_eq_true _ (Classical.propDecidable _) hv
  obtain ⟨k1, k2, k3, k4, k5, k6, k7, k8, k9, k10, k11⟩ := hv2
  have hl : ∀ n : Int, (nth ps[i].code j).op = n → n ≠ 23 → n ≠ 24 → j + 1 < ps[i].code.length := fun n hn h1 h2 => by
    rcases Int.lt_trichotomy (j + 1) ps[i].code.length with h3 | h3 | h3
    · exact h3
    · rw [show (ps[i].code.length : Int) - 1 = j from by omega] at c6
      omega
    · omega
  refine ⟨fun ho => ?_, fun ho => ?_, fun ho => ?_, fun ho => ?_⟩
  · exact (numV_jump (.inr ho)).1 k9
  · rcases ho with ho | ho
    · exact hl 18 ho (by decide) (by decide)
    · exact hl 9 ho (by decide) (by decide)
  · have := arg_1 (ds := ds) (ss := ps.map sigOf) (op := (nth ps[i].code j).op) (num := (nth ps[i].code j).num) (by omega)
    omega
  · rcases k6 with k6 | k6
    · exact k6
    · omega
end
end Go.Vc

namespace Go.Vc
open Go Go.Proofs Go.RowKit
set_option linter.all false
section
variable {u v w : World} {x y z t s : Sl} {ds : List DeclD} {ps : List ProcD} {code : List InstrD} {c : InstrD} {cs : List ConD} {I J K R : Items}
theorem c_copyDecls (hx : Read v x ds) : Mk Try.prog 71 #[x.val] v fun r J => ∃ y, r = y.val ∧ OwnD y ds J := by
  refine of71 _ _ _ ?_
  unfold vc71
  have hn := hx.n
  have hl := hx.le
  refine St.build (α := DeclD) (St.refl v) (by (repeat' (first | exact VsOf.nil | apply VsOf.cons | (apply VOf.int; first | assumption | (constructor <;> first | omega | (simp only [List.length_set, List.length_append, List.length_replicate, List.length_cons, List.length_nil, List.length_take, List.length_drop, List.length_map, List.length_singleton] at *; omega))) | exact VOf.bool | exact VOf.str))) rfl (by decide) ?_
  intro y w1 I1 hO hS hs
  refine ⟨_, rfl, ?_⟩
  refine ⟨fun y i w => ∃ I, OwnD y (ds.take i.toNat) I ∧ St v w (I ++ []) ∧ 0 ≤ i ∧ i ≤ ds.length, fun _ i _ => (ds.length - i).toNat, ⟨I1, .ofEmpty hO, hS, by omega, by omega⟩, ?_⟩
  clear hO hS hs
  rintro y i w ⟨I, hO, hS, h0, h1⟩
  dsimp only
  refine ⟨fun hi => ?_, fun hi => ?_⟩
  · simp only [decide_eq_true_eq, decide_eq_false_iff_not, Bool.and_eq_true, Bool.and_eq_false_iff, Bool.or_eq_true, Bool.or_eq_false_iff, Bool.not_eq_true', Bool.not_eq_false', Bool.not_true, Bool.not_false, Bool.false_eq_true, Bool.true_eq_false, Int.not_lt, Int.not_le, ge_iff_le, gt_iff_lt, Bool.not_eq_eq_eq_not, Bool.true_or, Bool.or_true, Bool.false_or, Bool.or_false, Bool.true_and, Bool.and_true, false_or, or_false, true_and, and_true, Decidable.not_not] at hi
    have hil : i < ds.length := by omega
    refine St.build (α := ConD) hS (by (repeat' (first | exact VsOf.nil | apply VsOf.cons | (apply VOf.int; first | assumption | (constructor <;> first | omega | (simp only [List.length_set, List.length_append, List.length_replicate, List.length_cons, List.length_nil, List.length_take, List.length_drop, List.length_map, List.length_singleton] at *; omega))) | exact VOf.bool | exact VOf.str))) rfl (by decide) ?_
    intro z w2 K2 hK hS hs
    refine ⟨_, rfl, ?_⟩
    refine ⟨fun z k w => ∃ K, OwnD z ((nth ds i).cons.take k.toNat) K ∧ St v w (K ++ (I ++ [])) ∧ 0 ≤ k ∧ k ≤ (nth ds i).cons.length, fun _ k _ => ((nth ds i).cons.length - k).toNat, ⟨K2, .ofEmpty hK, hS, by omega, by omega⟩, ?_⟩
    clear hK hS hs
    rintro z k w ⟨K, hK, hS, k0, k1⟩
    dsimp only
    obtain ⟨f_cons, e1, e2, e3, i1, i2, r1⟩ := (hx.src hS.sub).ofDeclD h0 hil
    have hfn := r1.n
    have hfl := r1.le
    refine go_ix hx h0 hil ?_
    refine ⟨f_cons, e3, fun hi => ?_, fun hi => ?_⟩
    · simp only [decide_eq_true_eq, decide_eq_false_iff_not, Bool.and_eq_true, Bool.and_eq_false_iff, Bool.or_eq_true, Bool.or_eq_false_iff, Bool.not_eq_true', Bool.not_eq_false', Bool.not_true, Bool.not_false, Bool.false_eq_true, Bool.true_eq_false, Int.not_lt, Int.not_le, ge_iff_le, gt_iff_lt, Bool.not_eq_eq_eq_not, Bool.true_or, Bool.or_true, Bool.false_or, Bool.or_false, Bool.true_and, Bool.and_true, false_or, or_false, true_and, and_true, Decidable.not_not] at hi
      have hkl : k < (nth ds i).cons.length := by omega
      refine go_ix hx h0 hil ?_
      refine ⟨f_cons, e3, ?_⟩
      refine go_ix r1 k0 hkl ?_
      refine ld_con_fields (r1.src hS.sub) k0 hkl ?_
      intro g hg
      refine Mk.use (c_copyInts hg) hS ?_
      rintro _ w3 J3 ⟨t, rfl, hT⟩ hS hsub
      refine ⟨_, rfl, ?_⟩
      refine OwnD.add (a := nth (nth ds i).cons k) (J := J3) (R := I ++ []) hK (hS.perm (by
        classical
        exact List.perm_iff_count.2 fun a => by simp only [List.count_append, List.count_nil]; omega)) rfl ⟨t, J3, rfl, hT.toAll, rfl⟩ (by decide) (by simp; omega) (by decide) ?_
      intro z' w4 K4 hK hS
      refine go_wr (by omega) (by omega) ?_
      refine ⟨⟨K4, ?_, hS, by omega, by omega⟩, by omega⟩
      rw [take_nth k0 hkl]; exact hK
    · simp only [decide_eq_true_eq, decide_eq_false_iff_not, Bool.and_eq_true, Bool.and_eq_false_iff, Bool.or_eq_true, Bool.or_eq_false_iff, Bool.not_eq_true', Bool.not_eq_false', Bool.not_true, Bool.not_false, Bool.false_eq_true, Bool.true_eq_false, Int.not_lt, Int.not_le, ge_iff_le, gt_iff_lt, Bool.not_eq_eq_eq_not, Bool.true_or, Bool.or_true, Bool.false_or, Bool.or_false, Bool.true_and, Bool.and_true, false_or, or_false, true_and, and_true, Decidable.not_not] at hi
      rw [take_all (by omega)] at hK
      refine go_ix hx h0 hil ?_
      refine ⟨_, e1, ?_⟩
      refine go_ix hx h0 hil ?_
      refine ⟨_, e2, ?_⟩
      refine OwnD.add (a := nth ds i) (J := K) (R := []) hO (hS.perm (by
        classical
        exact List.perm_iff_count.2 fun a => by simp only [List.count_append, List.count_nil]; omega)) rfl ⟨z, K, rfl, i1, i2, hK, rfl⟩ (by decide) (by simp; omega) (by decide) ?_
      intro y' w4 I4 hO hS
      refine go_wr (by omega) (by omega) ?_
      refine ⟨⟨I4, ?_, hS, by omega, by omega⟩, by omega⟩
      rw [take_nth h0 hil]; exact hO
  · simp only [decide_eq_true_eq, decide_eq_false_iff_not, Bool.and_eq_true, Bool.and_eq_false_iff, Bool.or_eq_true, Bool.or_eq_false_iff, Bool.not_eq_true', Bool.not_eq_false', Bool.not_true, Bool.not_false, Bool.false_eq_true, Bool.true_eq_false, Int.not_lt, Int.not_le, ge_iff_le, gt_iff_lt, Bool.not_eq_eq_eq_not, Bool.true_or, Bool.or_true, Bool.false_or, Bool.or_false, Bool.true_and, Bool.and_true, false_or, or_false, true_and, and_true, Decidable.not_not] at hi
    rw [take_all (by omega)] at hO
    exact ⟨I, by simpa using hS, y, rfl, hO⟩
theorem c_copyInstr {f g : Sl} {a b m n : Int} {l k : List Int} (hf : Read v f l) (hg : Read v g k) : Mk Try.prog 99 #[.agg #[.int .i64 a, .int .i64 b, .int .i64 m, .int .i64 n, f.val, g.val]] v fun r J => ∃ f' g' A B, r = .agg #[.int .i64 a, .int .i64 b, .int .i64 m, .int .i64 n, f'.val, g'.val] ∧ Own v f' l A ∧ Own v g' k B ∧ J = A ++ B := by
  refine of99 _ _ _ _ _ _ _ _ ?_
  unfold vc99
  refine Mk.use (c_copyInts hf) (.refl v) ?_
  rintro _ w1 A ⟨f', rfl, hA⟩ hS hsub
  refine ⟨_, rfl, hsub, ?_⟩
  refine Mk.use (c_copyInts hg) hS ?_
  rintro _ w2 B ⟨g', rfl, hB⟩ hS hsub
  refine ⟨_, rfl, hsub, A ++ B, hS.perm (by
    classical
    exact List.perm_iff_count.2 fun a => by simp only [List.count_append, List.count_nil]; omega), f', g', A, B, rfl, hA, hB, rfl⟩
theorem c_tailCode (hx : Read v x code) (hf : Fw code) : Mk Try.prog 73 #[x.val] v fun r J => ∃ y, r = y.val ∧ OwnD y (tailC code) J := by
  refine of73 _ _ _ ?_
  unfold vc73
  have hn := hx.n
  have hl := hf.len
  refine St.build (α := InstrD) (St.refl v) (by (repeat' (first | exact VsOf.nil | apply VsOf.cons | (apply VOf.int; first | assumption | (constructor <;> first | omega | (simp only [List.length_set, List.length_append, List.length_replicate, List.length_cons, List.length_nil, List.length_take, List.length_drop, List.length_map, List.length_singleton] at *; omega))) | exact VOf.bool | exact VOf.str))) rfl (by decide) ?_
  intro y w1 I1 hO hS hs
  refine ⟨_, rfl, ?_⟩
  refine ⟨fun y i w => ∃ I, OwnD y ((tailC code).take i.toNat) I ∧ St v w (I ++ []) ∧ 0 ≤ i ∧ i ≤ code.length, fun _ i _ => (code.length - i).toNat, ⟨I1, .ofEmpty hO, hS, by omega, by omega⟩, ?_⟩
  clear hO hS hs
  rintro y i w ⟨I, hO, hS, h0, h1⟩
  dsimp only
  refine ⟨fun hi => ?_, fun hi => ?_⟩
  · simp only [decide_eq_true_eq, decide_eq_false_iff_not, Bool.and_eq_true, Bool.and_eq_false_iff, Bool.or_eq_true, Bool.or_eq_false_iff, Bool.not_eq_true', Bool.not_eq_false', Bool.not_true, Bool.not_false, Bool.false_eq_true, Bool.true_eq_false, Int.not_lt, Int.not_le, ge_iff_le, gt_iff_lt, Bool.not_eq_eq_eq_not, Bool.true_or, Bool.or_true, Bool.false_or, Bool.or_false, Bool.true_and, Bool.and_true, false_or, or_false, true_and, and_true, Decidable.not_not] at hi
    have hil : i < code.length := by omega
    obtain ⟨k1, k2, k3, k4⟩ := hf.ok i h0 hil
    obtain ⟨f_args, f_jumps, e1, e2, e3, e4, e5, e6, i1, i2, i3, i4, r1, r2⟩ := (hx.src hS.sub).ofInstrD h0 hil
    refine go_ix hx h0 hil ?_
    refine ⟨_, _, _, _, f_args, f_jumps, ⟨e1, e2, e3, e4, e5, e6⟩, ?_⟩
    refine Mk.use (c_copyInstr r1 r2) hS ?_
    rintro _ w2 _ ⟨f', g', A, B, rfl, hA, hB, rfl⟩ hS hsub
    refine ⟨_, _, _, _, f', g', rfl, ?_⟩
    refine go_wrg (fun _ => by omega) ?_
    refine ⟨brB code (i + 1) (nth code i).dst, fun hc => ?_, fun hq => ?_, fun hq => ?_⟩
    · have := k2 (.inr (of_decide_eq_true hc))
      exact c_returnsAt (hx.mono hS.sub) hf (by omega) (by omega) (brB_spec hf (by omega) (by omega))
    · simp only [Bool.and_eq_true, decide_eq_true_eq] at hq
      have ht : tailI code i = ⟨24, 0, (nth code i).num, 0, (nth code i).args, (nth code i).jumps⟩ := if_pos hq
      refine OwnD.add (a := tailI code i) (J := A ++ B) (R := []) hO (hS.perm (by
        classical
        exact List.perm_iff_count.2 fun a => by simp only [List.count_append, List.count_nil]; omega)) rfl (by rw [ht]; exact ⟨f', g', A, B, rfl, (show InI 24 from ⟨by decide, by decide⟩), zero_in, i3, zero_in, hA.toAll, hB.toAll, rfl⟩) (by decide) (by rw [List.length_take, tailC_len]; omega) (by decide) ?_
      intro y' w4 I4 hO hS
      refine go_wr (by omega) (by omega) ?_
      refine ⟨⟨I4, ?_, hS, by omega, by omega⟩, by omega⟩
      rw [tailC_take h0 hil]; exact hO
    · have ht : tailI code i = nth code i := if_neg fun hh => by rw [decide_eq_true hh.1, hh.2] at hq; cases hq
      refine OwnD.add (a := tailI code i) (J := A ++ B) (R := []) hO (hS.perm (by
        classical
        exact List.perm_iff_count.2 fun a => by simp only [List.count_append, List.count_nil]; omega)) rfl (by rw [ht]; exact ⟨f', g', A, B, rfl, i1, i2, i3, i4, hA.toAll, hB.toAll, rfl⟩) (by decide) (by rw [List.length_take, tailC_len]; omega) (by decide) ?_
      intro y' w4 I4 hO hS
      refine go_wr (by omega) (by omega) ?_
      refine ⟨⟨I4, ?_, hS, by omega, by omega⟩, by omega⟩
      rw [tailC_take h0 hil]; exact hO
  · simp only [decide_eq_true_eq, decide_eq_false_iff_not, Bool.and_eq_true, Bool.and_eq_false_iff, Bool.or_eq_true, Bool.or_eq_false_iff, Bool.not_eq_true', Bool.not_eq_false', Bool.not_true, Bool.not_false, Bool.false_eq_true, Bool.true_eq_false, Int.not_lt, Int.not_le, ge_iff_le, gt_iff_lt, Bool.not_eq_eq_eq_not, Bool.true_or, Bool.or_true, Bool.false_or, Bool.or_false, Bool.true_and, Bool.and_true, false_or, or_false, true_and, and_true, Decidable.not_not] at hi
    rw [take_all (by rw [tailC_len]; omega)] at hO
    exact ⟨I, by simpa using hS, y, rfl, hO⟩
theorem c_specTailCalls0 (hx : Read v x ds) (hy : Read v y ps) (hf : ∀ p ∈ ps, Fw p.code) (hp : ps.length ≤ 100) : Mk Try.prog 41 #[.agg #[x.val, y.val]] v fun r J => ∃ t s A B, r = .agg #[t.val, s.val] ∧ OwnD t ds A ∧ OwnD s (ps.map tailP) B ∧ J = A ++ B := by
  refine of41 _ _ _ _ ?_
  unfold vc41
  have hyn := hy.n
  refine Mk.use (c_copyDecls hx) (.refl v) ?_
  rintro _ w1 A ⟨t, rfl, hA⟩ hS hsub
  refine ⟨_, rfl, ?_⟩
  refine St.build (α := ProcD) hS (by (repeat' (first | exact VsOf.nil | apply VsOf.cons | (apply VOf.int; first | assumption | (constructor <;> first | omega | (simp only [List.length_set, List.length_append, List.length_replicate, List.length_cons, List.length_nil, List.length_take, List.length_drop, List.length_map, List.length_singleton] at *; omega))) | exact VOf.bool | exact VOf.str))) rfl (by decide) ?_
  intro s w2 I2 hO hS hs
  refine ⟨_, rfl, ?_⟩
  refine ⟨fun i s w => ∃ I, OwnD s ((ps.take i.toNat).map tailP) I ∧ St v w (I ++ (A ++ [])) ∧ 0 ≤ i ∧ i ≤ ps.length, fun i _ _ => (ps.length - i).toNat, ⟨I2, .ofEmpty hO, hS, by omega, by omega⟩, ?_⟩
  clear hO hS hs hsub
  rintro i s w ⟨I, hO, hS, h0, h1⟩
  dsimp only
  refine ⟨fun hi => ?_, fun hi => ?_⟩
  · simp only [decide_eq_true_eq, decide_eq_false_iff_not, Bool.and_eq_true, Bool.and_eq_false_iff, Bool.or_eq_true, Bool.or_eq_false_iff, Bool.not_eq_true', Bool.not_eq_false', Bool.not_true, Bool.not_false, Bool.false_eq_true, Bool.true_eq_false, Int.not_lt, Int.not_le, ge_iff_le, gt_iff_lt, Bool.not_eq_eq_eq_not, Bool.true_or, Bool.or_true, Bool.false_or, Bool.or_false, Bool.true_and, Bool.and_true, false_or, or_false, true_and, and_true, Decidable.not_not] at hi
    have hil : i < ps.length := by omega
    obtain ⟨f1, f2, f3, e1, e2, e3, e4, e5, j1, j2, r1, r2, r3⟩ := (hy.src hS.sub).ofProcD h0 hil
    refine go_ix hy h0 hil ?_
    refine ⟨f1, f2, _, _, f3, ⟨e1, e2, e3, e4, e5⟩, ?_⟩
    refine Mk.use (c_copyInts r1) hS ?_
    rintro _ w3 J1 ⟨g1, rfl, hg1⟩ hS hsub
    refine ⟨_, rfl, hsub, ?_⟩
    refine Mk.use (c_copyInts r2) hS ?_
    rintro _ w4 J2 ⟨g2, rfl, hg2⟩ hS hsub
    refine ⟨_, rfl, hsub, ?_⟩
    refine Mk.use (c_tailCode r3 (hf _ (nth_mem h0 hil))) hS ?_
    rintro _ w5 J3 ⟨g3, rfl, hg3⟩ hS hsub
    refine ⟨_, rfl, hsub, ?_⟩
    refine OwnD.addS (a := tailP (nth ps i)) (J := J1 ++ (J2 ++ J3)) (R := A ++ []) hO (hS.perm (by
      classical
      exact List.perm_iff_count.2 fun a => by simp only [List.count_append, List.count_nil]; omega)) rfl ⟨g1, g2, g3, J1, J2, J3, rfl, j1, j2, hg1.toAll, hg2.toAll, hg3, rfl⟩ (by decide) (by simp; omega) (by decide) ?_
    intro s' w6 I6 hO hS
    refine go_wr (by omega) (by omega) ?_
    refine ⟨rfl, rfl, rfl, rfl, rfl, ⟨I6, ?_, hS, by omega, by omega⟩, by omega⟩
    rw [take_nth h0 hil, List.map_append]; exact hO
  · simp only [decide_eq_true_eq, decide_eq_false_iff_not, Bool.and_eq_true, Bool.and_eq_false_iff, Bool.or_eq_true, Bool.or_eq_false_iff, Bool.not_eq_true', Bool.not_eq_false', Bool.not_true, Bool.not_false, Bool.false_eq_true, Bool.true_eq_false, Int.not_lt, Int.not_le, ge_iff_le, gt_iff_lt, Bool.not_eq_eq_eq_not, Bool.true_or, Bool.or_true, Bool.false_or, Bool.or_false, Bool.true_and, Bool.and_true, false_or, or_false, true_and, and_true, Decidable.not_not] at hi
    rw [take_all (by omega)] at hO
    exact ⟨A ++ I, hS.perm (by
      classical
      exact List.perm_iff_count.2 fun a => by simp only [List.count_append, List.count_nil]; omega), t, s, A, I, rfl, hA, hO, rfl⟩
end
/-- the image with tail calls -/
noncomputable def tailIm (m : ImD) : ImD := if pB (imOk m.decls m.procs) = true then ⟨m.decls, m.procs.map tailP⟩ else ⟨[], []⟩
section
variable {u v w : World} {x y z t s : Sl} {m : ImD}
theorem c_specTailCalls (hx : Read v x m.decls) (hy : Read v y m.procs) : Mk Try.prog 22 #[.agg #[x.val, y.val]] v fun r J => ∃ t s A B, r = .tuple #[.agg #[t.val, s.val], .bool (pB (imOk m.decls m.procs))] ∧ OwnD t (tailIm m).decls A ∧ OwnD s (tailIm m).procs B ∧ J = A ++ B := by
  refine of22 _ _ _ _ ?_
  unfold vc22
  refine ⟨_, c_validImage hx hy, fun hq => ?_, fun hq => ?_⟩
  · have hq : pB (imOk m.decls m.procs) = false := by simpa using hq
    unfold tailIm
    rw [hq, if_neg (by decide)]
    exact ⟨[], St.refl v, ⟨none, 0, 0⟩, ⟨none, 0, 0⟩, [], [], rfl, OwnD.nil, OwnD.nil, rfl⟩
  · have hq : pB (imOk m.decls m.procs) = true := by simpa using hq
    have hok := pB_iff.1 hq
    have hl := hok.sm.2.2.2
    unfold tailIm
    rw [hq, if_pos rfl]
    refine Trip.mono' (c_specTailCalls0 hx hy hok.fw (by omega)) ?_
    rintro _ w1 ⟨J, hS, t, s, A, B, rfl, hA, hB, rfl⟩
    exact ⟨_, _, rfl, A ++ B, hS, t, s, A, B, rfl, hA, hB, rfl⟩
end
end Go.Vc

namespace Go.Vc
open Go Go.Proofs Go.RowKit
set_option linter.all false
section
variable {u v w : World} {x y z t s : Sl} {ds : List DeclD} {ps : List ProcD} {code : List InstrD} {c : InstrD} {cs : List ConD} {I J K R : Items}
theorem c_cloneConS (hx : Read v x cs) : Mk Try.prog 102 #[x.val] v fun r J => ∃ y, r = y.val ∧ Own v y cs J := by
  refine of102 _ _ _ ?_
  unfold vc102
  have hS := St.refl v
  have hl := hx.le
  refine go_nil ⟨fun hc => ?_, fun _ => ?_⟩
  · have := hx.nil_of (Option.isNone_iff_eq_none.1 hc)
    subst this
    exact ⟨[], hS, _, rfl, Own.nil v⟩
  refine St.build (α := ConD) hS (by (repeat' (first | exact VsOf.nil | apply VsOf.cons | (apply VOf.int; first | assumption | (constructor <;> first | omega | (simp only [List.length_set, List.length_append, List.length_replicate, List.length_cons, List.length_nil, List.length_take, List.length_drop, List.length_map, List.length_singleton] at *; omega))) | exact VOf.bool | exact VOf.str))) rfl (by decide) ?_
  intro x1 w1 I1 hO hS hs
  refine ⟨_, rfl, ?_⟩
  refine Own.append hO hS (hx.src hS.sub) (by simp; omega) (by decide) ?_
  intro x2 w2 I2 hO hS
  exact ⟨_, rfl, I2, by simpa using hS, _, rfl, by simpa using hO⟩
theorem c_cloneDeclS (hx : Read v x ds) : Mk Try.prog 101 #[x.val] v fun r J => ∃ y, r = y.val ∧ Own v y ds J := by
  refine of101 _ _ _ ?_
  unfold vc101
  have hS := St.refl v
  have hl := hx.le
  refine go_nil ⟨fun hc => ?_, fun _ => ?_⟩
  · have := hx.nil_of (Option.isNone_iff_eq_none.1 hc)
    subst this
    exact ⟨[], hS, _, rfl, Own.nil v⟩
  refine St.build (α := DeclD) hS (by (repeat' (first | exact VsOf.nil | apply VsOf.cons | (apply VOf.int; first | assumption | (constructor <;> first | omega | (simp only [List.length_set, List.length_append, List.length_replicate, List.length_cons, List.length_nil, List.length_take, List.length_drop, List.length_map, List.length_singleton] at *; omega))) | exact VOf.bool | exact VOf.str))) rfl (by decide) ?_
  intro x1 w1 I1 hO hS hs
  refine ⟨_, rfl, ?_⟩
  refine Own.append hO hS (hx.src hS.sub) (by simp; omega) (by decide) ?_
  intro x2 w2 I2 hO hS
  exact ⟨_, rfl, I2, by simpa using hS, _, rfl, by simpa using hO⟩
theorem c_cloneInstrS (hx : Read v x code) : Mk Try.prog 76 #[x.val] v fun r J => ∃ y, r = y.val ∧ Own v y code J := by
  refine of76 _ _ _ ?_
  unfold vc76
  have hS := St.refl v
  have hl := hx.le
  refine go_nil ⟨fun hc => ?_, fun _ => ?_⟩
  · have := hx.nil_of (Option.isNone_iff_eq_none.1 hc)
    subst this
    exact ⟨[], hS, _, rfl, Own.nil v⟩
  refine St.build (α := InstrD) hS (by (repeat' (first | exact VsOf.nil | apply VsOf.cons | (apply VOf.int; first | assumption | (constructor <;> first | omega | (simp only [List.length_set, List.length_append, List.length_replicate, List.length_cons, List.length_nil, List.length_take, List.length_drop, List.length_map, List.length_singleton] at *; omega))) | exact VOf.bool | exact VOf.str))) rfl (by decide) ?_
  intro x1 w1 I1 hO hS hs
  refine ⟨_, rfl, ?_⟩
  refine Own.append hO hS (hx.src hS.sub) (by simp; omega) (by decide) ?_
  intro x2 w2 I2 hO hS
  exact ⟨_, rfl, I2, by simpa using hS, _, rfl, by simpa using hO⟩

theorem c_cloneDecls (hx : Read v x ds) : Mk Try.prog 74 #[x.val] v fun r J => ∃ y, r = y.val ∧ OwnD y ds J := by
  refine of74 _ _ _ ?_
  unfold vc74
  have hn := hx.n
  have hl := hx.le
  refine Mk.use (c_cloneDeclS hx) (.refl v) ?_
  rintro _ w1 J1 ⟨y, rfl, hO⟩ hS hsub
  have hyn := hO.n
  refine ⟨_, rfl, ?_⟩
  refine ⟨fun i w => ∃ I, OwnG (fun j r => ∃ a, ds[j]? = some a ∧ Dat.cells BB v r a) i.toNat y ds I ∧ St v w (I ++ []) ∧ 0 ≤ i ∧ i ≤ ds.length, fun i _ => (ds.length - i).toNat, ⟨J1, OwnG.ofOwn hO, hS, by omega, by omega⟩, ?_⟩
  clear hO hS hsub
  rintro i w ⟨I, hO, hS, h0, h1⟩
  dsimp only
  refine ⟨fun hi => ?_, fun hi => ?_⟩
  · simp only [decide_eq_true_eq, decide_eq_false_iff_not, Bool.and_eq_true, Bool.and_eq_false_iff, Bool.or_eq_true, Bool.or_eq_false_iff, Bool.not_eq_true', Bool.not_eq_false', Bool.not_true, Bool.not_false, Bool.false_eq_true, Bool.true_eq_false, Int.not_lt, Int.not_le, ge_iff_le, gt_iff_lt, Bool.not_eq_eq_eq_not, Bool.true_or, Bool.or_true, Bool.false_or, Bool.or_false, Bool.true_and, Bool.and_true, false_or, or_false, true_and, and_true, Decidable.not_not] at hi
    have hil : i < ds.length := by omega
    obtain ⟨r, ⟨d, hd, hcl⟩, hcell⟩ := hO.row h0 hil
    rw [nth_get h0 hil] at hd
    simp only [Option.some.injEq] at hd
    subst hd
    obtain ⟨f_cons, rfl, i1, i2, r1⟩ := hcl
    replace r1 : Read v f_cons (nth ds i).cons := r1
    have hA := hS.items (I := I)
    have hfn := r1.n
    have hfl := r1.le
    refine ⟨hO.ix h0 hil, ?_⟩
    refine ⟨_, _, f_cons, ⟨hcell w hA 0 _ rfl, hcell w hA 1 _ rfl, hcell w hA 2 _ rfl⟩, ?_⟩
    refine Mk.use (c_cloneConS r1) hS ?_
    rintro _ w2 K2 ⟨z, rfl, hZ⟩ hS hsub
    have hzn := hZ.n
    refine ⟨_, rfl, hO.ix h0 hil, ?_⟩
    refine OwnG.put (R := K2 ++ []) hO (hS.perm (by
        classical
        exact List.perm_iff_count.2 fun a => by simp only [List.count_append, List.count_nil]; omega)) h0 hil (Nat.le_of_ble_eq_true rfl) ?_
    intro w3 I3 hO hS
    refine ⟨fun k w => ∃ I K, OwnG (fun j r => if j = i.toNat then ∃ r0, (∃ a, ds[j]? = some a ∧ Dat.cells BB v r0 a) ∧ r = putR r0 2 [z.val] else ∃ a, ds[j]? = some a ∧ Dat.cells BB v r a) i.toNat y ds I ∧ OwnG (fun j r => ∃ a, (nth ds i).cons[j]? = some a ∧ Dat.cells BB v r a) k.toNat z (nth ds i).cons K ∧ St v w (I ++ (K ++ [])) ∧ 0 ≤ k ∧ k ≤ (nth ds i).cons.length, fun k _ => ((nth ds i).cons.length - k).toNat, ⟨I3, K2, hO, OwnG.ofOwn hZ, hS, by omega, by omega⟩, ?_⟩
    clear hO hZ hS hsub hcell hA
    rintro k w ⟨I, K, hO, hK, hS, k0, k1⟩
    dsimp only
    have hrow : ∀ r, (if i.toNat = i.toNat then ∃ r0, (∃ a, ds[i.toNat]? = some a ∧ Dat.cells BB v r0 a) ∧ r = putR r0 2 [z.val] else ∃ a, ds[i.toNat]? = some a ∧ Dat.cells BB v r a) → r = [intV (nth ds i).frm, intV (nth ds i).to_, z.val] ∧ InI (nth ds i).frm ∧ InI (nth ds i).to_ := by
      intro r hr
      rw [if_pos rfl] at hr
      obtain ⟨r0, ⟨a, ha, hca⟩, rfl⟩ := hr
      rw [nth_get h0 hil] at ha
      simp only [Option.some.injEq] at ha
      subst ha
      obtain ⟨f, rfl, i1, i2, _⟩ := hca
      exact ⟨rfl, i1, i2⟩
    refine ⟨fun hi => ?_, fun hi => ?_⟩
    · simp only [decide_eq_true_eq, decide_eq_false_iff_not, Bool.and_eq_true, Bool.and_eq_false_iff, Bool.or_eq_true, Bool.or_eq_false_iff, Bool.not_eq_true', Bool.not_eq_false', Bool.not_true, Bool.not_false, Bool.false_eq_true, Bool.true_eq_false, Int.not_lt, Int.not_le, ge_iff_le, gt_iff_lt, Bool.not_eq_eq_eq_not, Bool.true_or, Bool.or_true, Bool.false_or, Bool.or_false, Bool.true_and, Bool.and_true, false_or, or_false, true_and, and_true, Decidable.not_not] at hi
      have hkl : k < (nth ds i).cons.length := by omega
      refine go_ix r1 k0 hkl ?_
      refine ld_con_fields (r1.src hS.sub) k0 hkl ?_
      intro g hg
      obtain ⟨r, hr, hcell⟩ := hO.row h0 hil
      obtain ⟨rfl, _, _⟩ := hrow r hr
      refine ⟨hO.ix h0 hil, z, hcell w (hS.items (I := I)) 2 _ rfl, ?_⟩
      refine Mk.use (c_cloneInts hg) hS ?_
      rintro _ w4 L4 ⟨q, rfl, hQ⟩ hS hsub
      refine ⟨_, rfl, hsub, hK.ix k0 hkl, ?_⟩
      refine OwnG.step (K := L4) (R := I ++ []) hK (hS.perm (by
        classical
        exact List.perm_iff_count.2 fun a => by simp only [List.count_append, List.count_nil]; omega)) k0 hkl (Nat.le_of_ble_eq_true rfl) (fun r hr => ?_) ?_
      · obtain ⟨a, _, f, rfl, _⟩ := hr
        exact ⟨q, L4, rfl, hQ.toAll, rfl⟩
      intro w5 K5 hK hS
      refine go_wr (by omega) (by omega) ?_
      refine ⟨rfl, rfl, rfl, ⟨I, K5, hO, hK, hS.perm (by
        classical
        exact List.perm_iff_count.2 fun a => by simp only [List.count_append, List.count_nil]; omega), by omega, by omega⟩, by omega⟩
    · simp only [decide_eq_true_eq, decide_eq_false_iff_not, Bool.and_eq_true, Bool.and_eq_false_iff, Bool.or_eq_true, Bool.or_eq_false_iff, Bool.not_eq_true', Bool.not_eq_false', Bool.not_true, Bool.not_false, Bool.false_eq_true, Bool.true_eq_false, Int.not_lt, Int.not_le, ge_iff_le, gt_iff_lt, Bool.not_eq_eq_eq_not, Bool.true_or, Bool.or_true, Bool.false_or, Bool.or_false, Bool.true_and, Bool.and_true, false_or, or_false, true_and, and_true, Decidable.not_not] at hi
      rw [show k.toNat = (nth ds i).cons.length from by omega] at hK
      have hK := hK.done
      have hO2 := OwnG.adv (K := K) hO h0 hil (fun r hr => by
        obtain ⟨rfl, i1, i2⟩ := hrow r hr
        exact ⟨z, K, rfl, i1, i2, hK, rfl⟩)
      refine go_wr (by omega) (by omega) ?_
      refine ⟨⟨I ++ K, hO2.weak fun j r hj hq => ?_, hS.perm (by
        classical
        exact List.perm_iff_count.2 fun a => by simp only [List.count_append, List.count_nil]; omega), by omega, by omega⟩, by omega⟩
      rw [if_neg (by omega)] at hq
      exact hq
  · simp only [decide_eq_true_eq, decide_eq_false_iff_not, Bool.and_eq_true, Bool.and_eq_false_iff, Bool.or_eq_true, Bool.or_eq_false_iff, Bool.not_eq_true', Bool.not_eq_false', Bool.not_true, Bool.not_false, Bool.false_eq_true, Bool.true_eq_false, Int.not_lt, Int.not_le, ge_iff_le, gt_iff_lt, Bool.not_eq_eq_eq_not, Bool.true_or, Bool.or_true, Bool.false_or, Bool.or_false, Bool.true_and, Bool.and_true, false_or, or_false, true_and, and_true, Decidable.not_not] at hi
    rw [show i.toNat = ds.length from by omega] at hO
    exact ⟨I, by simpa using hS, y, rfl, hO.done⟩

/-- one element of copied code gets its own lists -/
theorem clone_puts {code : List InstrD} {i : Int} {f g : Sl} {A B : Items} {Kt : World → Prop} (hO : OwnG (fun j r => ∃ a, code[j]? = some a ∧ Dat.cells BB v r a) i.toNat y code I) (hS : St v w (B ++ (A ++ (I ++ R)))) (h0 : 0 ≤ i) (hil : i < code.length)
    (hA : Own v f (nth code i).args A) (hB : Own v g (nth code i).jumps B)
    (k : ∀ w' I', OwnG (fun j r => ∃ a, code[j]? = some a ∧ Dat.cells BB v r a) (i + 1).toNat y code I' → St v w' (I' ++ R) → Kt w') :
    StoreAt w (elA y i 6) 4 [f.val] fun w' => IxOk y i ∧ StoreAt w' (elA y i 6) 5 [g.val] Kt := by
  refine OwnG.put (R := B ++ (A ++ R)) hO (hS.perm (by
    classical
    exact List.perm_iff_count.2 fun a => by simp only [List.count_append, List.count_nil]; omega)) h0 hil (Nat.le_of_ble_eq_true rfl) ?_
  intro w1 I1 hO hS
  refine ⟨hO.ix h0 hil, ?_⟩
  refine OwnG.step (K := A ++ B) (R := R) hO (hS.perm (by
    classical
    exact List.perm_iff_count.2 fun a => by simp only [List.count_append, List.count_nil]; omega)) h0 hil (Nat.le_of_ble_eq_true rfl) (fun r hr => ?_) ?_
  · rw [if_pos rfl] at hr
    obtain ⟨r0, ⟨a, ha, hca⟩, rfl⟩ := hr
    rw [nth_get h0 hil] at ha
    simp only [Option.some.injEq] at ha
    subst ha
    obtain ⟨f0, g0, rfl, i1, i2, i3, i4, _, _⟩ := hca
    exact ⟨f, g, A, B, rfl, i1, i2, i3, i4, hA.toAll, hB.toAll, rfl⟩
  intro w2 I2 hO hS
  exact k w2 I2 (hO.weak fun j r hj hq => by rw [if_neg (by omega)] at hq; exact hq) hS
theorem c_cloneImage (hx : Read v x ds) (hy : Read v y ps) (hp : ps.length ≤ 100) : Mk Try.prog 42 #[.agg #[x.val, y.val]] v fun r J => ∃ t s A B, r = .agg #[t.val, s.val] ∧ OwnD t ds A ∧ OwnD s ps B ∧ J = A ++ B := by
  refine of42 _ _ _ _ ?_
  unfold vc42
  have hyn := hy.n
  refine Mk.use (c_cloneDecls hx) (.refl v) ?_
  rintro _ w1 A ⟨t, rfl, hA⟩ hS hsub
  refine ⟨_, rfl, ?_⟩
  refine ⟨fun i s w => ∃ I, OwnD s (ps.take i.toNat) I ∧ St v w (I ++ (A ++ [])) ∧ 0 ≤ i ∧ i ≤ ps.length, fun i _ _ => (ps.length - i).toNat, ⟨[], OwnD.nil, by simpa using hS, by omega, by omega⟩, ?_⟩
  clear hS hsub
  rintro i s w ⟨I, hO, hS, h0, h1⟩
  dsimp only
  refine ⟨fun hi => ?_, fun hi => ?_⟩
  · simp only [decide_eq_true_eq, decide_eq_false_iff_not, Bool.and_eq_true, Bool.and_eq_false_iff, Bool.or_eq_true, Bool.or_eq_false_iff, Bool.not_eq_true', Bool.not_eq_false', Bool.not_true, Bool.not_false, Bool.false_eq_true, Bool.true_eq_false, Int.not_lt, Int.not_le, ge_iff_le, gt_iff_lt, Bool.not_eq_eq_eq_not, Bool.true_or, Bool.or_true, Bool.false_or, Bool.or_false, Bool.true_and, Bool.and_true, false_or, or_false, true_and, and_true, Decidable.not_not] at hi
    have hil : i < ps.length := by omega
    obtain ⟨f1, f2, f3, e1, e2, e3, e4, e5, j1, j2, r1, r2, r3⟩ := (hy.src hS.sub).ofProcD h0 hil
    have hcl := r3.le
    refine go_ix hy h0 hil ?_
    refine ⟨f1, f2, _, _, f3, ⟨e1, e2, e3, e4, e5⟩, ?_⟩
    refine Mk.use (c_cloneInts r1) hS ?_
    rintro _ w3 J1 ⟨g1, rfl, hg1⟩ hS hsub
    refine ⟨_, rfl, hsub, ?_⟩
    refine Mk.use (c_cloneInts r2) hS ?_
    rintro _ w4 J2 ⟨g2, rfl, hg2⟩ hS hsub
    refine ⟨_, rfl, hsub, ?_⟩
    refine Mk.use (c_cloneInstrS r3) hS ?_
    rintro _ w5 J3 ⟨g3, rfl, hg3⟩ hS hsub
    have hgn := hg3.n
    refine ⟨_, rfl, hsub, ?_⟩
    refine ⟨fun k w => ∃ K, OwnG (fun j r => ∃ a, (nth ps i).code[j]? = some a ∧ Dat.cells BB v r a) k.toNat g3 (nth ps i).code K ∧ St v w (K ++ (J2 ++ (J1 ++ (I ++ (A ++ []))))) ∧ 0 ≤ k ∧ k ≤ (nth ps i).code.length, fun k _ => ((nth ps i).code.length - k).toNat, ⟨J3, OwnG.ofOwn hg3, hS, by omega, by omega⟩, ?_⟩
    clear hg3 hS hsub
    rintro k w ⟨K, hK, hS, k0, k1⟩
    dsimp only
    refine ⟨fun hi => ?_, fun hi => ?_⟩
    · simp only [decide_eq_true_eq, decide_eq_false_iff_not, Bool.and_eq_true, Bool.and_eq_false_iff, Bool.or_eq_true, Bool.or_eq_false_iff, Bool.not_eq_true', Bool.not_eq_false', Bool.not_true, Bool.not_false, Bool.false_eq_true, Bool.true_eq_false, Int.not_lt, Int.not_le, ge_iff_le, gt_iff_lt, Bool.not_eq_eq_eq_not, Bool.true_or, Bool.or_true, Bool.false_or, Bool.or_false, Bool.true_and, Bool.and_true, false_or, or_false, true_and, and_true, Decidable.not_not] at hi
      have hkl : k < (nth ps i).code.length := by omega
      obtain ⟨r, ⟨d, hd, hcl2⟩, hcell⟩ := hK.row k0 hkl
      rw [nth_get k0 hkl] at hd
      simp only [Option.some.injEq] at hd
      subst hd
      obtain ⟨fa, fb, rfl, i1, i2, i3, i4, ra, rb⟩ := hcl2
      replace ra : Read v fa (nth (nth ps i).code k).args := ra
      replace rb : Read v fb (nth (nth ps i).code k).jumps := rb
      have hAt := hS.items (I := K)
      have hix : IxOk g3 k := hK.ix k0 hkl
      refine ⟨hix, ?_⟩
      refine ⟨_, _, _, _, fa, fb, ⟨hcell w hAt 0 _ rfl, hcell w hAt 1 _ rfl, hcell w hAt 2 _ rfl, hcell w hAt 3 _ rfl, hcell w hAt 4 _ rfl, hcell w hAt 5 _ rfl⟩, ?_⟩
      clear hcell hAt
      repeat' (first
        | (refine Mk.use (c_cloneInts ra) hS ?_; rintro _ _ A4 ⟨xa, rfl, hA4⟩ hS hsub; refine ⟨_, rfl, hsub, ?_⟩)
        | (refine Mk.use (c_cloneInts rb) hS ?_; rintro _ _ B5 ⟨xb, rfl, hB5⟩ hS hsub; refine ⟨_, rfl, hsub, ?_⟩)
        | (refine clone_puts (A := A4) (B := B5) (R := J2 ++ (J1 ++ (I ++ (A ++ [])))) hK hS k0 hkl hA4 hB5 ?_; intro w40 I40 hK hS; refine go_wr (by omega) (by omega) ?_; exact ⟨rfl, rfl, rfl, rfl, rfl, rfl, rfl, rfl, rfl, rfl, rfl, ⟨I40, hK, hS, by omega, by omega⟩, by omega⟩)
        | exact hix
        | (with_reducible refine And.intro ?_ ?_))
    · simp only [decide_eq_true_eq, decide_eq_false_iff_not, Bool.and_eq_true, Bool.and_eq_false_iff, Bool.or_eq_true, Bool.or_eq_false_iff, Bool.not_eq_true', Bool.not_eq_false', Bool.not_true, Bool.not_false, Bool.false_eq_true, Bool.true_eq_false, Int.not_lt, Int.not_le, ge_iff_le, gt_iff_lt, Bool.not_eq_eq_eq_not, Bool.true_or, Bool.or_true, Bool.false_or, Bool.or_false, Bool.true_and, Bool.and_true, false_or, or_false, true_and, and_true, Decidable.not_not] at hi
      rw [show k.toNat = (nth ps i).code.length from by omega] at hK
      have hK := hK.done
      refine OwnD.add (a := nth ps i) (J := J1 ++ (J2 ++ K)) (R := A ++ []) hO (hS.perm (by
        classical
        exact List.perm_iff_count.2 fun a => by simp only [List.count_append, List.count_nil]; omega)) rfl ⟨g1, g2, g3, J1, J2, K, rfl, j1, j2, hg1.toAll, hg2.toAll, hK, rfl⟩ (by decide) (by simp; omega) (by decide) ?_
      intro s' w6 I6 hO hS
      refine go_wr (by omega) (by omega) ?_
      refine ⟨rfl, rfl, rfl, rfl, rfl, ⟨I6, ?_, hS, by omega, by omega⟩, by omega⟩
      rw [take_nth h0 hil]; exact hO
  · simp only [decide_eq_true_eq, decide_eq_false_iff_not, Bool.and_eq_true, Bool.and_eq_false_iff, Bool.or_eq_true, Bool.or_eq_false_iff, Bool.not_eq_true', Bool.not_eq_false', Bool.not_true, Bool.not_false, Bool.false_eq_true, Bool.true_eq_false, Int.not_lt, Int.not_le, ge_iff_le, gt_iff_lt, Bool.not_eq_eq_eq_not, Bool.true_or, Bool.or_true, Bool.false_or, Bool.or_false, Bool.true_and, Bool.and_true, false_or, or_false, true_and, and_true, Decidable.not_not] at hi
    rw [take_all (by omega)] at hO
    exact ⟨A ++ I, hS.perm (by
      classical
      exact List.perm_iff_count.2 fun a => by simp only [List.count_append, List.count_nil]; omega), t, s, A, I, rfl, hA, hO, rfl⟩
end
end Go.Vc

namespace Go.Vc
open Go Go.Proofs Go.RowKit
set_option linter.all false
/-- the first n of m, then those of l -/
def mixL {α : Type} (l m : List α) (n : Nat) : List α := m.take n ++ l.drop n
section
variable {α : Type} [Inhabited α] {l m : List α} {n : Nat} {i j : Int}
theorem mix_len (h : m.length = l.length) : (mixL l m n).length = l.length := by unfold mixL; simp; omega
theorem mix_ge (h : m.length = l.length) (hn : n ≤ l.length) (hj : (n : Int) ≤ j) : nth (mixL l m n) j = nth l j := by
  unfold nth mixL List.getD
  rw [List.getElem?_append_right (by rw [List.length_take]; omega), List.length_take, List.getElem?_drop]
  congr 3
  omega
theorem mix_lt (h : m.length = l.length) (hn : n ≤ l.length) (h0 : 0 ≤ j) (hj : j < (n : Int)) : nth (mixL l m n) j = nth m j := by
  unfold nth mixL List.getD
  rw [List.getElem?_append_left (by rw [List.length_take]; omega), List.getElem?_take, if_pos (by omega)]
theorem mix_set (h : m.length = l.length) (h0 : 0 ≤ i) (h1 : i < l.length) : (mixL l m i.toNat).set i.toNat (nth m i) = mixL l m (i + 1).toNat := by
  refine List.ext_getElem? fun j => ?_
  have e : ∀ n : Nat, n ≤ l.length → (mixL l m n)[j]? = if j < n then m[j]? else l[j]? := by
    intro n hn
    unfold mixL
    by_cases hj : j < n
    · rw [if_pos hj, List.getElem?_append_left (by rw [List.length_take]; omega), List.getElem?_take, if_pos hj]
    · rw [if_neg hj, List.getElem?_append_right (by rw [List.length_take]; omega), List.length_take, List.getElem?_drop]
      congr 1
      omega
  rw [List.getElem?_set, e _ (by omega), e _ (by omega), mix_len h]
  by_cases hj : i.toNat = j
  · subst hj
    rw [if_pos rfl, if_pos (by omega), if_pos (by omega), nth_get h0 (by omega)]
  · rw [if_neg hj]
    by_cases h2 : j < i.toNat
    · rw [if_pos h2, if_pos (by omega)]
    · rw [if_neg h2, if_neg (by omega)]
theorem mix_zero : mixL l m 0 = l := by simp [mixL]
theorem mix_all (h : m.length = l.length) : mixL l m l.length = m := by unfold mixL; rw [← h, List.take_length, h, List.drop_length, List.append_nil]
end
section
variable {code : List InstrD} {k : Int}
theorem mix_fw (hf : Fw code) (n : Nat) (hn : n ≤ code.length) : Fw (mixL code (tailC code) n) := by
  refine ⟨by rw [mix_len (tailC_len code)]; exact hf.len, fun i h0 h1 => ?_⟩
  rw [mix_len (tailC_len code)] at h1 ⊢
  have hk := hf.ok i h0 h1
  have he : nth (mixL code (tailC code) n) i = tailI code i ∨ nth (mixL code (tailC code) n) i = nth code i := by
    rcases Int.lt_or_le i n with h | h
    · left; rw [mix_lt (tailC_len code) hn h0 h, tailC_nth h0 h1]
    · right; exact mix_ge (tailC_len code) hn h
  rcases he with he | he
  · rw [he]
    unfold tailI
    split
    · exact ⟨fun h => (by simp at h), fun h => (by simp at h), fun h => (by simp at h), fun h => (by simp at h)⟩
    · exact hk
  · rw [he]; exact hk
theorem tailP_nth (ps : List ProcD) (i : Int) (h0 : 0 ≤ i) (h1 : i < ps.length) : nth (ps.map tailP) i = tailP (nth ps i) := by
  refine nth_of ?_
  rw [List.getElem?_map, nth_get h0 h1]
  rfl
end
section
variable {u v w : World} {x y z t s : Sl} {ds : List DeclD} {ps : List ProcD} {code : List InstrD} {m : ImD} {I J K R : Items}
theorem c_implTailCalls (hx : Read v x m.decls) (hy : Read v y m.procs) : Mk Try.prog 23 #[.agg #[x.val, y.val]] v fun r J => ∃ t s A B, r = .tuple #[.agg #[t.val, s.val], .bool (pB (imOk m.decls m.procs))] ∧ OwnD t (tailIm m).decls A ∧ OwnD s (tailIm m).procs B ∧ J = A ++ B := by
  refine of23 _ _ _ _ ?_
  unfold vc23
  refine ⟨_, c_implValidImage hx hy, fun hq => ?_, fun hq => ?_⟩
  · have hq : pB (imOk m.decls m.procs) = false := by simpa using hq
    unfold tailIm
    rw [hq, if_neg (by decide)]
    exact ⟨[], St.refl v, ⟨none, 0, 0⟩, ⟨none, 0, 0⟩, [], [], rfl, OwnD.nil, OwnD.nil, rfl⟩
  have hq : pB (imOk m.decls m.procs) = true := by simpa using hq
  have hok := pB_iff.1 hq
  have hl := hok.sm.2.2.2
  have hfw := hok.fw
  unfold tailIm
  rw [hq, if_pos rfl]
  refine Trip.mono' (c_cloneImage hx hy (by omega)) ?_
  rintro _ w1 ⟨_, hS, t, s, A, B, rfl, hA, hB, rfl⟩
  have hsn := hB.n
  have hPl : (m.procs.map tailP).length = m.procs.length := List.length_map _
  refine ⟨_, _, rfl, ?_⟩
  refine ⟨fun i w => ∃ B, OwnD s (mixL m.procs (m.procs.map tailP) i.toNat) B ∧ St v w (B ++ (A ++ [])) ∧ 0 ≤ i ∧ i ≤ m.procs.length, fun i _ => (m.procs.length - i).toNat, ⟨B, by rw [show ((0 : Int)).toNat = 0 from rfl, mix_zero]; exact hB, hS.perm (by
    classical
    exact List.perm_iff_count.2 fun a => by simp only [List.count_append, List.count_nil]; omega), by omega, by omega⟩, ?_⟩
  clear hB hS
  rintro i w ⟨B, hB, hS, h0, h1⟩
  dsimp only
  refine ⟨fun hi => ?_, fun hi => ?_⟩
  · simp only [decide_eq_true_eq, decide_eq_false_iff_not, Bool.and_eq_true, Bool.and_eq_false_iff, Bool.or_eq_true, Bool.or_eq_false_iff, Bool.not_eq_true', Bool.not_eq_false', Bool.not_true, Bool.not_false, Bool.false_eq_true, Bool.true_eq_false, Int.not_lt, Int.not_le, ge_iff_le, gt_iff_lt, Bool.not_eq_eq_eq_not, Bool.true_or, Bool.or_true, Bool.false_or, Bool.or_false, Bool.true_and, Bool.and_true, false_or, or_false, true_and, and_true, Decidable.not_not] at hi
    have hil : i < m.procs.length := by omega
    have hlt : i < (mixL m.procs (m.procs.map tailP) i.toNat).length := by rw [mix_len hPl]; exact hil
    have hfi := hfw _ (nth_mem (l := m.procs) h0 hil)
    have hcl := hfi.len
    obtain ⟨row, K, Rest, hrow, hperm, hcell, hput⟩ := hB.borrow h0 hlt
    rw [mix_ge hPl (by omega) (by omega)] at hrow
    obtain ⟨f_params, f_lent, f_code, Kp, Kl, Kc, rfl, q1, q2, o1, o2, o3, rfl⟩ := hrow
    have hfn := o3.n
    replace hS : St v w (Kc ++ (Kp ++ (Kl ++ (Rest ++ (A ++ []))))) := hS.perm (by
      classical
      have hc := hperm.count_eq
      exact List.perm_iff_count.2 fun a => by have := hc a; simp only [List.count_append, List.count_nil] at *; omega)
    have hR := hS.items (I := Rest)
    refine ⟨hB.ix h0 hlt, ?_⟩
    refine ⟨f_params, f_lent, _, _, f_code, ⟨hcell w hR 0 _ rfl, hcell w hR 1 _ rfl, hcell w hR 2 _ rfl, hcell w hR 3 _ rfl, hcell w hR 4 _ rfl⟩, ?_⟩
    have hTl := tailC_len (nth m.procs i).code
    refine ⟨fun k w => ∃ Kc, OwnD f_code (mixL (nth m.procs i).code (tailC (nth m.procs i).code) k.toNat) Kc ∧ St v w (Kc ++ (Kp ++ (Kl ++ (Rest ++ (A ++ []))))) ∧ 0 ≤ k ∧ k ≤ (nth m.procs i).code.length, fun k _ => ((nth m.procs i).code.length - k).toNat, ⟨Kc, by rw [show ((0 : Int)).toNat = 0 from rfl, mix_zero]; exact o3, hS, by omega, by omega⟩, ?_⟩
    clear o3 hS hcell hR hperm
    rintro k w ⟨Kc, hC, hS, k0, k1⟩
    dsimp only
    refine ⟨fun hi => ?_, fun hi => ?_⟩
    · simp only [decide_eq_true_eq, decide_eq_false_iff_not, Bool.and_eq_true, Bool.and_eq_false_iff, Bool.or_eq_true, Bool.or_eq_false_iff, Bool.not_eq_true', Bool.not_eq_false', Bool.not_true, Bool.not_false, Bool.false_eq_true, Bool.true_eq_false, Int.not_lt, Int.not_le, ge_iff_le, gt_iff_lt, Bool.not_eq_eq_eq_not, Bool.true_or, Bool.or_true, Bool.false_or, Bool.or_false, Bool.true_and, Bool.and_true, false_or, or_false, true_and, and_true, Decidable.not_not] at hi
      have hkl : k < (nth m.procs i).code.length := by omega
      have hkt : k < (mixL (nth m.procs i).code (tailC (nth m.procs i).code) k.toNat).length := by rw [mix_len hTl]; exact hkl
      have hnk : nth (mixL (nth m.procs i).code (tailC (nth m.procs i).code) k.toNat) k = nth (nth m.procs i).code k := mix_ge hTl (by omega) (by omega)
      have hms := mix_set (m := tailC (nth m.procs i).code) (l := (nth m.procs i).code) hTl k0 hkl
      rw [tailC_nth k0 hkl] at hms
      obtain ⟨p1, p2, p3, p4⟩ := hfi.ok k k0 hkl
      obtain ⟨f_args, f_jumps, e1, e2, e3, e4, e5, e6, i1, i2, i3, i4, r1, r2⟩ := (hC.src hS).ofInstrD k0 hkt
      rw [hnk] at e1 e2 e3 e4 i1 i2 i3 i4
      have hix := hC.ix k0 hkt
      refine ⟨hix, ?_⟩
      refine ⟨_, _, _, _, f_args, f_jumps, ⟨e1, e2, e3, e4, e5, e6⟩, ?_⟩
      refine go_wrg (fun _ => by omega) ?_
      refine ⟨brB (nth m.procs i).code (k + 1) (nth (nth m.procs i).code k).dst, fun hc => ?_, fun hq => ?_, fun hq => ?_⟩
      · have := p2 (.inr (of_decide_eq_true hc))
        refine c_bringsBack (hC.read hS) (mix_fw hfi _ (by omega)) (by omega) (by rw [mix_len hTl]; omega) ?_
        exact (brB_spec hfi (by omega) (by omega)).agree fun j hj => mix_ge hTl (by omega) (by omega)
      · simp only [Bool.and_eq_true, decide_eq_true_eq] at hq
        have ht : tailI (nth m.procs i).code k = ⟨24, 0, (nth (nth m.procs i).code k).num, (nth (nth m.procs i).code k).into, (nth (nth m.procs i).code k).args, (nth (nth m.procs i).code k).jumps⟩ := by
          unfold tailI
          rw [if_pos hq, p4 hq.1]
        refine ⟨hix, ?_⟩
        refine ⟨⟨?_, ?_⟩, ?_⟩
        all_goals
          refine OwnD.store hC hS k0 hkt (⟨24, (nth (nth m.procs i).code k).dst, (nth (nth m.procs i).code k).num, (nth (nth m.procs i).code k).into, (nth (nth m.procs i).code k).args, (nth (nth m.procs i).code k).jumps⟩ : InstrD) [] (Nat.le_of_ble_eq_true rfl) (fun r' K hr => ?_) ?_
          · rw [hnk] at hr
            obtain ⟨fa, fj, Ka, Kj, rfl, y1, y2, y3, y4, oa, oj, rfl⟩ := hr
            exact ⟨_, ⟨fa, fj, _, _, rfl, (show InI 24 from ⟨by decide, by decide⟩), y2, y3, y4, oa, oj, rfl⟩, .inr ⟨rfl, rfl⟩⟩
          intro w2 I2 hC2 hS2
          rw [List.append_nil] at hC2
          have hkt2 : k < ((mixL (nth m.procs i).code (tailC (nth m.procs i).code) k.toNat).set k.toNat (⟨24, (nth (nth m.procs i).code k).dst, (nth (nth m.procs i).code k).num, (nth (nth m.procs i).code k).into, (nth (nth m.procs i).code k).args, (nth (nth m.procs i).code k).jumps⟩ : InstrD)).length := by rw [List.length_set]; exact hkt
          refine ⟨hix, ?_⟩
          refine OwnD.store hC2 hS2 k0 hkt2 (tailI (nth m.procs i).code k) [] (Nat.le_of_ble_eq_true rfl) (fun r' K hr => ?_) ?_
          · rw [nth_set _ _ _ _ k0 hkt k0, if_pos rfl] at hr
            obtain ⟨fa, fj, Ka, Kj, rfl, y1, y2, y3, y4, oa, oj, rfl⟩ := hr
            rw [ht]
            exact ⟨_, ⟨fa, fj, _, _, rfl, y1, zero_in, y3, y4, oa, oj, rfl⟩, .inr ⟨rfl, rfl⟩⟩
          intro w3 I3 hC3 hS3
          rw [List.append_nil, List.set_set, hms] at hC3
          refine go_wr (by omega) (by omega) ?_
          exact ⟨rfl, rfl, rfl, rfl, rfl, rfl, rfl, rfl, rfl, rfl, rfl, ⟨I3, hC3, hS3, by omega, by omega⟩, by omega⟩
      · have ht : tailI (nth m.procs i).code k = nth (nth m.procs i).code k := if_neg fun hh => by rw [decide_eq_true hh.1, hh.2] at hq; cases hq
        rw [ht, ← hnk, set_same k0 hkt] at hms
        rw [hms] at hC
        refine go_wr (by omega) (by omega) ?_
        exact ⟨rfl, rfl, rfl, rfl, rfl, rfl, rfl, rfl, rfl, rfl, rfl, ⟨Kc, hC, hS, by omega, by omega⟩, by omega⟩
    · simp only [decide_eq_true_eq, decide_eq_false_iff_not, Bool.and_eq_true, Bool.and_eq_false_iff, Bool.or_eq_true, Bool.or_eq_false_iff, Bool.not_eq_true', Bool.not_eq_false', Bool.not_true, Bool.not_false, Bool.false_eq_true, Bool.true_eq_false, Int.not_lt, Int.not_le, ge_iff_le, gt_iff_lt, Bool.not_eq_eq_eq_not, Bool.true_or, Bool.or_true, Bool.false_or, Bool.or_false, Bool.true_and, Bool.and_true, false_or, or_false, true_and, and_true, Decidable.not_not] at hi
      rw [show k.toNat = (nth m.procs i).code.length from by omega, mix_all hTl] at hC
      have hB2 := hput (tailP (nth m.procs i)) (Kp ++ (Kl ++ Kc)) ⟨f_params, f_lent, f_code, Kp, Kl, Kc, rfl, q1, q2, o1, o2, hC, rfl⟩
      have hms := mix_set (m := m.procs.map tailP) (l := m.procs) hPl h0 hil
      rw [tailP_nth _ _ h0 hil] at hms
      rw [hms] at hB2
      refine go_wr (by omega) (by omega) ?_
      refine ⟨rfl, rfl, rfl, rfl, rfl, rfl, ⟨(Kp ++ (Kl ++ Kc)) ++ Rest, hB2, hS.perm (by
    classical
    exact List.perm_iff_count.2 fun a => by simp only [List.count_append, List.count_nil]; omega), by omega, by omega⟩, by omega⟩
  · simp only [decide_eq_true_eq, decide_eq_false_iff_not, Bool.and_eq_true, Bool.and_eq_false_iff, Bool.or_eq_true, Bool.or_eq_false_iff, Bool.not_eq_true', Bool.not_eq_false', Bool.not_true, Bool.not_false, Bool.false_eq_true, Bool.true_eq_false, Int.not_lt, Int.not_le, ge_iff_le, gt_iff_lt, Bool.not_eq_eq_eq_not, Bool.true_or, Bool.or_true, Bool.false_or, Bool.or_false, Bool.true_and, Bool.and_true, false_or, or_false, true_and, and_true, Decidable.not_not] at hi
    rw [show i.toNat = m.procs.length from by omega, mix_all hPl] at hB
    exact ⟨A ++ B, hS.perm (by
    classical
    exact List.perm_iff_count.2 fun a => by simp only [List.count_append, List.count_nil]; omega), t, s, A, B, rfl, hA, hB, rfl⟩
theorem roomC_sm {c : ConD} (h : SmL c.fields) : Mark.room c ≤ 100000 := h.1
theorem roomD_sm {d : DeclD} (h : SmDecl d) : Mark.room d ≤ 200000000 := by
  show 1 + 1 + rooms d.cons ≤ _
  have h1 := rooms_le (B := 100000) d.cons fun c hc => roomC_sm (h.2.2.2 c hc)
  have h2 := h.2.2.1
  omega
theorem roomI_sm {c : InstrD} (h : SmInstr c) : Mark.room c ≤ 300000 := by
  show 1 + 1 + 1 + 1 + c.args.length + c.jumps.length ≤ _
  have h1 := h.2.2.2.2.1.1
  have h2 := h.2.2.2.2.2.1
  omega
theorem tailI_room (code : List InstrD) (i : Int) : Mark.room (tailI code i) = Mark.room (nth code i) := by
  unfold tailI
  split <;> rfl
theorem tailP_room {p : ProcD} (h : SmProc p) : Mark.room (tailP p) ≤ 4000000000 := by
  show p.params.length + p.lent.length + 1 + 1 + rooms (tailC p.code) ≤ _
  have h1 := rooms_le (B := 300000) (tailC p.code) fun c hc => by
    unfold tailC at hc
    obtain ⟨j, hj, rfl⟩ := List.mem_map.1 hc
    rw [List.mem_range] at hj
    rw [tailI_room]
    exact roomI_sm (h.2.2.2.2.2 _ (nth_mem (by omega) (by omega)))
  rw [tailC_len] at h1
  have h2 := h.1.1
  have h3 := h.2.1.1
  have h4 := h.2.2.2.2.1
  omega
theorem tailIm_end : endIm (tailIm m) ≤ 1000000000000 := by
  unfold tailIm
  split
  · rename_i hq
    obtain ⟨s1, s2, s3, s4⟩ := (pB_iff.1 hq).sm
    have h1 := rooms_le (B := 200000000) m.decls fun d hd => roomD_sm (s1 d hd)
    have h2 := rooms_le (B := 4000000000) (m.procs.map tailP) fun p hp => by
      obtain ⟨p', hp', rfl⟩ := List.mem_map.1 hp
      exact tailP_room (s2 _ hp')
    rw [List.length_map] at h2
    unfold endIm
    dsimp only
    omega
  · simp [endIm, rooms]
end
theorem l_ExactTailCalls {v : World} {x y : Sl} {m : ImD} (hx : ReadB BM v x m.decls) (hy : ReadB BM v y m.procs) :
    Trip Try.prog 6 #[.agg #[x.val, y.val]] v fun r v' => r = .bool true ∧ Sub v v' := by
  refine of6 _ _ _ _ ?_
  unfold vc6
  refine ⟨_, c_szImage (b := 1048576) hx hy (by omega) (by omega), fun hc => ⟨rfl, .refl v⟩, fun hc => ?_⟩
  simp only [decide_eq_true_eq, decide_eq_false_iff_not, Bool.and_eq_true, Bool.and_eq_false_iff, Bool.or_eq_true, Bool.or_eq_false_iff, Bool.not_eq_true', Bool.not_eq_false', Bool.not_true, Bool.not_false, Bool.false_eq_true, Bool.true_eq_false, Int.not_lt, Int.not_le, ge_iff_le, gt_iff_lt, Bool.not_eq_eq_eq_not, Bool.true_or, Bool.or_true, Bool.false_or, Bool.or_false, Bool.true_and, Bool.and_true, false_or, or_false, true_and, and_true, Decidable.not_not] at hc
  obtain ⟨b1, b2⟩ := szI_le hc
  replace hx : Read v x m.decls := hx.shr (by omega)
  replace hy : Read v y m.procs := hy.shr (by omega)
  have hendA : endIm m ≤ 100000000 := endIm_le (by omega)
  have hendA2 : 1 ≤ endIm m := endIm_pos m
  have hendR : endIm (tailIm m) ≤ 1000000000000 := tailIm_end
  have hendR2 := endIm_pos (tailIm m)
  refine Mk.use (c_toImageM hx hy) (.refl v) ?_
  rintro _ w1 _ ⟨x2, x3, J4, J5, rfl, h6, h7, rfl⟩ hS hsub
  replace hS : St v w1 (J4 ++ (J5 ++ [])) := hS.perm (by
    classical
    exact List.perm_iff_count.2 fun a => by (try simp only [List.count_append, List.count_nil]) <;> omega)
  refine ⟨_, _, rfl, ?_⟩
  replace hS : St v w1 ((J4 ++ (J5 ++ [])) ++ ([])) := hS.perm (by
    classical
    exact List.perm_iff_count.2 fun a => by (try simp only [List.count_append, List.count_nil]) <;> omega)
  obtain ⟨u8, hsu8, hS, hJ⟩ := hS.freeze (J4 ++ (J5 ++ []))
  have r9 : Read u8 x2 (m.decls) := OwnD.read1 h6 (hJ.to : St v u8 (J4 ++ [])).left
  have r10 : Read u8 x3 (m.procs) := OwnD.read1 h7 (hJ.to : St v u8 (J5 ++ [])).left
  clear hJ
  refine Mk.use (c_specTailCalls (m := m) r9 r10 ) hS ?_
  rintro _ w17 _ ⟨x11, x12, J15, J16, rfl, h13, h14, rfl⟩ hS hsub
  replace hS : St u8 w17 (J15 ++ (J16 ++ [])) := hS.perm (by
    classical
    exact List.perm_iff_count.2 fun a => by (try simp only [List.count_append, List.count_nil]) <;> omega)
  replace hS : St u8 w17 ((J15 ++ (J16 ++ [])) ++ ([])) := hS.perm (by
    classical
    exact List.perm_iff_count.2 fun a => by (try simp only [List.count_append, List.count_nil]) <;> omega)
  obtain ⟨u18, hsu18, hS, hJ⟩ := hS.freeze (J15 ++ (J16 ++ []))
  have r19 : Read u18 x11 ((tailIm m).decls) := OwnD.read1 h13 (hJ.to : St u8 u18 (J15 ++ [])).left
  have r20 : Read u18 x12 ((tailIm m).procs) := OwnD.read1 h14 (hJ.to : St u8 u18 (J16 ++ [])).left
  clear hJ
  have hvu : Sub v u18 := hsu8.trans hsu18
  replace hx := hx.mono hvu
  replace hy := hy.mono hvu
  refine ⟨_, _, _, rfl, ?_⟩
  refine Mk.use (c_toImageM hx hy) hS ?_
  rintro _ w21 _ ⟨x22, x23, J24, J25, rfl, h26, h27, rfl⟩ hS hsub
  replace hS : St u18 w21 (J24 ++ (J25 ++ [])) := hS.perm (by
    classical
    exact List.perm_iff_count.2 fun a => by (try simp only [List.count_append, List.count_nil]) <;> omega)
  refine ⟨_, _, rfl, ?_⟩
  refine Mk.usew (c_implTailCalls (m := m) (OwnD.read h26 hS) (OwnD.read h27 hS) ) hS ?_
  rintro _ w34 _ ⟨x28, x29, J32, J33, rfl, h30, h31, rfl⟩ hS hsub
  replace hS : St u18 w34 (J32 ++ (J33 ++ (J24 ++ (J25 ++ [])))) := hS.perm (by
    classical
    exact List.perm_iff_count.2 fun a => by (try simp only [List.count_append, List.count_nil]) <;> omega)
  refine ⟨_, _, _, rfl, _, c_eqImageM (m := (tailIm m)) (m' := (tailIm m)) (OwnD.read h30 hS) (OwnD.read h31 hS) (r19.mono hS.sub) (r20.mono hS.sub), fun hc => ?_, fun _ => ?_⟩
  · simp at hc
  refine Mk.use (c_toImageM hx hy) hS ?_
  rintro _ w35 _ ⟨x36, x37, J38, J39, rfl, h40, h41, rfl⟩ hS hsub
  replace hS : St u18 w35 (J38 ++ (J39 ++ (J32 ++ (J33 ++ (J24 ++ (J25 ++ [])))))) := hS.perm (by
    classical
    exact List.perm_iff_count.2 fun a => by (try simp only [List.count_append, List.count_nil]) <;> omega)
  refine ⟨_, _, rfl, hsub, _, c_eqImageM (m := m) (m' := m) (OwnD.read h26 hS) (OwnD.read h27 hS) (OwnD.read h40 hS) (OwnD.read h41 hS), fun hc => ?_, fun _ => ?_⟩
  · simp at hc
  replace hS : St u18 w35 (J32 ++ (J33 ++ (J24 ++ (J25 ++ [])))) := hS.to
  replace hS : St u18 w35 (J24 ++ (J25 ++ (J32 ++ (J33 ++ [])))) := hS.perm (by
    classical
    exact List.perm_iff_count.2 fun a => by (try simp only [List.count_append, List.count_nil]) <;> omega)
  refine Trip.mono' (c_markImageM (m := m) h26 h27 hS (by omega)) ?_
  rintro _ w46 ⟨J42, J43, rfl, h44, h45, hS⟩
  refine ⟨_, rfl, _, fun _ => c_eqImageM (m := (tailIm m)) (m' := (tailIm m)) (OwnD.read h30 hS) (OwnD.read h31 hS) (r19.mono hS.sub) (r20.mono hS.sub), fun hc => ?_, fun _ => ?_⟩
  · simp at hc
    omega
  replace hS : St u18 w46 (J32 ++ (J33 ++ [])) := hS.to
  replace hS : St u18 w46 (J32 ++ (J33 ++ [])) := hS.perm (by
    classical
    exact List.perm_iff_count.2 fun a => by (try simp only [List.count_append, List.count_nil]) <;> omega)
  refine Trip.mono' (c_markImageM (m := (tailIm m)) h30 h31 hS (by omega)) ?_
  rintro _ w51 ⟨J47, J48, rfl, h49, h50, hS⟩
  refine ⟨_, rfl, _, c_heldImageM (m := (tailIm m)) (OwnD.read h49 hS) (OwnD.read h50 hS) (by omega), fun hc => ?_, fun _ => ⟨fun hc => ?_, fun _ => ?_⟩⟩
  · simp only [decide_eq_true_eq, decide_eq_false_iff_not, Bool.and_eq_true, Bool.and_eq_false_iff, Bool.or_eq_true, Bool.or_eq_false_iff, Bool.not_eq_true', Bool.not_eq_false', Bool.not_true, Bool.not_false, Bool.false_eq_true, Bool.true_eq_false, Int.not_lt, Int.not_le, ge_iff_le, gt_iff_lt, Bool.not_eq_eq_eq_not, Bool.true_or, Bool.or_true, Bool.false_or, Bool.or_false, Bool.true_and, Bool.and_true, false_or, or_false, true_and, and_true, Decidable.not_not] at hc; omega
  · simp at hc
  refine Mk.use (c_toImageM hx hy) hS ?_
  rintro _ w52 _ ⟨x53, x54, J55, J56, rfl, h57, h58, rfl⟩ hS hsub
  replace hS : St u18 w52 (J55 ++ (J56 ++ (J47 ++ (J48 ++ [])))) := hS.perm (by
    classical
    exact List.perm_iff_count.2 fun a => by (try simp only [List.count_append, List.count_nil]) <;> omega)
  refine ⟨_, _, rfl, ?_⟩
  refine Mk.usew (c_implTailCalls (m := m) (OwnD.read h57 hS) (OwnD.read h58 hS) ) hS ?_
  rintro _ w65 _ ⟨x59, x60, J63, J64, rfl, h61, h62, rfl⟩ hS hsub
  replace hS : St u18 w65 (J63 ++ (J64 ++ (J55 ++ (J56 ++ (J47 ++ (J48 ++ [])))))) := hS.perm (by
    classical
    exact List.perm_iff_count.2 fun a => by (try simp only [List.count_append, List.count_nil]) <;> omega)
  refine ⟨_, _, _, rfl, _, c_eqImageM (m := (tailIm m)) (m' := (tailIm m)) (OwnD.read h61 hS) (OwnD.read h62 hS) (r19.mono hS.sub) (r20.mono hS.sub), fun hc => ?_, fun _ => ?_⟩
  · simp at hc
  refine ⟨_, c_heldImageM (m := (tailIm m)) (OwnD.read h49 hS) (OwnD.read h50 hS) (by omega), fun hc => ?_, fun _ => ⟨fun hc => ?_, fun _ => ⟨rfl, hvu.trans hS.sub⟩⟩⟩
  · simp only [decide_eq_true_eq, decide_eq_false_iff_not, Bool.and_eq_true, Bool.and_eq_false_iff, Bool.or_eq_true, Bool.or_eq_false_iff, Bool.not_eq_true', Bool.not_eq_false', Bool.not_true, Bool.not_false, Bool.false_eq_true, Bool.true_eq_false, Int.not_lt, Int.not_le, ge_iff_le, gt_iff_lt, Bool.not_eq_eq_eq_not, Bool.true_or, Bool.or_true, Bool.false_or, Bool.or_false, Bool.true_and, Bool.and_true, false_or, or_false, true_and, and_true, Decidable.not_not] at hc; omega
  · simp at hc
end Go.Vc
