/- Part of the proofs about the heaps and memories: a law is joined in the text whose name ends in W and the law. -/
import Derived.Test.YtelgbndeeccblaaDoorEK7
import Derived.Test.YtelgbndeeccblaaDoorETX
import Derived.Test.YtelgbndeeccblaaDoorES4
namespace Go.Vc
open Go Go.Proofs Go.RowKit
set_option linter.all false
mutual
def roomEx : ExprD → Nat
 | ⟨_, _, kids⟩ => 1 + 1 + roomEs kids
def roomEs : List ExprD → Nat
 | [] => 0
 | k :: r => roomEx k + roomEs r
end
mutual
def markEx : Int → ExprD → ExprD
 | n, ⟨_, _, kids⟩ => ⟨n, n + 1, markEs (n + 1 + 1) kids⟩
def markEs : Int → List ExprD → List ExprD
 | _, [] => []
 | n, k :: r => markEx n k :: markEs (n + roomEx k) r
end
instance : Mark ExprD := ⟨roomEx, markEx⟩
theorem roomEs_eq : ∀ l : List ExprD, roomEs l = rooms l
 | [] => by rw [roomEs]; rfl
 | s :: r => by rw [roomEs, roomEs_eq r, rooms_cons]; rfl
theorem markEs_eq : ∀ (l : List ExprD) (n : Int), markEs n l = markL n l
 | [], n => by rw [markEs]; rfl
 | s :: r, n => by rw [markEs, markEs_eq r]; rfl
theorem room_Expr (c : ExprD) : Mark.room c = 1 + 1 + rooms c.kids := by
 cases c
 show roomEx _ = _
 rw [roomEx, roomEs_eq]
 rfl
theorem mark_Expr (n : Int) (c : ExprD) : Mark.mark n c = ⟨n, n + 1, markL (n + 1 + 1) c.kids⟩ := by
 cases c
 show markEx _ _ = _
 rw [markEx, markEs_eq]
 rfl
theorem room_nodes (c : ExprD) : Mark.room c = 2 * nodesE c := by
 refine ex_ind (P := fun c => Mark.room c = 2 * nodesE c) (fun c ih => ?_) c
 have h : ∀ l : List ExprD, (∀ k ∈ l, Mark.room k = 2 * nodesE k) → rooms l = 2 * nodesL l := by
  intro l
  induction l with
  | nil => intro _; rw [nodesL_nil]; rfl
  | cons k r ihr => intro hk; rw [rooms_cons, nodesL_cons, hk k (by simp), ihr fun x hx => hk x (by simp [hx])]; omega
 rw [room_Expr, nodesE_eq, h _ ih]
 omega
def MkE (b : ExprD) : Prop := ∀ (u w : World) (x : Sl) (n : Int) (I R : Items), OwnD x b.kids I → St u w (I ++ R) → 0 ≤ n → n + rooms b.kids ≤ 1000000000000000 →
 Trip Tryd.prog 28 #[x.val, .int .i64 n] w fun r w' => ∃ I', r = .int .i64 (n + rooms b.kids) ∧ OwnD x (markL n b.kids) I' ∧ St u w' (I' ++ R)
def HdE (b : ExprD) : Prop := ∀ (v : World) (x : Sl) (n : Int), Read v x (markL n b.kids) → 0 ≤ n → n + rooms b.kids ≤ 1000000000000000 → Fn Tryd.prog 29 #[x.val, .int .i64 n] v (.int .i64 (n + rooms b.kids))
section
variable {u v w : World} {x y : Sl} {l m : List ExprD} {n b i : Int} {I J L R : Items}
theorem c_markExprS (H : ∀ k ∈ l, MkE k) (hO : OwnD x l I) (hS : St u w (I ++ R)) (n0 : 0 ≤ n) (n1 : n + rooms l ≤ 1000000000000000) :
  Trip Tryd.prog 28 #[x.val, .int .i64 n] w fun r w' => ∃ I', r = .int .i64 (n + rooms l) ∧ OwnD x (markL n l) I' ∧ St u w' (I' ++ R) := by
 refine of28 _ _ _ _ ?_
 unfold vc28
 have hn := hO.n
 have hle0 := hO.le
 refine ⟨fun n3 i w => ∃ (p r : List ExprD) (I : Items), l = p ++ r ∧ i = p.length ∧ n3 = n + rooms p ∧ OwnD x (markL n p ++ r) I ∧ St u w (I ++ R), fun _ i _ => (l.length - i).toNat, ⟨[], l, I, rfl, rfl, by simp [rooms], hO, hS⟩, ?_⟩
 clear hO hS
 rintro n3 i w ⟨p, r, I, hpr, rfl, rfl, hO, hS⟩
 dsimp only
 have hle : l.length = p.length + r.length := by rw [hpr, List.length_append]
 have hml := markL_len p n
 refine ⟨fun hi => ?_, fun hi => ?_⟩
 ·simp only [bls] at hi
  obtain ⟨c, r, rfl⟩ : ∃ c r', r = c :: r' := by
   cases r with
   | nil => simp at hle; omega
   | cons c r => exact ⟨c, r, rfl⟩
  simp only [List.length_cons] at hle
  have hcm : c ∈ l := by rw [hpr]; simp
  have hrm : rooms l = rooms p + (Mark.room c + rooms r) := by rw [hpr, rooms_app, rooms_cons]
  have hroom := room_Expr c
  have hi0 : (0 : Int) ≤ (p.length : Int) := by omega
  have hlt : ∀ d : ExprD, (p.length : Int) < (markL n p ++ d :: r).length := fun d => by simp; omega
  have hpm : (p.length : Int) = (markL n p).length := by rw [hml]
  have hsn := markL_snoc p c n
  rw [mark_Expr] at hsn
  have hrs : rooms (p ++ [c]) = rooms p + Mark.room c := by rw [rooms_app, rooms_one]
  generalize he : n + (rooms p : Int) = e at *
  refine ⟨hO.ix hi0 (hlt _), ?_⟩
  refine OwnD.store hO hS hi0 (hlt _) (⟨e, c.num, c.kids⟩ : ExprD) [] (Nat.le_of_ble_eq_true rfl) (fun r' K hr => ?_) ?_
  ·rw [nth_mid _ _ _ hpm] at hr
   obtain ⟨f_kids, rfl, q_op, q_num, o_kids⟩ := expr_own.1 hr
   exact ⟨_, (expr_own.2 ⟨f_kids, rfl, (show InI (e) from ⟨by omega, by omega⟩), q_num, o_kids⟩), .inr ⟨rfl, rfl⟩⟩
  intro w0 I0 hO hS
  rw [List.append_nil, set_mid _ _ _ _ hpm] at hO
  refine go_wr (by omega) (by omega) ?_
  refine ⟨hO.ix hi0 (hlt _), ?_⟩
  refine OwnD.store hO hS hi0 (hlt _) (⟨e, e + 1, c.kids⟩ : ExprD) [] (Nat.le_of_ble_eq_true rfl) (fun r' K hr => ?_) ?_
  ·rw [nth_mid _ _ _ hpm] at hr
   obtain ⟨f_kids, rfl, q_op, q_num, o_kids⟩ := expr_own.1 hr
   exact ⟨_, (expr_own.2 ⟨f_kids, rfl, q_op, (show InI (e + 1) from ⟨by omega, by omega⟩), o_kids⟩), .inr ⟨rfl, rfl⟩⟩
  intro w1 I1 hO hS
  rw [List.append_nil, set_mid _ _ _ _ hpm] at hO
  refine go_wr (by omega) (by omega) ?_
  refine ⟨hO.ix hi0 (hlt _), ?_⟩
  obtain ⟨row, K, Rest, hrow, hperm, hcell, hput⟩ := hO.borrow hi0 (hlt _)
  rw [nth_mid _ _ _ hpm] at hrow
  obtain ⟨f_kids, rfl, q_op, q_num, o_kids⟩ := expr_own.1 hrow
  have hS2 : St u _ (K ++ (Rest ++ R)) := hS.perm (by
   classical
   have hc := hperm.count_eq
   exact List.perm_iff_count.2 fun a => by have := hc a; simp only [List.count_append] at *; omega)
  refine ⟨f_kids, hcell _ (hS2.items (I := Rest)) 2 _ rfl, ?_⟩
  refine Trip.mono' (H c hcm u _ f_kids _ _ _ o_kids hS2 (by omega) (by omega)) ?_
  rintro _ w2 ⟨K'_kids, rfl, o'_kids, hS⟩
  replace hO := hput (⟨e, e + 1, markL (e + 1 + 1) c.kids⟩ : ExprD) (K'_kids) (expr_own.2 ⟨f_kids, rfl, q_op, q_num, o'_kids⟩)
  rw [set_mid _ _ _ _ hpm] at hO
  replace hS : St u w2 ((K'_kids ++ Rest) ++ R) := hS.perm (by
   classical
   exact List.perm_iff_count.2 fun a => by simp only [List.count_append]; omega)
  refine ⟨_, rfl, ?_⟩
  refine go_wr (by omega) (by omega) ?_
  refine ⟨⟨p ++ [c], r, _, by rw [hpr]; simp, by simp, by rw [hrs]; omega, ?_, hS⟩, by omega⟩
  rw [hsn, List.append_assoc]
  exact hO
 ·simp only [bls] at hi
  have hr : r = [] := List.eq_nil_of_length_eq_zero (by omega)
  subst hr
  rw [List.append_nil] at hpr hO
  subst hpr
  exact ⟨I, rfl, hO, hS⟩
theorem c_heldExprS (H : ∀ k ∈ l, HdE k) (hx : Read v x (markL n l)) (n0 : 0 ≤ n) (n1 : n + rooms l ≤ 1000000000000000) : Fn Tryd.prog 29 #[x.val, .int .i64 n] v (.int .i64 (n + rooms l)) := by
 refine of29 _ _ _ _ ?_
 unfold vc29
 have hn := hx.n
 have hle0 := hx.le
 rw [markL_len] at hn hle0
 refine ⟨fun n3 i w => ∃ (p r : List ExprD), l = p ++ r ∧ i = p.length ∧ n3 = n + rooms p ∧ Sub v w, fun _ i _ => (l.length - i).toNat, ⟨[], l, rfl, rfl, by simp [rooms], .refl v⟩, ?_⟩
 rintro n3 i w ⟨p, r, hpr, rfl, rfl, hs⟩
 dsimp only
 have hle : l.length = p.length + r.length := by rw [hpr, List.length_append]
 have hml := markL_len p n
 refine ⟨fun hi => ?_, fun hi => ?_⟩
 ·simp only [bls] at hi
  obtain ⟨c, r, rfl⟩ : ∃ c r', r = c :: r' := by
   cases r with
   | nil => simp at hle; omega
   | cons c r => exact ⟨c, r, rfl⟩
  simp only [List.length_cons] at hle
  have hcm : c ∈ l := by rw [hpr]; simp
  have hrm : rooms l = rooms p + (Mark.room c + rooms r) := by rw [hpr, rooms_app, rooms_cons]
  have hroom := room_Expr c
  have hi0 : (0 : Int) ≤ (p.length : Int) := by omega
  have hlt : (p.length : Int) < (markL n l).length := by rw [markL_len]; omega
  have hrs : rooms (p ++ [c]) = rooms p + Mark.room c := by rw [rooms_app, rooms_one]
  have hnth : nth (markL n l) (p.length : Int) = Mark.mark (n + rooms p) c := by
   rw [hpr, markL_app]
   exact nth_mid _ _ _ (by rw [hml])
  generalize he : n + (rooms p : Int) = e at *
  replace hnth : nth (markL n l) (p.length : Int) = (⟨e, e + 1, markL (e + 1 + 1) c.kids⟩ : ExprD) := hnth.trans (mark_Expr _ _)
  obtain ⟨f_kids, ⟨hc0, hc1, hc2⟩, r_kids⟩ := rowExprD (hx.mono hs) hi0 hlt
  rw [hnth] at hc0 hc1 r_kids
  refine ⟨hx.ix hi0 hlt, _, hc0, ?_⟩
  refine ⟨fun hc => ?_, fun _ => ?_⟩
  ·simp only [bls] at hc; exact (hc (by first | trivial | rfl)).elim
  refine go_wr (by omega) (by omega) ?_
  refine ⟨hx.ix hi0 hlt, _, hc1, ?_⟩
  refine ⟨fun hc => ?_, fun _ => ?_⟩
  ·simp only [bls] at hc; exact (hc (by first | trivial | rfl)).elim
  refine go_wr (by omega) (by omega) ?_
  refine ⟨hx.ix hi0 hlt, _, hc2, ?_⟩
  refine ⟨_, H c hcm w f_kids _ r_kids (by omega) (by omega), fun hc => ?_, fun _ => ?_⟩
  ·simp only [bls] at hc; omega
  refine go_wr (by omega) (by omega) ?_
  exact ⟨⟨p ++ [c], r, by rw [hpr]; simp, by simp, by rw [hrs]; omega, hs⟩, by omega⟩
 ·simp only [bls] at hi
  have hr : r = [] := List.eq_nil_of_length_eq_zero (by omega)
  subst hr
  rw [List.append_nil] at hpr
  subst hpr
  exact ⟨rfl, hs⟩
theorem c_markKids (b : ExprD) : MkE b := by
 refine ex_ind (P := MkE) (fun b ih => ?_) b
 intro u w x n I R hO hS n0 n1
 exact c_markExprS ih hO hS n0 n1
theorem c_heldKids (b : ExprD) : HdE b := by
 refine ex_ind (P := HdE) (fun b ih => ?_) b
 intro v x n hx n0 n1
 exact c_heldExprS ih hx n0 n1
end
end Go.Vc

namespace Go.Vc
open Go Go.Proofs Go.RowKit
set_option linter.all false
section
variable {u v w : World} {x : Sl} {e : ExprD} {op num : Int} {I R : Items}
theorem c_markExpr (hO : OwnD x e.kids I) (hS : St u w (I ++ R)) (hb : rooms e.kids ≤ 1000000) : Trip Tryd.prog 13 #[.agg #[.int .i64 op, .int .i64 num, x.val], .int .i64 1] w fun r w' => ∃ I', r = .int .i64 (1 + rooms e.kids) ∧ OwnD x (markL 1 e.kids) I' ∧ St u w' (I' ++ R) := by
 refine of13 _ _ _ _ _ _ ?_
 unfold vc13
 refine Trip.mono' (c_markKids e u w x 1 I R hO hS (by omega) (by omega)) ?_
 rintro _ w1 ⟨I', rfl, hO', hS'⟩
 exact ⟨_, rfl, I', rfl, hO', hS'⟩
theorem c_heldExpr (hx : Read v x (markL 1 e.kids)) (hb : rooms e.kids ≤ 1000000) : Fn Tryd.prog 14 #[.agg #[.int .i64 op, .int .i64 num, x.val], .int .i64 1] v (.int .i64 (1 + rooms e.kids)) := by
 refine of14 _ _ _ _ _ _ ?_
 unfold vc14
 refine ⟨_, c_heldKids e v x 1 hx (by omega) (by omega), fun hc => ?_, fun _ => ⟨rfl, .refl v⟩⟩
 simp only [bls] at hc; omega
theorem l_ExactParseExpr {s : List UInt8} (hT : Tab2 v) : Trip Tryd.prog 4 #[.string (str s)] v fun r v' => r = .bool true ∧ Sub v v' := by
 refine of4 _ _ _ ?_
 unfold vc4
 have hz := str_size s
 refine ⟨fun hc => ⟨rfl, .refl v⟩, fun hc => ?_⟩
 simp only [bls] at hc
 refine (c_ParseExprS (v := v) (l := s) (by omega)).mono' ?_
 rintro _ w1 ⟨e1, x1, ok1, J1, G1, rfl, hO1, i1, i2, hS1, hP1⟩
 refine ⟨_, _, x1, ok1, rfl, ?_⟩
 refine (c_ParseExprI (v := w1) (l := s) (hT.mono hS1.sub) (by omega)).mono' ?_
 rintro _ w2 ⟨e, x2, ok, J2, G2, rfl, hO2, j1, j2, hS2, hP2⟩
 obtain ⟨q1, q2⟩ := hP1.same hP2
 subst q1; subst q2
 have r1 : Read w1 x1 e1.kids := hO1.read hS1
 refine ⟨_, _, x2, ok1, rfl, _, c_eqExpr e1 w2 e1 x2 x1 (hO2.read hS2) (r1.mono hS2.sub), fun hq => ?_, fun _ => ?_⟩
 ·simp at hq
 have hroom : rooms e1.kids ≤ 1000000 := by
  rcases hP1 with ⟨_, _, h3, _, _⟩ | ⟨_, h2, _⟩
  ·have h5 := room_nodes e1
   rw [room_Expr] at h5
   omega
  ·rw [h2]; exact Nat.zero_le _
 refine Trip.mono' (c_markExpr hO2 hS2 hroom) ?_
 rintro _ w3 ⟨J3, rfl, hO3, hS3⟩
 have hsub3 : Sub w1 w3 := hS3.sub
 refine ⟨_, rfl, _, c_heldExpr (hO3.read hS3) hroom, fun hq => ?_, fun _ => ⟨fun hq => ?_, fun _ => ?_⟩⟩
 ·simp only [bls] at hq; omega
 ·simp only [bls] at hq; exact (hq (by trivial)).elim
 refine (c_ParseExprI (v := w3) (l := s) (hT.mono (hS1.sub.trans hsub3)) (by omega)).mono' ?_
 rintro _ w4 ⟨e4, x4, ok4, J4, G4, rfl, hO4, k1, k2, hS4, hP4⟩
 obtain ⟨q1, q2⟩ := hP1.same hP4
 subst q1; subst q2
 refine ⟨_, _, x4, ok1, rfl, _, c_eqExpr e1 w4 e1 x4 x1 (hO4.read hS4) (r1.mono (hsub3.trans hS4.sub)), fun hq => ?_, fun _ => ?_⟩
 ·simp at hq
 refine ⟨_, c_heldExpr ((hO3.read hS3).mono hS4.sub) hroom, fun hq => ?_, fun _ => ⟨fun hq => ?_, fun _ => ⟨rfl, hS1.sub.trans (hsub3.trans hS4.sub)⟩⟩⟩
 ·simp only [bls] at hq; omega
 ·simp only [bls] at hq; exact (hq (by trivial)).elim
end
end Go.Vc
