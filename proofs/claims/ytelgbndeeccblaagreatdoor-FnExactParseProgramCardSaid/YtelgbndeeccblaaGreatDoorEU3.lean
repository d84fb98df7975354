/- Part of the proofs about the heaps and memories: a law is joined in the text whose name ends in W and the law. -/
import Derived.Test.YtelgbndeeccblaaGreatDoorEK7
import Derived.Test.YtelgbndeeccblaaGreatDoorETX
import Derived.Test.YtelgbndeeccblaaGreatDoorEP5
namespace Go.Vc
open Go Go.Proofs Go.RowKit
set_option linter.all false
mutual
def roomEx : ExprD → Nat
 | ⟨_, _, kids⟩ => 1 + 1 + roomEs kids
def roomEs : List ExprD → Nat
 | [] => 0
 | k :: r => roomEx k + roomEs r
end
mutual
def markEx : Int → ExprD → ExprD
 | n, ⟨_, _, kids⟩ => ⟨n, n + 1, markEs (n + 1 + 1) kids⟩
def markEs : Int → List ExprD → List ExprD
 | _, [] => []
 | n, k :: r => markEx n k :: markEs (n + roomEx k) r
end
instance : Mark ExprD := ⟨roomEx, markEx⟩
theorem roomEs_eq : ∀ l : List ExprD, roomEs l = rooms l
 | [] => by rw [roomEs]; rfl
 | s :: r => by rw [roomEs, roomEs_eq r, rooms_cons]; rfl
theorem markEs_eq : ∀ (l : List ExprD) (n : Int), markEs n l = markL n l
 | [], n => by rw [markEs]; rfl
 | s :: r, n => by rw [markEs, markEs_eq r]; rfl
theorem room_Expr (c : ExprD) : Mark.room c = 1 + 1 + rooms c.kids := by
 cases c
 show roomEx _ = _
 rw [roomEx, roomEs_eq]
 rfl
theorem mark_Expr (n : Int) (c : ExprD) : Mark.mark n c = ⟨n, n + 1, markL (n + 1 + 1) c.kids⟩ := by
 cases c
 show markEx _ _ = _
 rw [markEx, markEs_eq]
 rfl
theorem room_nodes (c : ExprD) : Mark.room c = 2 * nodesE c := by
 refine ex_ind (P := fun c => Mark.room c = 2 * nodesE c) (fun c ih => ?_) c
 have h : ∀ l : List ExprD, (∀ k ∈ l, Mark.room k = 2 * nodesE k) → rooms l = 2 * nodesL l := by
  intro l
  induction l with
  | nil => intro _; rw [nodesL_nil]; rfl
  | cons k r ihr => intro hk; rw [rooms_cons, nodesL_cons, hk k (by simp), ihr fun x hx => hk x (by simp [hx])]; omega
 rw [room_Expr, nodesE_eq, h _ ih]
 omega
def MkE (b : ExprD) : Prop := ∀ (u w : World) (x : Sl) (n : Int) (I R : Items), OwnD x b.kids I → St u w (I ++ R) → 0 ≤ n → n + rooms b.kids ≤ 1000000000000000 →
 Trip Tryz.prog 98 #[x.val, .int .i64 n] w fun r w' => ∃ I', r = .int .i64 (n + rooms b.kids) ∧ OwnD x (markL n b.kids) I' ∧ St u w' (I' ++ R)
def HdE (b : ExprD) : Prop := ∀ (v : World) (x : Sl) (n : Int), Read v x (markL n b.kids) → 0 ≤ n → n + rooms b.kids ≤ 1000000000000000 → Fn Tryz.prog 101 #[x.val, .int .i64 n] v (.int .i64 (n + rooms b.kids))
section
variable {u v w : World} {x y : Sl} {l m : List ExprD} {n b i : Int} {I J L R : Items}
theorem c_markExprS (H : ∀ k ∈ l, MkE k) (hO : OwnD x l I) (hS : St u w (I ++ R)) (n0 : 0 ≤ n) (n1 : n + rooms l ≤ 1000000000000000) :
  Trip Tryz.prog 98 #[x.val, .int .i64 n] w fun r w' => ∃ I', r = .int .i64 (n + rooms l) ∧ OwnD x (markL n l) I' ∧ St u w' (I' ++ R) := by
 refine of98 _ _ _ _ ?_
 unfold vc98
 have hn := hO.n
 have hle0 := hO.le
 refine ⟨fun n3 i w => ∃ (p r : List ExprD) (I : Items), l = p ++ r ∧ i = p.length ∧ n3 = n + rooms p ∧ OwnD x (markL n p ++ r) I ∧ St u w (I ++ R), fun _ i _ => (l.length - i).toNat, ⟨[], l, I, rfl, rfl, by simp [rooms], hO, hS⟩, ?_⟩
 clear hO hS
 rintro n3 i w ⟨p, r, I, hpr, rfl, rfl, hO, hS⟩
 dsimp only
 have hle : l.length = p.length + r.length := by rw [hpr, List.length_append]
 have hml := markL_len p n
 refine ⟨fun hi => ?_, fun hi => ?_⟩
 ·simp only [bls] at hi
  obtain ⟨c, r, rfl⟩ : ∃ c r', r = c :: r' := by
   cases r with
   | nil => simp at hle; omega
   | cons c r => exact ⟨c, r, rfl⟩
  simp only [List.length_cons] at hle
  have hcm : c ∈ l := by rw [hpr]; simp
  have hrm : rooms l = rooms p + (Mark.room c + rooms r) := by rw [hpr, rooms_app, rooms_cons]
  have hroom := room_Expr c
  have hi0 : (0 : Int) ≤ (p.length : Int) := by omega
  have hlt : ∀ d : ExprD, (p.length : Int) < (markL n p ++ d :: r).length := fun d => by simp; omega
  have hpm : (p.length : Int) = (markL n p).length := by rw [hml]
  have hsn := markL_snoc p c n
  rw [mark_Expr] at hsn
  have hrs : rooms (p ++ [c]) = rooms p + Mark.room c := by rw [rooms_app, rooms_one]
  generalize he : n + (rooms p : Int) = e at *
  refine ⟨hO.ix hi0 (hlt _), ?_⟩
  refine OwnD.store hO hS hi0 (hlt _) (⟨e, c.num, c.kids⟩ : ExprD) [] (Nat.le_of_ble_eq_true rfl) (fun r' K hr => ?_) ?_
  ·rw [nth_mid _ _ _ hpm] at hr
   obtain ⟨f_kids, rfl, q_op, q_num, o_kids⟩ := expr_own.1 hr
   exact ⟨_, (expr_own.2 ⟨f_kids, rfl, (show InI (e) from ⟨by omega, by omega⟩), q_num, o_kids⟩), .inr ⟨rfl, rfl⟩⟩
  intro w0 I0 hO hS
  rw [List.append_nil, set_mid _ _ _ _ hpm] at hO
  refine go_wr (by omega) (by omega) ?_
  refine ⟨hO.ix hi0 (hlt _), ?_⟩
  refine OwnD.store hO hS hi0 (hlt _) (⟨e, e + 1, c.kids⟩ : ExprD) [] (Nat.le_of_ble_eq_true rfl) (fun r' K hr => ?_) ?_
  ·rw [nth_mid _ _ _ hpm] at hr
   obtain ⟨f_kids, rfl, q_op, q_num, o_kids⟩ := expr_own.1 hr
   exact ⟨_, (expr_own.2 ⟨f_kids, rfl, q_op, (show InI (e + 1) from ⟨by omega, by omega⟩), o_kids⟩), .inr ⟨rfl, rfl⟩⟩
  intro w1 I1 hO hS
  rw [List.append_nil, set_mid _ _ _ _ hpm] at hO
  refine go_wr (by omega) (by omega) ?_
  refine ⟨hO.ix hi0 (hlt _), ?_⟩
  obtain ⟨row, K, Rest, hrow, hperm, hcell, hput⟩ := hO.borrow hi0 (hlt _)
  rw [nth_mid _ _ _ hpm] at hrow
  obtain ⟨f_kids, rfl, q_op, q_num, o_kids⟩ := expr_own.1 hrow
  have hS2 : St u _ (K ++ (Rest ++ R)) := hS.perm (by
   classical
   have hc := hperm.count_eq
   exact List.perm_iff_count.2 fun a => by have := hc a; simp only [List.count_append] at *; omega)
  refine ⟨f_kids, hcell _ (hS2.items (I := Rest)) 2 _ rfl, ?_⟩
  refine Trip.mono' (H c hcm u _ f_kids _ _ _ o_kids hS2 (by omega) (by omega)) ?_
  rintro _ w2 ⟨K'_kids, rfl, o'_kids, hS⟩
  replace hO := hput (⟨e, e + 1, markL (e + 1 + 1) c.kids⟩ : ExprD) (K'_kids) (expr_own.2 ⟨f_kids, rfl, q_op, q_num, o'_kids⟩)
  rw [set_mid _ _ _ _ hpm] at hO
  replace hS : St u w2 ((K'_kids ++ Rest) ++ R) := hS.perm (by
   classical
   exact List.perm_iff_count.2 fun a => by simp only [List.count_append]; omega)
  refine ⟨_, rfl, ?_⟩
  refine go_wr (by omega) (by omega) ?_
  refine ⟨⟨p ++ [c], r, _, by rw [hpr]; simp, by simp, by rw [hrs]; omega, ?_, hS⟩, by omega⟩
  rw [hsn, List.append_assoc]
  exact hO
 ·simp only [bls] at hi
  have hr : r = [] := List.eq_nil_of_length_eq_zero (by omega)
  subst hr
  rw [List.append_nil] at hpr hO
  subst hpr
  exact ⟨I, rfl, hO, hS⟩
theorem c_heldExprS (H : ∀ k ∈ l, HdE k) (hx : Read v x (markL n l)) (n0 : 0 ≤ n) (n1 : n + rooms l ≤ 1000000000000000) : Fn Tryz.prog 101 #[x.val, .int .i64 n] v (.int .i64 (n + rooms l)) := by
 refine of101 _ _ _ _ ?_
 unfold vc101
 have hn := hx.n
 have hle0 := hx.le
 rw [markL_len] at hn hle0
 refine ⟨fun n3 i w => ∃ (p r : List ExprD), l = p ++ r ∧ i = p.length ∧ n3 = n + rooms p ∧ Sub v w, fun _ i _ => (l.length - i).toNat, ⟨[], l, rfl, rfl, by simp [rooms], .refl v⟩, ?_⟩
 rintro n3 i w ⟨p, r, hpr, rfl, rfl, hs⟩
 dsimp only
 have hle : l.length = p.length + r.length := by rw [hpr, List.length_append]
 have hml := markL_len p n
 refine ⟨fun hi => ?_, fun hi => ?_⟩
 ·simp only [bls] at hi
  obtain ⟨c, r, rfl⟩ : ∃ c r', r = c :: r' := by
   cases r with
   | nil => simp at hle; omega
   | cons c r => exact ⟨c, r, rfl⟩
  simp only [List.length_cons] at hle
  have hcm : c ∈ l := by rw [hpr]; simp
  have hrm : rooms l = rooms p + (Mark.room c + rooms r) := by rw [hpr, rooms_app, rooms_cons]
  have hroom := room_Expr c
  have hi0 : (0 : Int) ≤ (p.length : Int) := by omega
  have hlt : (p.length : Int) < (markL n l).length := by rw [markL_len]; omega
  have hrs : rooms (p ++ [c]) = rooms p + Mark.room c := by rw [rooms_app, rooms_one]
  have hnth : nth (markL n l) (p.length : Int) = Mark.mark (n + rooms p) c := by
   rw [hpr, markL_app]
   exact nth_mid _ _ _ (by rw [hml])
  generalize he : n + (rooms p : Int) = e at *
  replace hnth : nth (markL n l) (p.length : Int) = (⟨e, e + 1, markL (e + 1 + 1) c.kids⟩ : ExprD) := hnth.trans (mark_Expr _ _)
  obtain ⟨f_kids, ⟨hc0, hc1, hc2⟩, r_kids⟩ := rowExprD (hx.mono hs) hi0 hlt
  rw [hnth] at hc0 hc1 r_kids
  refine ⟨hx.ix hi0 hlt, _, hc0, ?_⟩
  refine ⟨fun hc => ?_, fun _ => ?_⟩
  ·simp only [bls] at hc; exact (hc (by first | trivial | rfl)).elim
  refine go_wr (by omega) (by omega) ?_
  refine ⟨hx.ix hi0 hlt, _, hc1, ?_⟩
  refine ⟨fun hc => ?_, fun _ => ?_⟩
  ·simp only [bls] at hc; exact (hc (by first | trivial | rfl)).elim
  refine go_wr (by omega) (by omega) ?_
  refine ⟨hx.ix hi0 hlt, _, hc2, ?_⟩
  refine ⟨_, H c hcm w f_kids _ r_kids (by omega) (by omega), fun hc => ?_, fun _ => ?_⟩
  ·simp only [bls] at hc; omega
  refine go_wr (by omega) (by omega) ?_
  exact ⟨⟨p ++ [c], r, by rw [hpr]; simp, by simp, by rw [hrs]; omega, hs⟩, by omega⟩
 ·simp only [bls] at hi
  have hr : r = [] := List.eq_nil_of_length_eq_zero (by omega)
  subst hr
  rw [List.append_nil] at hpr
  subst hpr
  exact ⟨rfl, hs⟩
theorem c_markKids (b : ExprD) : MkE b := by
 refine ex_ind (P := MkE) (fun b ih => ?_) b
 intro u w x n I R hO hS n0 n1
 exact c_markExprS ih hO hS n0 n1
theorem c_heldKids (b : ExprD) : HdE b := by
 refine ex_ind (P := HdE) (fun b ih => ?_) b
 intro v x n hx n0 n1
 exact c_heldExprS ih hx n0 n1
end
end Go.Vc

namespace Go.Vc
open Go Go.Proofs Go.RowKit
set_option linter.all false
theorem fun_own {cs : List Value} {c : FunD} {K : Items} : DatO.own cs c K ↔ ∃ (f k : Sl) (K1 K2 : Items), cs = [f.val, intV c.result, intV c.body.op, intV c.body.num, k.val] ∧ InI c.result ∧ InI c.body.op ∧ InI c.body.num ∧ (∀ u, Own u f c.params K1) ∧ OwnD k c.body.kids K2 ∧ K = K1 ++ K2 := by
 constructor
 ·rintro ⟨f, k, K1, K2, h0, i1, o1, o2, h3⟩
  obtain ⟨f2, h2, i2, i3, o3⟩ := expr_own.1 o2
  have hy : f2 = k := by
   have h1 : k.val = f2.val := by simpa using h2
   clear h2 o2 o3 h0
   obtain ⟨a1, a2, a3⟩ := f2
   obtain ⟨b1, b2, b3⟩ := k
   simp only [Sl.val, Value.slice.injEq] at h1
   obtain ⟨h1, h2, h3⟩ := h1
   subst h1 h2 h3
   rfl
  subst hy
  exact ⟨f, f2, K1, K2, h0, i1, i2, i3, o1, o3, h3⟩
 ·rintro ⟨f, k, K1, K2, h0, i1, i2, i3, o1, o3, h3⟩
  exact ⟨f, k, K1, K2, h0, i1, o1, expr_own.2 ⟨k, rfl, i2, i3, o3⟩, h3⟩
instance : Mark FunD := ⟨fun c => c.params.length + 1 + 1 + 1 + rooms c.body.kids, fun n c => ⟨marks (n) c.params.length, n + c.params.length, ⟨n + c.params.length + 1, n + c.params.length + 1 + 1, markL (n + c.params.length + 1 + 1 + 1) c.body.kids⟩⟩⟩
theorem room_Func (c : FunD) : Mark.room c = c.params.length + 1 + 1 + 1 + rooms c.body.kids := rfl
theorem mark_Func (n : Int) (c : FunD) : Mark.mark n c = ⟨marks (n) c.params.length, n + c.params.length, ⟨n + c.params.length + 1, n + c.params.length + 1 + 1, markL (n + c.params.length + 1 + 1 + 1) c.body.kids⟩⟩ := rfl
section
variable {u v w : World} {x y : Sl} {l m : List FunD} {n b i : Int} {I J L R : Items}
theorem c_markFuncS  (hO : OwnD x l I) (hS : St u w (I ++ R)) (n0 : 0 ≤ n) (n1 : n + rooms l ≤ 1000000000000000) :
  Trip Tryz.prog 50 #[x.val, .int .i64 n] w fun r w' => ∃ I', r = .int .i64 (n + rooms l) ∧ OwnD x (markL n l) I' ∧ St u w' (I' ++ R) := by
 refine of50 _ _ _ _ ?_
 unfold vc50
 have hn := hO.n
 have hle0 := hO.le
 refine ⟨fun n3 i w => ∃ (p r : List FunD) (I : Items), l = p ++ r ∧ i = p.length ∧ n3 = n + rooms p ∧ OwnD x (markL n p ++ r) I ∧ St u w (I ++ R), fun _ i _ => (l.length - i).toNat, ⟨[], l, I, rfl, rfl, by simp [rooms], hO, hS⟩, ?_⟩
 clear hO hS
 rintro n3 i w ⟨p, r, I, hpr, rfl, rfl, hO, hS⟩
 dsimp only
 have hle : l.length = p.length + r.length := by rw [hpr, List.length_append]
 have hml := markL_len p n
 refine ⟨fun hi => ?_, fun hi => ?_⟩
 ·simp only [bls] at hi
  obtain ⟨c, r, rfl⟩ : ∃ c r', r = c :: r' := by
   cases r with
   | nil => simp at hle; omega
   | cons c r => exact ⟨c, r, rfl⟩
  simp only [List.length_cons] at hle
  have hcm : c ∈ l := by rw [hpr]; simp
  have hrm : rooms l = rooms p + (Mark.room c + rooms r) := by rw [hpr, rooms_app, rooms_cons]
  have hroom := room_Func c
  have hi0 : (0 : Int) ≤ (p.length : Int) := by omega
  have hlt : ∀ d : FunD, (p.length : Int) < (markL n p ++ d :: r).length := fun d => by simp; omega
  have hpm : (p.length : Int) = (markL n p).length := by rw [hml]
  have hsn := markL_snoc p c n
  rw [mark_Func] at hsn
  have hrs : rooms (p ++ [c]) = rooms p + Mark.room c := by rw [rooms_app, rooms_one]
  generalize he : n + (rooms p : Int) = e at *
  refine ⟨hO.ix hi0 (hlt _), ?_⟩
  obtain ⟨row, K, Rest, hrow, hperm, hcell, hput⟩ := hO.borrow hi0 (hlt _)
  rw [nth_mid _ _ _ hpm] at hrow
  obtain ⟨f_params, f_bkids, K_params, K_bkids, rfl, q_result, q_bop, q_bnum, o_params, o_bkids, rfl⟩ := fun_own.1 hrow
  have hS2 : St u _ (K_params ++ (K_bkids ++ (Rest ++ R))) := hS.perm (by
   classical
   have hc := hperm.count_eq
   exact List.perm_iff_count.2 fun a => by have := hc a; simp only [List.count_append] at *; omega)
  refine ⟨f_params, hcell _ (hS2.items (I := Rest)) 0 _ rfl, ?_⟩
  refine Trip.mono' (c_markIntS (l := c.params) (o_params u) hS2 (by omega) (by omega)) ?_
  rintro _ w0 ⟨K'_params, rfl, o'_params, hS⟩
  replace hO := hput (⟨marks (e) c.params.length, c.result, ⟨c.body.op, c.body.num, c.body.kids⟩⟩ : FunD) (K'_params ++ K_bkids) (fun_own.2 ⟨f_params, f_bkids, _, _, rfl, q_result, q_bop, q_bnum, o'_params.toAll, o_bkids, rfl⟩)
  rw [set_mid _ _ _ _ hpm] at hO
  replace hS : St u w0 (((K'_params ++ K_bkids) ++ Rest) ++ R) := hS.perm (by
   classical
   exact List.perm_iff_count.2 fun a => by simp only [List.count_append]; omega)
  refine ⟨_, rfl, ?_⟩
  refine ⟨hO.ix hi0 (hlt _), ?_⟩
  refine OwnD.store hO hS hi0 (hlt _) (⟨marks (e) c.params.length, e + c.params.length, ⟨c.body.op, c.body.num, c.body.kids⟩⟩ : FunD) [] (Nat.le_of_ble_eq_true rfl) (fun r' K hr => ?_) ?_
  ·rw [nth_mid _ _ _ hpm] at hr
   obtain ⟨f_params, f_bkids, K_params, K_bkids, rfl, q_result, q_bop, q_bnum, o_params, o_bkids, rfl⟩ := fun_own.1 hr
   exact ⟨_, (fun_own.2 ⟨f_params, f_bkids, _, _, rfl, (show InI (e + c.params.length) from ⟨by omega, by omega⟩), q_bop, q_bnum, o_params, o_bkids, rfl⟩), .inr ⟨rfl, rfl⟩⟩
  intro w1 I1 hO hS
  rw [List.append_nil, set_mid _ _ _ _ hpm] at hO
  refine go_wr (by omega) (by omega) ?_
  refine ⟨hO.ix hi0 (hlt _), ?_⟩
  refine OwnD.store hO hS hi0 (hlt _) (⟨marks (e) c.params.length, e + c.params.length, ⟨e + c.params.length + 1, c.body.num, c.body.kids⟩⟩ : FunD) [] (Nat.le_of_ble_eq_true rfl) (fun r' K hr => ?_) ?_
  ·rw [nth_mid _ _ _ hpm] at hr
   obtain ⟨f_params, f_bkids, K_params, K_bkids, rfl, q_result, q_bop, q_bnum, o_params, o_bkids, rfl⟩ := fun_own.1 hr
   exact ⟨_, (fun_own.2 ⟨f_params, f_bkids, _, _, rfl, q_result, (show InI (e + c.params.length + 1) from ⟨by omega, by omega⟩), q_bnum, o_params, o_bkids, rfl⟩), .inr ⟨rfl, rfl⟩⟩
  intro w2 I2 hO hS
  rw [List.append_nil, set_mid _ _ _ _ hpm] at hO
  refine go_wr (by omega) (by omega) ?_
  refine ⟨hO.ix hi0 (hlt _), ?_⟩
  refine OwnD.store hO hS hi0 (hlt _) (⟨marks (e) c.params.length, e + c.params.length, ⟨e + c.params.length + 1, e + c.params.length + 1 + 1, c.body.kids⟩⟩ : FunD) [] (Nat.le_of_ble_eq_true rfl) (fun r' K hr => ?_) ?_
  ·rw [nth_mid _ _ _ hpm] at hr
   obtain ⟨f_params, f_bkids, K_params, K_bkids, rfl, q_result, q_bop, q_bnum, o_params, o_bkids, rfl⟩ := fun_own.1 hr
   exact ⟨_, (fun_own.2 ⟨f_params, f_bkids, _, _, rfl, q_result, q_bop, (show InI (e + c.params.length + 1 + 1) from ⟨by omega, by omega⟩), o_params, o_bkids, rfl⟩), .inr ⟨rfl, rfl⟩⟩
  intro w3 I3 hO hS
  rw [List.append_nil, set_mid _ _ _ _ hpm] at hO
  refine go_wr (by omega) (by omega) ?_
  refine ⟨hO.ix hi0 (hlt _), ?_⟩
  obtain ⟨row, K, Rest, hrow, hperm, hcell, hput⟩ := hO.borrow hi0 (hlt _)
  rw [nth_mid _ _ _ hpm] at hrow
  obtain ⟨f_params, f_bkids, K_params, K_bkids, rfl, q_result, q_bop, q_bnum, o_params, o_bkids, rfl⟩ := fun_own.1 hrow
  have hS2 : St u _ (K_bkids ++ (K_params ++ (Rest ++ R))) := hS.perm (by
   classical
   have hc := hperm.count_eq
   exact List.perm_iff_count.2 fun a => by have := hc a; simp only [List.count_append] at *; omega)
  refine ⟨f_bkids, hcell _ (hS2.items (I := Rest)) 4 _ rfl, ?_⟩
  refine Trip.mono' (c_markKids c.body u _ f_bkids _ _ _ o_bkids hS2 (by omega) (by omega)) ?_
  rintro _ w4 ⟨K'_bkids, rfl, o'_bkids, hS⟩
  replace hO := hput (⟨marks (e) c.params.length, e + c.params.length, ⟨e + c.params.length + 1, e + c.params.length + 1 + 1, markL (e + c.params.length + 1 + 1 + 1) c.body.kids⟩⟩ : FunD) (K_params ++ K'_bkids) (fun_own.2 ⟨f_params, f_bkids, _, _, rfl, q_result, q_bop, q_bnum, o_params, o'_bkids, rfl⟩)
  rw [set_mid _ _ _ _ hpm] at hO
  replace hS : St u w4 (((K_params ++ K'_bkids) ++ Rest) ++ R) := hS.perm (by
   classical
   exact List.perm_iff_count.2 fun a => by simp only [List.count_append]; omega)
  refine ⟨_, rfl, ?_⟩
  refine go_wr (by omega) (by omega) ?_
  refine ⟨⟨p ++ [c], r, _, by rw [hpr]; simp, by simp, by rw [hrs]; omega, ?_, hS⟩, by omega⟩
  rw [hsn, List.append_assoc]
  exact hO
 ·simp only [bls] at hi
  have hr : r = [] := List.eq_nil_of_length_eq_zero (by omega)
  subst hr
  rw [List.append_nil] at hpr hO
  subst hpr
  exact ⟨I, rfl, hO, hS⟩
theorem c_heldFuncS  (hx : Read v x (markL n l)) (n0 : 0 ≤ n) (n1 : n + rooms l ≤ 1000000000000000) : Fn Tryz.prog 52 #[x.val, .int .i64 n] v (.int .i64 (n + rooms l)) := by
 refine of52 _ _ _ _ ?_
 unfold vc52
 have hn := hx.n
 have hle0 := hx.le
 rw [markL_len] at hn hle0
 refine ⟨fun n3 i w => ∃ (p r : List FunD), l = p ++ r ∧ i = p.length ∧ n3 = n + rooms p ∧ Sub v w, fun _ i _ => (l.length - i).toNat, ⟨[], l, rfl, rfl, by simp [rooms], .refl v⟩, ?_⟩
 rintro n3 i w ⟨p, r, hpr, rfl, rfl, hs⟩
 dsimp only
 have hle : l.length = p.length + r.length := by rw [hpr, List.length_append]
 have hml := markL_len p n
 refine ⟨fun hi => ?_, fun hi => ?_⟩
 ·simp only [bls] at hi
  obtain ⟨c, r, rfl⟩ : ∃ c r', r = c :: r' := by
   cases r with
   | nil => simp at hle; omega
   | cons c r => exact ⟨c, r, rfl⟩
  simp only [List.length_cons] at hle
  have hcm : c ∈ l := by rw [hpr]; simp
  have hrm : rooms l = rooms p + (Mark.room c + rooms r) := by rw [hpr, rooms_app, rooms_cons]
  have hroom := room_Func c
  have hi0 : (0 : Int) ≤ (p.length : Int) := by omega
  have hlt : (p.length : Int) < (markL n l).length := by rw [markL_len]; omega
  have hrs : rooms (p ++ [c]) = rooms p + Mark.room c := by rw [rooms_app, rooms_one]
  have hnth : nth (markL n l) (p.length : Int) = Mark.mark (n + rooms p) c := by
   rw [hpr, markL_app]
   exact nth_mid _ _ _ (by rw [hml])
  generalize he : n + (rooms p : Int) = e at *
  replace hnth : nth (markL n l) (p.length : Int) = (⟨marks (e) c.params.length, e + c.params.length, ⟨e + c.params.length + 1, e + c.params.length + 1 + 1, markL (e + c.params.length + 1 + 1 + 1) c.body.kids⟩⟩ : FunD) := hnth.trans (mark_Func _ _)
  obtain ⟨f_params, f_bkids, ⟨hc0, hc1, hc2, hc3, hc4⟩, r_params, r_bkids⟩ := rowFunD (hx.mono hs) hi0 hlt
  rw [hnth] at hc1 hc2 hc3 r_params r_bkids
  refine ⟨hx.ix hi0 hlt, _, hc0, ?_⟩
  refine ⟨_, c_heldIntS r_params (by omega) (by omega), fun hc => ?_, fun _ => ?_⟩
  ·simp only [bls] at hc; omega
  refine ⟨hx.ix hi0 hlt, _, hc1, ?_⟩
  refine ⟨fun hc => ?_, fun _ => ?_⟩
  ·simp only [bls] at hc; exact (hc (by first | trivial | rfl)).elim
  refine go_wr (by omega) (by omega) ?_
  refine ⟨hx.ix hi0 hlt, _, hc2, ?_⟩
  refine ⟨fun hc => ?_, fun _ => ?_⟩
  ·simp only [bls] at hc; exact (hc (by first | trivial | rfl)).elim
  refine go_wr (by omega) (by omega) ?_
  refine ⟨hx.ix hi0 hlt, _, hc3, ?_⟩
  refine ⟨fun hc => ?_, fun _ => ?_⟩
  ·simp only [bls] at hc; exact (hc (by first | trivial | rfl)).elim
  refine go_wr (by omega) (by omega) ?_
  refine ⟨hx.ix hi0 hlt, _, hc4, ?_⟩
  refine ⟨_, c_heldKids c.body w f_bkids _ r_bkids (by omega) (by omega), fun hc => ?_, fun _ => ?_⟩
  ·simp only [bls] at hc; omega
  refine go_wr (by omega) (by omega) ?_
  exact ⟨⟨p ++ [c], r, by rw [hpr]; simp, by simp, by rw [hrs]; omega, hs⟩, by omega⟩
 ·simp only [bls] at hi
  have hr : r = [] := List.eq_nil_of_length_eq_zero (by omega)
  subst hr
  rw [List.append_nil] at hpr
  subst hpr
  exact ⟨rfl, hs⟩
end
end Go.Vc
