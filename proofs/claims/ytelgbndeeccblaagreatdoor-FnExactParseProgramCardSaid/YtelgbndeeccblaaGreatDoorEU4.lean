/- Part of the proofs about the heaps and memories: a law is joined in the text whose name ends in W and the law. -/
import Derived.Test.YtelgbndeeccblaaGreatDoorEU2
import Derived.Test.YtelgbndeeccblaaGreatDoorEU3
import Derived.Test.YtelgbndeeccblaaGreatDoorES5
namespace Go.Vc
open Go Go.Proofs Go.RowKit
set_option linter.all false
section
variable {u v w : World} {x y z t : Sl} {l m : List DeclD} {ds ds' : List DeclD} {fs fs' : List FunD} {i : Int}
theorem rooms_mul {α : Type} [Mark α] {l : List α} {N : Nat} (h : ∀ a ∈ l, Mark.room a ≤ N) : rooms l ≤ N * l.length := by
 induction l with
 | nil => simp [rooms]
 | cons a r ih =>
  have h1 := h a (by simp)
  have h2 := ih fun c hc => h c (by simp [hc])
  rw [rooms_cons, List.length_cons, Nat.mul_succ]
  omega
theorem c_markProgram {J K R : Items} (hx : OwnD x ds J) (hy : OwnD y fs K) (hS : St u w (J ++ (K ++ R))) (hb : rooms ds + rooms fs ≤ 1000000) : Trip Tryz.prog 17 #[.agg #[x.val, y.val], .int .i64 1] w fun r w' =>
  ∃ J' K' : Items, r = .int .i64 (1 + rooms ds + rooms fs) ∧ OwnD x (markL 1 ds) J' ∧ OwnD y (markL (1 + rooms ds) fs) K' ∧ St u w' (J' ++ (K' ++ R)) := by
 refine of17 _ _ _ _ _ ?_
 unfold vc17
 refine Trip.mono' (c_markDeclS (R := K ++ R) hx hS (by omega) (by omega)) ?_
 rintro _ w1 ⟨J1, rfl, hx1, hS1⟩
 refine ⟨_, rfl, ?_⟩
 refine Trip.mono' (c_markFuncS (R := J1 ++ R) hy (hS1.perm (by
  classical
  exact List.perm_iff_count.2 fun a => by simp only [List.count_append]; omega)) (by omega) (by omega)) ?_
 rintro _ w2 ⟨K1, rfl, hy1, hS2⟩
 exact ⟨_, rfl, J1, K1, rfl, hx1, hy1, hS2.perm (by
  classical
  exact List.perm_iff_count.2 fun a => by simp only [List.count_append]; omega)⟩
theorem c_heldProgram (hx : Read v x (markL 1 ds)) (hy : Read v y (markL (1 + rooms ds) fs)) (hb : rooms ds + rooms fs ≤ 1000000) : Fn Tryz.prog 18 #[.agg #[x.val, y.val], .int .i64 1] v (.int .i64 (1 + rooms ds + rooms fs)) := by
 refine of18 _ _ _ _ _ ?_
 unfold vc18
 refine ⟨_, c_heldDeclS hx (by omega) (by omega), fun hc => ?_, fun _ => ⟨_, c_heldFuncS hy (by omega) (by omega), fun hc => ?_, fun _ => ⟨rfl, .refl v⟩⟩⟩
 ·simp only [bls] at hc; omega
 ·simp only [bls] at hc; omega
theorem l_ExactParseProgram {s : List UInt8} (hT : Tab3 v) : Trip Tryz.prog 4 #[.string (str s)] v fun r v' => r = .bool true ∧ Sub v v' := by
 refine of4 _ _ _ ?_
 unfold vc4
 have hz := str_size s
 refine ⟨fun hc => ⟨rfl, .refl v⟩, fun hc => ?_⟩
 simp only [bls] at hc
 refine (c_ParseProgramS (v := v) (l := s) (by omega)).mono' ?_
 rintro _ w1 ⟨ds1, fs1, x1, y1, ok1, J1, K1, G1, rfl, hA1, hB1, hS1, hP1⟩
 refine ⟨x1, y1, ok1, rfl, ?_⟩
 refine (c_ParseProgramI (v := w1) (l := s) (hT.mono hS1.sub) (by omega)).mono' ?_
 rintro _ w2 ⟨ds, fs, x2, y2, ok, J2, K2, G2, rfl, hA2, hB2, hS2, hP2⟩
 obtain ⟨e1, e2, e3⟩ := hP1.same hP2
 subst e1; subst e2; subst e3
 have hS1' : St v w1 (J1 ++ (K1 ++ G1)) := hS1.perm (by
  classical
  exact List.perm_iff_count.2 fun a => by simp only [List.count_append]; omega)
 have r1 : Read w1 x1 ds1 := hA1.read hS1'
 have r2 : Read w1 y1 fs1 := hB1.read hS1'
 refine ⟨x2, y2, ok1, rfl, _, c_eqProgram (hA2.read hS2) (hB2.read hS2) (r1.mono hS2.sub) (r2.mono hS2.sub), fun hq => ?_, fun _ => ?_⟩
 ·simp at hq
 have hroom : rooms ds1 + rooms fs1 ≤ 1000000 := by
  rcases hP2 with ⟨_, hp, _, _⟩ | ⟨_, e1, e2, _⟩
  ·have h1 : rooms ds1 ≤ 100 * ds1.length := rooms_mul fun d hd => by
    obtain ⟨_, _, h3, h4⟩ := sm_decl hp.1.1 d hd
    have h5 : rooms d.cons ≤ 3 * d.cons.length := rooms_mul fun c hc => (h4 c hc).1
    show 1 + 1 + rooms d.cons ≤ 100
    omega
   have h2 : rooms fs1 ≤ 100 * fs1.length := rooms_mul fun f hf => by
    obtain ⟨s1, _, _, s5, _⟩ := sm_fun hp f hf
    have h5 := room_nodes f.body
    rw [room_Expr] at h5
    rw [room_Func]
    omega
   have h3 := hp.1.1.1
   have h4 := hp.1.2.2.1
   rw [List.length_map] at h4
   omega
  ·rw [e1, e2]; simp [rooms]
 refine Trip.mono' (c_markProgram hA2 hB2 hS2 (by omega)) ?_
 rintro _ w3 ⟨J3, K3, rfl, hA3, hB3, hS3⟩
 have hsub3 : Sub w1 w3 := hS3.sub
 refine ⟨_, rfl, _, c_heldProgram (hA3.read hS3) (hB3.read hS3) (by omega), fun hq => ?_, fun _ => ⟨fun hq => ?_, fun _ => ?_⟩⟩
 ·simp only [bls] at hq; omega
 ·simp only [bls] at hq; exact (hq (by trivial)).elim
 refine (c_ParseProgramI (v := w3) (l := s) (hT.mono (hS1.sub.trans hsub3)) (by omega)).mono' ?_
 rintro _ w4 ⟨ds4, fs4, x4, y4, ok4, J4, K4, G4, rfl, hA4, hB4, hS4, hP4⟩
 obtain ⟨e1, e2, e3⟩ := hP1.same hP4
 subst e1; subst e2; subst e3
 refine ⟨x4, y4, ok1, rfl, _, c_eqProgram (hA4.read hS4) (hB4.read hS4) (r1.mono (hsub3.trans hS4.sub)) (r2.mono (hsub3.trans hS4.sub)), fun hq => ?_, fun _ => ?_⟩
 ·simp at hq
 refine ⟨_, c_heldProgram ((hA3.read hS3).mono hS4.sub) ((hB3.read hS3).mono hS4.sub) (by omega), fun hq => ?_, fun _ => ⟨fun hq => ?_, fun _ => ⟨rfl, hS1.sub.trans (hsub3.trans hS4.sub)⟩⟩⟩
 ·simp only [bls] at hq; omega
 ·simp only [bls] at hq; exact (hq (by trivial)).elim
end
end Go.Vc

namespace Go.Vc
open Go Go.Proofs Go.RowKit
set_option linter.all false
section
variable {u v w : World} {x y z f : Sl} {ds : List DeclD} {fs : List FunD} {d : DeclD} {I L R : Items} {F : Items → Items}
end
section
variable {u v w : World} {x y z : Sl} {bs : List UInt8}
end
end Go.Vc
