/- Part of the proofs about the heaps and memories: a law is joined in the text whose name ends in W and the law. -/
import Derived.Test.YtelgbndeeccblaaGreatDoorES2
import Derived.Test.YtelgbndeeccblaaGreatDoorEG6
namespace Go.Vc
open Go Go.Proofs Go.RowKit
set_option linter.all false
section
variable {u v w : World} {x y z s : Sl} {bs : List UInt8} {e : ExprD}
theorem l_FormatExpr (hT : Tab2 v) (hb : Bytes v x bs) : Trip Tryz.prog 5 #[x.val] v fun r v' => r = .bool true ∧ Sub v v' := by
 refine of5 _ _ _ ?_
 unfold vc5
 refine ⟨fun hc => ⟨rfl, .refl v⟩, fun hc => ?_⟩
 simp only [bls] at hc
 have hcode := hb.read (by omega)
 refine (c_DrawFormatExpr hcode).mono' ?_
 rintro _ w1 ⟨n1, n2, s, rfl, a, mm, u2, hu2, h, e, rfl, rfl, hr, i1, i2⟩
 refine ⟨_, _, s, rfl, ?_⟩
 have hrw : Read w1 s e.kids := hr.mono h.sub
 have hTw : Tab2 w1 := (hT.mono hu2).mono h.sub
 have hsub : Sub v w1 := hu2.trans h.sub
 have hF := c_FormatExpr hTw.1 hrw i2
 have hG := c_spFormatExpr hrw
 refine ⟨_, hF, _, hG, fun hc => ⟨_, hG, ?_, hsub⟩, fun hc => ?_⟩
 ·rw [seq_self]
 rw [seq_self, str_eqB _ _ (m := []) rfl] at hc
 simp only [bls] at hc
 obtain ⟨k1, k2, k3⟩ := fmtE_ne (e := e) (by simpa using hc)
 rw [k3]
 have hlen := show_len e k1
 refine (c_ParseExprI hTw (show_asc e k1) (by omega)).mono' ?_
 rintro _ w2 ⟨e', x', ok, J, G, rfl, hO, j1, j2, hS2, hPE⟩
 obtain ⟨q1, q2⟩ := hPE.ok k1 k2 rfl
 subst q1; subst q2
 refine ⟨_, _, x', _, rfl, _, fun _ => c_equalExpr e' _ _ _ _ (hO.read hS2) (hrw.mono hS2.sub), ?_, hsub.trans hS2.sub⟩
 simp
end
end Go.Vc
