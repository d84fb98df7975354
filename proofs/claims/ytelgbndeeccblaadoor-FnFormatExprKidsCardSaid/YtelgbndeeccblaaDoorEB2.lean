/- Part of the proofs about the heaps and memories: a law is joined in the text whose name ends in W and the law. -/
import Derived.Test.YtelgbndeeccblaaDoorEB1
import Derived.Test.YtelgbndeeccblaaDoorEE5
namespace Go.Vc
open Go Go.Proofs Go.RowKit
set_option linter.all false
section
variable {u v w : World} {x y z ax kx tx xs : Sl} {vars args T W : List Int} {ds : List DeclD} {rs : List RoutD} {ss : List SigD} {n i t op num into : Int} {c : StepD} {b : BlockD} {kids : List BlockD} {fs : List (List Int)}
theorem c_extend (hx : Read v z vars) (hy : Read v ax args) (hb : vars.length + args.length ≤ 1099511627776) : Mk Tryd.prog 119 #[z.val, ax.val] v fun r J => ∃ y, r = y.val ∧ Own v y (vars ++ args) J := by
  refine of119 _ _ _ _ ?_
  unfold vc119
  refine Mk.use (c_copyInts hx) (.refl v) ?_
  rintro _ w1 J ⟨y, rfl, hO⟩ hS hs
  refine ⟨_, rfl, ?_⟩
  refine hO.append hS (.ofInts (hy.mono hs)) hb (by decide) ?_
  intro y2 w2 I2 hO2 hS2
  exact ⟨_, rfl, I2, by simpa using hS2, y2, rfl, hO2⟩
theorem c_consOfB (hx : Read v x ds) (hd : SmDs ds) (hn : InI n) : Mk Tryd.prog 136 #[x.val, .int .i64 n] v fun r J => ∃ z, r = z.val ∧ Own v z (consL ds n) J :=
  c_consOf hx hn (by have := hd.len; omega) (fun d h => by have := hd.cons d h; omega) fun i i0 i1 => by have := hd.fc i.toNat (by omega); omega
end
end Go.Vc

namespace Go.Vc
open Go Go.Proofs Go.RowKit
set_option linter.all false
section
variable {u v w : World} {x y z ax kx tx xs : Sl} {vars args T W : List Int} {ds : List DeclD} {rs : List RoutD} {ss : List SigD} {n i t op num into : Int} {c : StepD} {b : BlockD} {kids : List BlockD} {fs : List (List Int)}
end
end Go.Vc

namespace Go.Vc
open Go Go.Proofs Go.RowKit
set_option linter.all false
section
variable {α : Type} [Dat α] {u v w : World} {x y z ax kx tx xs s : Sl} {vars args T W l : List Int} {ds : List DeclD} {rs : List RoutD} {ss : List SigD} {n i t op num into m : Int} {c : StepD} {b : BlockD} {kids : List BlockD} {fs : List (List Int)} {L I R : Items}
end
end Go.Vc
