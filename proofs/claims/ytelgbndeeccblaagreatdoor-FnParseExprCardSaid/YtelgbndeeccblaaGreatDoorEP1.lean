/- Part of the proofs about the heaps and memories: a law is joined in the text whose name ends in W and the law. -/
import Derived.Test.YtelgbndeeccblaaGreatDoorETX
import Derived.Test.YtelgbndeeccblaaGreatDoorEB1
import Derived.Test.YtelgbndeeccblaaGreatDoorEV3
namespace Go.Vc
open Go Go.Proofs Go.RowKit
set_option linter.all false
/-- a function: its signature and its body -/
structure FunD where
 params : List Int
 result : Int
 body : ExprD
instance : Inhabited FunD := ⟨⟨[], 0, default⟩⟩
noncomputable instance : DecidableEq FunD := fun a b => Classical.propDecidable _
instance : Dat FunD where
 sz := 5
 cells B w cs c := ∃ f k : Sl, cs = [f.val, intV c.result, intV c.body.op, intV c.body.num, k.val] ∧ InI c.result ∧ InI c.body.op ∧ InI c.body.num ∧ ReadB B w f c.params ∧ ReadB B w k c.body.kids
 mono := fun hs ⟨f, k, h0, i, j, l, r, q⟩ => ⟨f, k, h0, i, j, l, r.mono hs, q.mono hs⟩
 len := fun ⟨f, k, h0, _⟩ => by rw [h0]; rfl
 one := fun ⟨f, k, h0, _⟩ v hv => by
  rw [h0] at hv; simp only [List.mem_cons, List.not_mem_nil, or_false] at hv
  rcases hv with rfl | rfl | rfl | rfl | rfl <;> rfl
def sgE (f : FunD) : SigD := ⟨f.params, [], f.result⟩
theorem Src.ofFunD {u w : World} {x : Sl} {l : List FunD} {i : Int} (hx : Src u w x l) (h0 : 0 ≤ i) (h1 : i < l.length) : ∃ f k : Sl, w.cell? ((elA x i 5).add 0) = some f.val ∧ w.cell? ((elA x i 5).add 1) = some (.int .i64 (nth l i).result) ∧ w.cell? ((elA x i 5).add 2) = some (.int .i64 (nth l i).body.op) ∧ w.cell? ((elA x i 5).add 3) = some (.int .i64 (nth l i).body.num) ∧ w.cell? ((elA x i 5).add 4) = some k.val ∧
  InI (nth l i).result ∧ InI (nth l i).body.op ∧ InI (nth l i).body.num ∧ Read u f (nth l i).params ∧ Read u k (nth l i).body.kids := by
 obtain ⟨r, ⟨f, k, rfl, i1, i2, i3, r1, r2⟩, h5⟩ := hx.row h0 h1
 exact ⟨f, k, h5 0 _ rfl, h5 1 _ rfl, h5 2 _ rfl, h5 3 _ rfl, h5 4 _ rfl, i1, i2, i3, r1, r2⟩
section
variable {u v w : World} {x y z s px : Sl} {ds : List DeclD} {fs : List FunD} {n i : Int}
end
end Go.Vc

namespace Go.Vc
open Go Go.Proofs Go.RowKit
set_option linter.all false
/-- what all kids give, if each of them gives something -/
def allT : List (Option Int) → Option (List Int)
 | [] => some []
 | o :: r => match o, allT r with
  | some t, some T => some (t :: T)
  | _, _ => none
def kf (ks : List (List Int → Option Int)) (i : Nat) : List Int → Option Int := ks.getD i (fun _ => none)
def armT (vars : List Int) (fs : List (List Int)) (ks : List (List Int → Option Int)) : List (Option Int) := List.zipWith (fun f k => k (vars ++ f)) fs ks
open Classical in
/-- the type of a node, from what its kids give for lists of variables -/
noncomputable def ndT (ds : List DeclD) (ss : List SigD) (op num : Int) (ks : List (List Int → Option Int)) (vars : List Int) : Option Int :=
 if op = 12 then (if ks.length = 0 ∧ 0 ≤ num ∧ num < vars.length then some (nth vars num) else none)
 else if op = 13 then (if ks.length = 2 ∧ num = 0 then (kf ks 0 vars).bind fun t => kf ks 1 (vars ++ [t]) else none)
 else if op = 7 then (if ks.length = 3 ∧ num = 0 ∧ kf ks 0 vars = some 0 then same1 (armT vars [[], []] (ks.drop 1)) else none)
 else if op = 8 then (if 0 < (armF ds num).length ∧ ks.length = 1 + (armF ds num).length ∧ kf ks 0 vars = some num then same1 (armT vars (armF ds num) (ks.drop 1)) else none)
 else (allT (ks.map fun k => k vars)).bind (simB ds ss op num)
mutual
/-- the type of an expression -/
noncomputable def tyX (ds : List DeclD) (ss : List SigD) : ExprD → List Int → Option Int
 | ⟨op, num, kids⟩ => ndT ds ss op num (tyK ds ss kids)
noncomputable def tyK (ds : List DeclD) (ss : List SigD) : List ExprD → List (List Int → Option Int)
 | [] => []
 | k :: r => tyX ds ss k :: tyK ds ss r
end
section
variable {ds : List DeclD} {ss : List SigD} {vars : List Int} {e : ExprD} {n : Int} {kids : List ExprD} {L : List (Option Int)} {T W : List Int} {t : Int}
end
end Go.Vc
