/- Part of the proofs about the heaps and memories: a law is joined in the text whose name ends in W and the law. -/
import Derived.Test.YtelgbndeeccblaaDoorETX
import Derived.Test.YtelgbndeeccblaaDoorEB3
namespace Go.Vc
open Go Go.Proofs Go.RowKit
set_option linter.all false
/-- a function: its signature and its body -/
structure FunD where
  params : List Int
  result : Int
  body : ExprD
instance : Inhabited FunD := ⟨⟨[], 0, default⟩⟩
noncomputable instance : DecidableEq FunD := fun a b => Classical.propDecidable _
instance : Dat FunD where
  sz := 5
  cells B w cs c := ∃ f k : Sl, cs = [f.val, intV c.result, intV c.body.op, intV c.body.num, k.val] ∧ InI c.result ∧ InI c.body.op ∧ InI c.body.num ∧ ReadB B w f c.params ∧ ReadB B w k c.body.kids
  mono := fun hs ⟨f, k, h0, i, j, l, r, q⟩ => ⟨f, k, h0, i, j, l, r.mono hs, q.mono hs⟩
  len := fun ⟨f, k, h0, _⟩ => by rw [h0]; rfl
  one := fun ⟨f, k, h0, _⟩ v hv => by
    rw [h0] at hv; simp only [List.mem_cons, List.not_mem_nil, or_false] at hv
    rcases hv with rfl | rfl | rfl | rfl | rfl <;> rfl
theorem Src.ofFunD {u w : World} {x : Sl} {l : List FunD} {i : Int} (hx : Src u w x l) (h0 : 0 ≤ i) (h1 : i < l.length) : ∃ f k : Sl, w.cell? ((elA x i 5).add 0) = some f.val ∧ w.cell? ((elA x i 5).add 1) = some (.int .i64 (nth l i).result) ∧ w.cell? ((elA x i 5).add 2) = some (.int .i64 (nth l i).body.op) ∧ w.cell? ((elA x i 5).add 3) = some (.int .i64 (nth l i).body.num) ∧ w.cell? ((elA x i 5).add 4) = some k.val ∧
    InI (nth l i).result ∧ InI (nth l i).body.op ∧ InI (nth l i).body.num ∧ Read u f (nth l i).params ∧ Read u k (nth l i).body.kids := by
  obtain ⟨r, ⟨f, k, rfl, i1, i2, i3, r1, r2⟩, h5⟩ := hx.row h0 h1
  exact ⟨f, k, h5 0 _ rfl, h5 1 _ rfl, h5 2 _ rfl, h5 3 _ rfl, h5 4 _ rfl, i1, i2, i3, r1, r2⟩
section
variable {u v w : World} {x y z s px : Sl} {ds : List DeclD} {fs : List FunD} {n i : Int}
end
end Go.Vc
