/- Part of the proofs about the heaps and memories: a law is joined in the text whose name ends in W and the law. -/
import Derived.Test.YtelgbndeeccblaaDoorEE4
import Derived.Test.YtelgbndeeccblaaDoorEG
import Derived.Test.YtelgbndeeccblaaDoorEH1
namespace Go.Vc
open Go Go.Proofs Go.RowKit
set_option linter.all false

instance : SlT Tryd.prog 86 1 8 [intV 0] := .of (by kernel_rfl) rfl (by decide)

/-- the reader of random numbers: its position is at most m -/
def Rdr (u : World) (a : Addr) (m : Int) (I : Items) : Prop :=
 ∃ (b : Sl) (bs : List UInt8) (p : Int), Cel a [b.val, .int .i64 p] I ∧ Read u b bs ∧ bs.length ≤ 2000 ∧ 0 ≤ p ∧ p ≤ m
theorem Rdr.mono {u u' : World} {a : Addr} {m : Int} {I : Items} (h : Rdr u a m I) (hs : Sub u u') : Rdr u' a m I :=
 let ⟨b, bs, p, h1, h2, h3⟩ := h; ⟨b, bs, p, h1, h2.mono hs, h3⟩
theorem Rdr.le {u : World} {a : Addr} {m m' : Int} {I : Items} (h : Rdr u a m I) (hm : m ≤ m') : Rdr u a m' I :=
 let ⟨b, bs, p, h1, h2, h3, h4, h5⟩ := h; ⟨b, bs, p, h1, h2, h3, h4, by omega⟩

/-! ### lists of numbers -/
section
variable {u v w : World} {x y : Sl} {l m : List Int} {n : Int} {a : Addr} {I L R : Items} {F : Items → Items}

theorem c_inRange {a b : Int} : Fn Tryd.prog 34 #[.int .i64 n, .int .i64 a, .int .i64 b] v (.bool (decide (a ≤ n) && decide (n ≤ b))) := by
 refine of34 _ _ _ _ _ ?_
 unfold vc34
 exact ⟨rfl, .refl v⟩
end
end Go.Vc

namespace Go.Vc
open Go Go.Proofs Go.RowKit
set_option linter.all false

section
variable {u v w : World} {x y : Sl} {l m : List Int} {h : List CellD} {n k : Int} {a : Addr} {I J L R : Items} {F : Items → Items}

end
end Go.Vc

namespace Go.Vc
open Go Go.Proofs Go.RowKit
set_option linter.all false

section
variable {u v w : World} {x y : Sl} {l m : List Int} {h : List CellD} {n k : Int} {a : Addr} {I J L R : Items} {F : Items → Items}

/-! ### the reference's -/
end
end Go.Vc

namespace Go.Vc
open Go Go.Proofs Go.RowKit
set_option linter.all false
section
variable {u v w : World} {x y : Sl} {l m : List Int} {h : List CellD} {n k : Int} {a : Addr} {I J L R : Items} {F : Items → Items}

end
end Go.Vc

namespace Go.Vc
open Go Go.Proofs Go.RowKit
set_option linter.all false
section
variable {u v w : World} {x y : Sl} {l m : List Int} {h : List CellD} {n k : Int} {a : Addr} {I J L R : Items} {F : Items → Items}

end
end Go.Vc

namespace Go.Vc
open Go Go.Proofs Go.RowKit
set_option linter.all false

instance : DatO CellD where
 own cs c K := ∃ f : Sl, cs = [intV c.count, intV c.tag, f.val] ∧ InI c.count ∧ InI c.tag ∧ ∀ u, Own u f c.fields K
 read := fun ⟨f, h1, h2, h3, h4⟩ hA => ⟨f, h1, h2, h3, let ⟨rows, k1, k2, k3⟩ := h4 _; ⟨rows, k1.rd hA, k2, k3⟩⟩

section
variable {u v w : World} {x y xf : Sl} {l m fs : List Int} {h : List CellD} {n k : Int} {a : Addr} {I J L R : Items} {F : Items → Items}

end
end Go.Vc

namespace Go.Vc
open Go Go.Proofs Go.RowKit
set_option linter.all false

theorem mem_set_of {α : Type} {l : List α} {i : Nat} {a b : α} (h : b ∈ l.set i a) : b ∈ l ∨ b = a := List.mem_or_eq_of_mem_set h

section
variable {u v w : World} {x y xf : Sl} {l m fs : List Int} {h : List CellD} {n k : Int} {a : Addr} {I J L R : Items} {F : Items → Items}

end
end Go.Vc

namespace Go.Vc
open Go Go.Proofs Go.RowKit
set_option linter.all false
section
variable {u v w : World} {x y xf : Sl} {l m fs : List Int} {h : List CellD} {n k : Int} {a : Addr} {I J L R : Items} {F : Items → Items}

end
end Go.Vc

namespace Go.Vc
open Go Go.Proofs Go.RowKit
set_option linter.all false
def GH (h : List CellD) (len cnt : Int) : Prop := h.length ≤ len ∧ ∀ c ∈ h, c.fields.length ≤ 3 ∧ c.count ≤ cnt
theorem GH.le {h : List CellD} {a b a' b' : Int} (hg : GH h a b) (h1 : a ≤ a') (h2 : b ≤ b') : GH h a' b' := ⟨by have := hg.1; omega, fun c hc => by have := hg.2 c hc; omega⟩
theorem zero_in : InI 0 := ⟨by omega, by omega⟩
section
variable {u v w : World} {x y xf : Sl} {l fs : List Int} {h : List CellD} {m n k : Int} {a : Addr} {I J L R : Items} {F : Items → Items}

end
end Go.Vc
