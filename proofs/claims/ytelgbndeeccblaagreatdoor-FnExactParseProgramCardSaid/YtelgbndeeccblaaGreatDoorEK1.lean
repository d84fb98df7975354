/- Part of the proofs about the heaps and memories: a law is joined in the text whose name ends in W and the law. -/
import Derived.Test.YtelgbndeeccblaaGreatDoorEE4
import Derived.Test.YtelgbndeeccblaaGreatDoorEG
import Derived.Test.YtelgbndeeccblaaGreatDoorEH1
namespace Go.Vc
open Go Go.Proofs Go.RowKit
set_option linter.all false

instance : SlT Tryz.prog 68 1 8 [intV 0] := .of (by kernel_rfl) rfl (by decide)

/-- the reader of random numbers: its position is at most m -/
def Rdr (u : World) (a : Addr) (m : Int) (I : Items) : Prop :=
 ∃ (b : Sl) (bs : List UInt8) (p : Int), Cel a [b.val, .int .i64 p] I ∧ Read u b bs ∧ bs.length ≤ 2000 ∧ 0 ≤ p ∧ p ≤ m
theorem Rdr.mono {u u' : World} {a : Addr} {m : Int} {I : Items} (h : Rdr u a m I) (hs : Sub u u') : Rdr u' a m I :=
 let ⟨b, bs, p, h1, h2, h3⟩ := h; ⟨b, bs, p, h1, h2.mono hs, h3⟩
theorem Rdr.le {u : World} {a : Addr} {m m' : Int} {I : Items} (h : Rdr u a m I) (hm : m ≤ m') : Rdr u a m' I :=
 let ⟨b, bs, p, h1, h2, h3, h4, h5⟩ := h; ⟨b, bs, p, h1, h2, h3, h4, by omega⟩

/-! ### lists of numbers -/
section
variable {u v w : World} {x y : Sl} {l m : List Int} {n : Int} {a : Addr} {I L R : Items} {F : Items → Items}

theorem c_copyInts (hx : Read v x l) : Mk Tryz.prog 179 #[x.val] v fun r J => ∃ y, r = y.val ∧ Own v y l J := by
 refine of179 _ _ _ ?_
 unfold vc179
 have hS := St.refl v
 have hl := hx.le
 refine St.build (α := Int) hS (by (repeat' (first | exact VsOf.nil | apply VsOf.cons | (apply VOf.int; first | assumption | (constructor <;> first | omega | (simp only [List.length_set, List.length_append, List.length_replicate, List.length_cons, List.length_nil, List.length_take, List.length_drop, List.length_map, List.length_singleton] at *; omega))) | exact VOf.bool | exact VOf.str))) rfl (by decide) ?_
 intro x1 w1 I1 hO hS hs
 refine ⟨_, rfl, ?_⟩
 refine Own.append hO hS (hx.src hS.sub) (by simp; omega) (by decide) ?_
 intro x2 w2 I2 hO hS
 exact ⟨_, rfl, I2, by simpa using hS, _, rfl, by simpa using hO⟩

theorem c_cloneInts (hx : Read v x l) : Mk Tryz.prog 126 #[x.val] v fun r J => ∃ y, r = y.val ∧ Own v y l J := by
 refine of126 _ _ _ ?_
 unfold vc126
 have hS := St.refl v
 have hl := hx.le
 refine go_nil ⟨fun hc => ?_, fun _ => ?_⟩
 ·have := hx.nil_of (Option.isNone_iff_eq_none.1 hc)
  subst this
  exact ⟨[], hS, _, rfl, Own.nil v⟩
 refine St.build (α := Int) hS (by (repeat' (first | exact VsOf.nil | apply VsOf.cons | (apply VOf.int; first | assumption | (constructor <;> first | omega | (simp only [List.length_set, List.length_append, List.length_replicate, List.length_cons, List.length_nil, List.length_take, List.length_drop, List.length_map, List.length_singleton] at *; omega))) | exact VOf.bool | exact VOf.str))) rfl (by decide) ?_
 intro x1 w1 I1 hO hS hs
 refine ⟨_, rfl, ?_⟩
 refine Own.append hO hS (hx.src hS.sub) (by simp; omega) (by decide) ?_
 intro x2 w2 I2 hO hS
 exact ⟨_, rfl, I2, by simpa using hS, _, rfl, by simpa using hO⟩

theorem c_inRange {a b : Int} : Fn Tryz.prog 107 #[.int .i64 n, .int .i64 a, .int .i64 b] v (.bool (decide (a ≤ n) && decide (n ≤ b))) := by
 refine of107 _ _ _ _ _ ?_
 unfold vc107
 exact ⟨rfl, .refl v⟩
end
end Go.Vc

namespace Go.Vc
open Go Go.Proofs Go.RowKit
set_option linter.all false

section
variable {u v w : World} {x y : Sl} {l m : List Int} {h : List CellD} {n k : Int} {a : Addr} {I J L R : Items} {F : Items → Items}

end
end Go.Vc

namespace Go.Vc
open Go Go.Proofs Go.RowKit
set_option linter.all false

section
variable {u v w : World} {x y : Sl} {l m : List Int} {h : List CellD} {n k : Int} {a : Addr} {I J L R : Items} {F : Items → Items}

/-! ### the reference's -/
end
end Go.Vc

namespace Go.Vc
open Go Go.Proofs Go.RowKit
set_option linter.all false
section
variable {u v w : World} {x y : Sl} {l m : List Int} {h : List CellD} {n k : Int} {a : Addr} {I J L R : Items} {F : Items → Items}

end
end Go.Vc

namespace Go.Vc
open Go Go.Proofs Go.RowKit
set_option linter.all false
section
variable {u v w : World} {x y : Sl} {l m : List Int} {h : List CellD} {n k : Int} {a : Addr} {I J L R : Items} {F : Items → Items}

end
end Go.Vc

namespace Go.Vc
open Go Go.Proofs Go.RowKit
set_option linter.all false

instance : DatO CellD where
 own cs c K := ∃ f : Sl, cs = [intV c.count, intV c.tag, f.val] ∧ InI c.count ∧ InI c.tag ∧ ∀ u, Own u f c.fields K
 read := fun ⟨f, h1, h2, h3, h4⟩ hA => ⟨f, h1, h2, h3, let ⟨rows, k1, k2, k3⟩ := h4 _; ⟨rows, k1.rd hA, k2, k3⟩⟩

theorem Own.toAll {u : World} {x : Sl} {l : List Int} {I : Items} (h : Own u x l I) : ∀ u, Own u x l I := fun _ => h.ofInts

section
variable {u v w : World} {x y xf : Sl} {l m fs : List Int} {h : List CellD} {n k : Int} {a : Addr} {I J L R : Items} {F : Items → Items}

end
end Go.Vc

namespace Go.Vc
open Go Go.Proofs Go.RowKit
set_option linter.all false

theorem mem_set_of {α : Type} {l : List α} {i : Nat} {a b : α} (h : b ∈ l.set i a) : b ∈ l ∨ b = a := List.mem_or_eq_of_mem_set h

section
variable {u v w : World} {x y xf : Sl} {l m fs : List Int} {h : List CellD} {n k : Int} {a : Addr} {I J L R : Items} {F : Items → Items}

end
end Go.Vc

namespace Go.Vc
open Go Go.Proofs Go.RowKit
set_option linter.all false
section
variable {u v w : World} {x y xf : Sl} {l m fs : List Int} {h : List CellD} {n k : Int} {a : Addr} {I J L R : Items} {F : Items → Items}

end
end Go.Vc

namespace Go.Vc
open Go Go.Proofs Go.RowKit
set_option linter.all false
def GH (h : List CellD) (len cnt : Int) : Prop := h.length ≤ len ∧ ∀ c ∈ h, c.fields.length ≤ 3 ∧ c.count ≤ cnt
theorem GH.le {h : List CellD} {a b a' b' : Int} (hg : GH h a b) (h1 : a ≤ a') (h2 : b ≤ b') : GH h a' b' := ⟨by have := hg.1; omega, fun c hc => by have := hg.2 c hc; omega⟩
theorem zero_in : InI 0 := ⟨by omega, by omega⟩
section
variable {u v w : World} {x y xf : Sl} {l fs : List Int} {h : List CellD} {m n k : Int} {a : Addr} {I J L R : Items} {F : Items → Items}

end
end Go.Vc
