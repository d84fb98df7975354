/- Part of the proofs about the heaps and memories: a law is joined in the text whose name ends in W and the law. -/
import Derived.Test.YtjdgknhdphmgiaaEK1
import Derived.Test.YtjdgknhdphmgiaaEH1
import Derived.Test.YtjdgknhdphmgiaaEH2
namespace Go.Vc
open Go Go.Proofs Go.RowKit
set_option linter.all false
/-- a heap that is drawn -/
def GA (h : List CellD) : Prop := h.length ≤ 100 ∧ ∀ c ∈ h, c.fields.length ≤ 100
section
variable {u v w : World} {x y xf : Sl} {l fs : List Int} {h : List CellD} {m n k : Int} {a : Addr} {I J L R : Items} {F : Items → Items}

theorem GA.set {h : List CellD} (hg : GA h) {i : Nat} {c : CellD} (hc : c.fields.length ≤ 100) : GA (h.set i c) :=
  ⟨by simpa using hg.1, fun b hb => by rcases mem_set_of hb with hb | hb; exact hg.2 b hb; rw [hb]; exact hc⟩

end

theorem Bytes.read {W : World} {x : Sl} {bs : List UInt8} (h : Bytes W x bs) (hl : x.n ≤ 1099511627776) : Read W x bs := by
  have hn : x.n = bs.length := by have := Rows.len h; simpa using this
  refine ⟨_, h, ⟨by simp, fun i r a hr ha => ?_⟩, by show bs.length ≤ 1099511627776; omega⟩
  simp only [List.getElem?_map] at hr
  rw [ha] at hr
  simp at hr
  exact hr.symm

end Go.Vc

namespace Go.Vc
open Go Go.Proofs Go.RowKit
set_option linter.all false
section
variable {u v w : World} {x y xf : Sl} {l ws fs : List Int} {h : List CellD} {m n k : Int} {a : Addr} {I J L R : Items} {F : Items → Items}

end

end Go.Vc

namespace Go.Vc
open Go Go.Proofs Go.RowKit
set_option linter.all false
section
variable {u v w : World} {x y xf : Sl} {l ws fs pend : List Int} {h : List CellD} {z : LazyD} {m n k f : Int} {a : Addr} {I J L R R1 : Items} {F F1 : Items → Items}

end
end Go.Vc

namespace Go.Vc
open Go Go.Proofs Go.RowKit
set_option linter.all false
section
variable {u v w : World} {x y xf : Sl} {l ws fs pend : List Int} {h : List CellD} {z : LazyD} {m n k f : Int} {a : Addr} {I J L R R1 : Items} {F F1 : Items → Items}

end
end Go.Vc

namespace Go.Vc
open Go Go.Proofs Go.RowKit
set_option linter.all false
section
variable {u v w : World} {x y xf : Sl} {l ws fs pend : List Int} {h : List CellD} {z : LazyD} {m n k f : Int} {a : Addr} {I J L R R1 : Items} {F F1 : Items → Items}

end
end Go.Vc

namespace Go.Vc
open Go Go.Proofs Go.RowKit
set_option linter.all false
section
variable {u v w : World} {x y xf : Sl} {l ws fs pend : List Int} {h : List CellD} {z : LazyD} {m n k f : Int} {a : Addr} {I J L R R1 : Items} {F F1 : Items → Items}

theorem c_indexFunc {p : Int → Bool} {f : Nat} (hx : Read v x l) (hf : ∀ w, Sub v w → ∀ n ∈ l, Trip Try.prog f #[.int .i64 n, .pointer (some (a.add 0))] w fun r w' => r = .bool (p n) ∧ Sub w w') :
    Trip Try.prog 117 #[x.val, .func (.func f) #[] #[.pointer (some (a.add 0))]] v fun r w' => (∃ k : Int, r = .int .i64 k ∧ (0 ≤ k ↔ ∃ n ∈ l, p n = true)) ∧ Sub v w' := by
  refine of117 _ _ _ _ _ ?_
  unfold vc117
  have hn := hx.n
  have hl := hx.le
  refine ⟨fun i w => Sub v w ∧ 0 ≤ i ∧ i ≤ l.length ∧ ∀ n ∈ l.take i.toNat, p n = false, fun i _ => (l.length - i).toNat, ⟨.refl v, by omega, by omega, by simp⟩, ?_⟩
  rintro i w ⟨hs, h0, h1, h2⟩
  dsimp only
  refine ⟨fun hi => ?_, fun hi => ?_⟩
  · simp only [decide_eq_true_eq, decide_eq_false_iff_not, Bool.and_eq_true, Bool.and_eq_false_iff, Bool.or_eq_true, Bool.or_eq_false_iff, Bool.not_eq_true', Bool.not_eq_false', Bool.not_true, Bool.not_false, Bool.false_eq_true, Bool.true_eq_false, Int.not_lt, Int.not_le, ge_iff_le, gt_iff_lt, Bool.not_eq_eq_eq_not, Bool.true_or, Bool.or_true, Bool.false_or, Bool.or_false, Bool.true_and, Bool.and_true, false_or, or_false, true_and, and_true, Decidable.not_not] at hi
    refine go_ix hx h0 (by omega) ?_
    refine ld_int (hx.mono hs) h0 (by omega) ?_
    intro a0 a1
    have hm := nth_mem (l := l) h0 (by omega)
    refine Trip.mono' (hf w hs _ hm) ?_
    rintro _ w2 ⟨rfl, hs2⟩
    refine ⟨_, rfl, fun hq => ⟨⟨i, rfl, fun _ => ⟨_, hm, hq⟩, fun _ => h0⟩, hs.trans hs2⟩, fun hq => ?_⟩
    refine go_wr (by omega) (by omega) ?_
    refine ⟨⟨hs.trans hs2, by omega, by omega, ?_⟩, by omega⟩
    rw [take_nth h0 (by omega)]; intro n hn
    rcases List.mem_append.1 hn with hn | hn
    · exact h2 n hn
    · rw [List.mem_singleton.1 hn]; exact hq
  · simp only [decide_eq_true_eq, decide_eq_false_iff_not, Bool.and_eq_true, Bool.and_eq_false_iff, Bool.or_eq_true, Bool.or_eq_false_iff, Bool.not_eq_true', Bool.not_eq_false', Bool.not_true, Bool.not_false, Bool.false_eq_true, Bool.true_eq_false, Int.not_lt, Int.not_le, ge_iff_le, gt_iff_lt, Bool.not_eq_eq_eq_not, Bool.true_or, Bool.or_true, Bool.false_or, Bool.or_false, Bool.true_and, Bool.and_true, false_or, or_false, true_and, and_true, Decidable.not_not] at hi
    rw [take_all (by omega)] at h2
    refine ⟨⟨-1, rfl, fun h => by omega, fun ⟨n, hn, hp⟩ => by rw [h2 n hn] at hp; cases hp⟩, hs⟩

theorem c_containsFunc {p : Int → Bool} {f : Nat} (hx : Read v x l) (hf : ∀ w, Sub v w → ∀ n ∈ l, Trip Try.prog f #[.int .i64 n, .pointer (some (a.add 0))] w fun r w' => r = .bool (p n) ∧ Sub w w') :
    Trip Try.prog 90 #[x.val, .func (.func f) #[] #[.pointer (some (a.add 0))]] v fun r w' => r = .bool (l.any p) ∧ Sub v w' := by
  refine of90 _ _ _ _ _ ?_
  unfold vc90
  refine Trip.mono' (c_indexFunc hx hf) ?_
  rintro _ w1 ⟨⟨k, rfl, hk⟩, hs⟩
  refine ⟨_, rfl, ?_, hs⟩
  congr 1
  rw [Bool.eq_iff_iff]
  simp only [ge_iff_le, decide_eq_true_eq, List.any_eq_true]
  exact hk

end
end Go.Vc

namespace Go.Vc
open Go Go.Proofs Go.RowKit
set_option linter.all false
section
variable {u v w : World} {x y xf s t : Sl} {l ws fs pend : List Int} {h g : List CellD} {z z' : LazyD} {m n k f : Int} {a : Addr} {I J L R R1 : Items} {F F1 : Items → Items}

end

end Go.Vc

namespace Go.Vc
open Go Go.Proofs Go.RowKit
set_option linter.all false
section
variable {u v w : World} {x y xf s t : Sl} {l ws fs pend : List Int} {h g : List CellD} {z z' : LazyD} {m n k f : Int} {a : Addr} {I J K L R R1 : Items} {F F1 : Items → Items}

end
end Go.Vc

namespace Go.Vc
open Go Go.Proofs Go.RowKit
set_option linter.all false

section
variable {u v w : World} {x y xf s t : Sl} {l ws fs pend : List Int} {h g : List CellD} {z z' : LazyD} {m n k f : Int} {a : Addr} {I J K L R R1 : Items} {F F1 : Items → Items}

end
end Go.Vc
