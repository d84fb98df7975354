/- Part of the proofs about the heaps and memories: a law is joined in the text whose name ends in W and the law. -/
import Derived.Test.YtojmcdmbkfigaaaGreatEK1
import Derived.Test.YtojmcdmbkfigaaaGreatEH1
import Derived.Test.YtojmcdmbkfigaaaGreatEH2
namespace Go.Vc
open Go Go.Proofs Go.RowKit
set_option linter.all false
/-- a heap that is drawn -/
def GA (h : List CellD) : Prop := h.length ≤ 100 ∧ ∀ c ∈ h, c.fields.length ≤ 100
section
variable {u v w : World} {x y xf : Sl} {l fs : List Int} {h : List CellD} {m n k : Int} {a : Addr} {I J L R : Items} {F : Items → Items}

theorem GA.set {h : List CellD} (hg : GA h) {i : Nat} {c : CellD} (hc : c.fields.length ≤ 100) : GA (h.set i c) :=
  ⟨by simpa using hg.1, fun b hb => by rcases mem_set_of hb with hb | hb; exact hg.2 b hb; rw [hb]; exact hc⟩

end

theorem Bytes.read {W : World} {x : Sl} {bs : List UInt8} (h : Bytes W x bs) (hl : x.n ≤ 1099511627776) : Read W x bs := by
  have hn : x.n = bs.length := by have := Rows.len h; simpa using this
  refine ⟨_, h, ⟨by simp, fun i r a hr ha => ?_⟩, by show bs.length ≤ 1099511627776; omega⟩
  simp only [List.getElem?_map] at hr
  rw [ha] at hr
  simp at hr
  exact hr.symm

end Go.Vc

namespace Go.Vc
open Go Go.Proofs Go.RowKit
set_option linter.all false
section
variable {u v w : World} {x y xf : Sl} {l ws fs : List Int} {h : List CellD} {m n k : Int} {a : Addr} {I J L R : Items} {F : Items → Items}

end

end Go.Vc

namespace Go.Vc
open Go Go.Proofs Go.RowKit
set_option linter.all false
section
variable {u v w : World} {x y xf : Sl} {l ws fs pend : List Int} {h : List CellD} {z : LazyD} {m n k f : Int} {a : Addr} {I J L R R1 : Items} {F F1 : Items → Items}

end
end Go.Vc

namespace Go.Vc
open Go Go.Proofs Go.RowKit
set_option linter.all false
section
variable {u v w : World} {x y xf : Sl} {l ws fs pend : List Int} {h : List CellD} {z : LazyD} {m n k f : Int} {a : Addr} {I J L R R1 : Items} {F F1 : Items → Items}

end
end Go.Vc

namespace Go.Vc
open Go Go.Proofs Go.RowKit
set_option linter.all false
section
variable {u v w : World} {x y xf : Sl} {l ws fs pend : List Int} {h : List CellD} {z : LazyD} {m n k f : Int} {a : Addr} {I J L R R1 : Items} {F F1 : Items → Items}

end
end Go.Vc

namespace Go.Vc
open Go Go.Proofs Go.RowKit
set_option linter.all false
section
variable {u v w : World} {x y xf : Sl} {l ws fs pend : List Int} {h : List CellD} {z : LazyD} {m n k f : Int} {a : Addr} {I J L R R1 : Items} {F F1 : Items → Items}

theorem set_same {α : Type} [Inhabited α] {l : List α} {i : Int} (h0 : 0 ≤ i) (h1 : i < l.length) : l.set i.toNat (nth l i) = l := by
  refine List.ext_getElem? fun j => ?_
  rw [List.getElem?_set]
  split
  · rename_i e
    subst e
    rw [if_pos (by omega), ← nth_get h0 h1]
  · rfl

end
end Go.Vc

namespace Go.Vc
open Go Go.Proofs Go.RowKit
set_option linter.all false
section
variable {u v w : World} {x y xf s t : Sl} {l ws fs pend : List Int} {h g : List CellD} {z z' : LazyD} {m n k f : Int} {a : Addr} {I J L R R1 : Items} {F F1 : Items → Items}

end

end Go.Vc

namespace Go.Vc
open Go Go.Proofs Go.RowKit
set_option linter.all false
section
variable {u v w : World} {x y xf s t : Sl} {l ws fs pend : List Int} {h g : List CellD} {z z' : LazyD} {m n k f : Int} {a : Addr} {I J K L R R1 : Items} {F F1 : Items → Items}

theorem c_index (hx : Read v x l) : ∃ k : Int, (0 ≤ k ↔ n ∈ l) ∧ Fn Tryz.prog 95 #[x.val, .int .i64 n] v (.int .i64 k) := by
  have hn := hx.n
  have hl := hx.le
  by_cases hm : n ∈ l
  · refine ⟨(l.idxOf n : Nat), ⟨fun _ => hm, fun _ => by omega⟩, ?_⟩
    refine of95 _ _ _ _ ?_
    unfold vc95
    have hlt := List.idxOf_lt_length_iff.2 hm
    have hget : nth l (l.idxOf n : Nat) = n := nth_of (by simp [hlt])
    have hfirst : ∀ i : Int, 0 ≤ i → i < l.length → nth l i = n → ((l.idxOf n : Nat) : Int) ≤ i := fun i h0 h1 he => by
      rcases Int.lt_or_le i (l.idxOf n : Nat) with hlt2 | hge
      · exfalso
        have := List.not_of_lt_findIdx (p := (· == n)) (xs := l) (i := i.toNat) (by rw [List.idxOf] at hlt2; omega)
        have e := nth_get h0 h1
        rw [he] at e
        obtain ⟨h2, h3⟩ := List.getElem?_eq_some_iff.1 e
        simp [h3] at this
      · exact hge
    refine ⟨fun i w => Sub v w ∧ 0 ≤ i ∧ i ≤ (l.idxOf n : Nat), fun i _ => (l.length - i).toNat, ⟨.refl v, by omega, by omega⟩, ?_⟩
    rintro i w ⟨hs, h0, h1⟩
    dsimp only
    refine ⟨fun hi => ?_, fun hi => ?_⟩
    · simp only [bls] at hi
      refine go_ix hx h0 (by omega) ?_
      refine ld_int (hx.mono hs) h0 (by omega) ?_
      intro a0 a1
      refine ⟨fun hq => ?_, fun hq => ?_⟩
      · simp only [bls] at hq
        have := hfirst i h0 (by omega) hq.symm
        exact ⟨by rw [show i = ((l.idxOf n : Nat) : Int) from by omega], hs⟩
      · simp only [bls] at hq
        refine go_wr (by omega) (by omega) ?_
        refine ⟨⟨hs, by omega, ?_⟩, by omega⟩
        rcases Int.lt_or_le i (l.idxOf n : Nat) with hlt2 | hge
        · omega
        · exfalso; rw [show i = ((l.idxOf n : Nat) : Int) from by omega, hget] at hq; exact hq rfl
    · simp only [bls] at hi
      omega
  · refine ⟨-1, ⟨fun h => by omega, fun h => absurd h hm⟩, ?_⟩
    refine of95 _ _ _ _ ?_
    unfold vc95
    refine ⟨fun i w => Sub v w ∧ 0 ≤ i ∧ i ≤ l.length, fun i _ => (l.length - i).toNat, ⟨.refl v, by omega, by omega⟩, ?_⟩
    rintro i w ⟨hs, h0, h1⟩
    dsimp only
    refine ⟨fun hi => ?_, fun hi => ⟨rfl, hs⟩⟩
    simp only [bls] at hi
    refine go_ix hx h0 (by omega) ?_
    refine ld_int (hx.mono hs) h0 (by omega) ?_
    intro a0 a1
    refine ⟨fun hq => ?_, fun hq => ?_⟩
    · simp only [bls] at hq
      exact absurd (hq ▸ nth_mem h0 (by omega)) hm
    · refine go_wr (by omega) (by omega) ?_
      exact ⟨⟨hs, by omega, by omega⟩, by omega⟩

theorem c_contains (hx : Read v x l) : Fn Tryz.prog 66 #[x.val, .int .i64 n] v (.bool (decide (n ∈ l))) := by
  refine of66 _ _ _ _ ?_
  unfold vc66
  obtain ⟨k, hk, hf⟩ := c_index (n := n) hx
  refine ⟨k, hf, ?_, .refl v⟩
  congr 1
  rw [Bool.eq_iff_iff]
  simp only [ge_iff_le, decide_eq_true_eq]
  exact hk

end
end Go.Vc

namespace Go.Vc
open Go Go.Proofs Go.RowKit
set_option linter.all false

section
variable {u v w : World} {x y xf s t : Sl} {l ws fs pend : List Int} {h g : List CellD} {z z' : LazyD} {m n k f : Int} {a : Addr} {I J K L R R1 : Items} {F F1 : Items → Items}

end
end Go.Vc
