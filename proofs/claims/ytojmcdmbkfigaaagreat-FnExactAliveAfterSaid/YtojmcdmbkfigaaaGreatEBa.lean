/- Part of the proofs about the heaps and memories: a law is joined in the text whose name ends in W and the law. -/
import Derived.Test.YtojmcdmbkfigaaaGreatEB8
import Derived.Test.YtojmcdmbkfigaaaGreatEB9
namespace Go.Vc
open Go Go.Proofs Go.RowKit
set_option linter.all false
theorem Src.ofArmK {u w : World} {x : Sl} {l : List ArmK} {i : Int} (hx : Src u w x l) (h0 : 0 ≤ i) (h1 : i < l.length) : ∃ f : Sl, w.cell? ((elA x i 4).add 0) = some (.int .i64 (nth l i).matched) ∧ w.cell? ((elA x i 4).add 1) = some (.int .i64 (nth l i).first) ∧ w.cell? ((elA x i 4).add 2) = some f.val ∧ w.cell? ((elA x i 4).add 3) = some (.bool false) ∧
    InI (nth l i).matched ∧ InI (nth l i).first ∧ Read u f (nth l i).fields := by
  obtain ⟨r, hr, h5⟩ := hx.row h0 h1
  obtain ⟨f, rfl, i1, i2, r1⟩ := hr
  exact ⟨f, h5 0 _ rfl, h5 1 _ rfl, h5 2 _ rfl, h5 3 _ rfl, i1, i2, r1⟩
instance : SlT Tryz.prog 62 4 48 [intV 0, intV 0, .slice none 0 0, .bool false] := .of (by kernel_rfl) rfl (by decide)
theorem armOf_last {arms : List ArmK} {v : Int} {k : Nat} (h1 : k < arms.length) (h2 : (nth arms k).matched = v) (h3 : ∀ j : Nat, k < j → j < arms.length → (nth arms j).matched ≠ v) : armOf arms v = some (nth arms k) := by
  have hk : nth arms (k : Int) = arms[k] := nth_of (by simp [h1])
  have e : arms = arms.take k ++ (arms[k] :: arms.drop (k + 1)) := by
    rw [← List.drop_eq_getElem_cons h1, List.take_append_drop]
  unfold armOf
  rw [show arms.reverse = (arms.drop (k + 1)).reverse ++ (arms[k] :: (arms.take k).reverse) from by
    conv => lhs; rw [e]
    simp]
  rw [List.find?_append]
  have hn : (arms.drop (k + 1)).reverse.find? (fun a => decide (a.matched = v)) = none := by
    rw [List.find?_eq_none]
    intro a ha
    rw [List.mem_reverse] at ha
    obtain ⟨i, hi, rfl⟩ := List.getElem_of_mem ha
    rw [List.length_drop] at hi
    have hlt : k + 1 + i < arms.length := by omega
    have := h3 (k + 1 + i) (by omega) hlt
    rw [nth_of (a := arms[k + 1 + i]) (by rw [Int.toNat_natCast]; exact List.getElem?_eq_getElem hlt)] at this
    rw [List.getElem_drop]
    simpa using this
  rw [hn, Option.none_or, List.find?_cons_of_pos]
  · rw [hk]
  · rw [← hk]; simpa using h2
theorem armOf_none {arms : List ArmK} {v : Int} (h3 : ∀ j : Nat, j < arms.length → (nth arms j).matched ≠ v) : armOf arms v = none := by
  unfold armOf
  rw [List.find?_eq_none]
  intro a ha
  rw [List.mem_reverse] at ha
  obtain ⟨i, hi, rfl⟩ := List.getElem_of_mem ha
  have := h3 i hi
  rw [nth_of (a := arms[i]) (by simp [hi])] at this
  simpa using this
theorem c_armsOf {v : World} {x : Sl} {arms : List ArmK} {n : Int} (hx : Read v x arms) : Trip Tryz.prog 141 #[x.val, .int .i64 n] v fun r w' => Sub v w' ∧ match armOf arms n with
    | none => r = .tuple #[.agg #[.int .i64 0, .int .i64 0, .slice none 0 0, .bool false], .bool false]
    | some a => ∃ f : Sl, r = .tuple #[.agg #[.int .i64 a.matched, .int .i64 a.first, f.val, .bool false], .bool true] ∧ Read v f a.fields := by
  refine ⟨fun w => callFunc_enter Tryz.func141 (by kernel_rfl) rfl _ _, fun w hs => ?_⟩
  have hn := hx.n
  have hl := hx.le
  have hch : ∀ j : Nat, ∃ f : Sl, j < arms.length → w.cell? ((elA x j 4).add 2) = some f.val ∧ Read v f (nth arms j).fields := by
    intro j
    by_cases hj : j < arms.length
    · obtain ⟨f, _, _, e2, _, _, _, r⟩ := (hx.src hs).ofArmK (i := (j : Int)) (by omega) (by omega)
      exact ⟨f, fun _ => ⟨e2, r⟩⟩
    · exact ⟨Sl.mk none 0 0, fun hh => absurd hh hj⟩
  obtain ⟨S, hS⟩ := Classical.axiomOfChoice hch
  have base : ∃ (b off : Nat), (0 < x.n → x.a = some ⟨b, off, none⟩ ∧ b < w.heap.size) := by
    by_cases h0 : 0 < x.n
    · obtain ⟨f, e0, _⟩ := (hx.src hs).ofArmK (i := 0) (by omega) (by omega)
      cases ha : x.a with
      | none =>
        have := (hx.nil_of ha)
        rw [this] at hn
        simp at hn
        omega
      | some a =>
        unfold elA at e0
        rw [ha] at e0
        obtain ⟨b, off, sp⟩ := a
        unfold World.cell? at e0
        simp [Addr.add] at e0
        split at e0
        · rename_i c e fz hh
          have hlt := (Array.getElem?_eq_some_iff.1 hh).1
          cases sp with
          | none => exact ⟨b, off, fun _ => ⟨rfl, hlt⟩⟩
          | some s => simp at e0
        · cases e0
    · exact ⟨0, 0, fun hh => absurd hh h0⟩
  obtain ⟨b, off, hba⟩ := base
  have hcel : ∀ (j k : Nat), j < x.n → (elA x j 4).add k = ⟨b, off + j * 4 + k, none⟩ := by
    intro j k hj
    unfold elA
    rw [(hba (by omega)).1]
    simp only [Option.getD_some, box_add, Int.toNat_natCast]
  have hcl : ∀ (j : Nat), j < x.n → w.cell? ⟨b, off + j * 4, none⟩ = some (.int .i64 (nth arms j).matched) ∧ w.cell? ⟨b, off + j * 4 + 1, none⟩ = some (.int .i64 (nth arms j).first) ∧ w.cell? ⟨b, off + j * 4 + 2, none⟩ = some (.slice (S j).a (S j).n (S j).c) ∧ w.cell? ⟨b, off + j * 4 + 3, none⟩ = some (.bool false) := by
    intro j hj
    obtain ⟨f, e0, e1, e2, e3, _⟩ := (hx.src hs).ofArmK (i := (j : Int)) (by omega) (by omega)
    have e2' := (hS j (by omega)).1
    rw [hcel j _ hj] at e0 e1 e2' e3
    exact ⟨e0, e1, e2', e3⟩
  have hmain := callsIn_wide.1 (of_in Fence.wide 3 trivial trivial trivial rfl (by omega) b off x.n x.c x.a (fun j => (nth arms (j : Int)).matched) (fun j => (nth arms (j : Int)).first) S (fun _ => false) n (by omega) w hba
    (fun j hj => (hcl j hj).1) (fun j hj => (hcl j hj).2.1) (fun j hj => (hcl j hj).2.2.1) (fun j hj => (hcl j hj).2.2.2))
  refine hmain.mono ?_
  rintro e w' ⟨h, hB⟩
  have hfr : Fr v w v w' := by
    refine ⟨⟨Nat.le_trans hs.size hB.size, fun k o ho hne => ?_⟩, hB.size, hB.os, hB.tape, hB.output, fun k hk hO => ⟨hO, hB.block k hk⟩⟩
    have h1 := hs.at_ k o ho hne
    rw [hB.block k (Array.getElem?_eq_some_iff.1 h1).1]
    exact h1
  rcases h with ⟨rfl, hno⟩ | ⟨k, hk, rfl, hm, hlast⟩
  · refine ⟨_, v, rfl, hfr, .refl v, ?_⟩
    rw [armOf_none fun j hj => hno j (by omega)]
  · refine ⟨_, v, rfl, hfr, .refl v, ?_⟩
    rw [armOf_last (k := k) (by omega) hm fun j h1 h2 => hlast j h1 (by omega)]
    exact ⟨S k, rfl, (hS k (by omega)).2⟩
end Go.Vc
