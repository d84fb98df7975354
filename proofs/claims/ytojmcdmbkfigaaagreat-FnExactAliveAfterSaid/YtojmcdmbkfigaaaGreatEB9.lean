/- Part of the proofs about the heaps and memories: a law is joined in the text whose name ends in W and the law. -/
import Derived.Test.YtojmcdmbkfigaaaGreatEG
import Derived.RangeFuncNested
import Derived.RangeFuncBox
import Derived.RangeFuncLeaves
import Derived.Shelf.Abstract
import Derived.WalkKit
import Derived.OwnWalkIn
import Derived.TacticsInMore
import Derived.LoopNIn
import Derived.LoopIn
import Derived.Test.YtojmcdmbkfigaaaGreatProg
namespace Go.Proofs
open Go.RowKit Go.Shelf
set_option linter.all false

attribute [local go_sem] Oper.semAt_some

def dnL (len k : Nat) : List Nat := (List.range k).map fun j => len - 1 - j
theorem dnL_succ (len k : Nat) : dnL len (k + 1) = dnL len k ++ [len - 1 - k] := by simp [dnL, List.range_succ]
theorem dnL_len (len k : Nat) : (dnL len k).length = k := by simp [dnL]

set_option maxRecDepth 100000 in
set_option maxHeartbeats 2000000 in
theorem bw1_in (F : Fence) (n : Nat) (h7 : F.fn 157) (hro : F.round = none) (hn : 1 ≤ n) (l Bs n₀ b off len cap : Nat) (ba : Option Addr) (A B C D : Nat → Value) (hreach : len * 8 ≤ 140737488351232) (hba : 0 < len → ba = some ⟨b, off, none⟩ ∧ b < n₀) (hBn : Bs < n₀) (J Jx : List Nat → World → Prop)
    (hY : ∀ (pre : List Nat) (x : Nat) (W : World), J pre W → pre.length < len → YieldAt F (n - 1) Tryz.prog l #[.int .i64 (x : Int), .agg #[A x, B x, C x, D x]] W fun e W' =>
      (e = .returned (.bool true) ∧ J (pre ++ [x]) W' ∧ Below n₀ W W') ∨ (e = .returned (.bool false) ∧ Jx (pre ++ [x]) W'))
    (W : World) (hBs : W.cell? ⟨Bs, 0, none⟩ = some (.slice ba len cap))
    (hA : ∀ j, j < len → W.cell? ⟨b, off + j * 4, none⟩ = some (A j)) (hB : ∀ j, j < len → W.cell? ⟨b, off + j * 4 + 1, none⟩ = some (B j)) (hC : ∀ j, j < len → W.cell? ⟨b, off + j * 4 + 2, none⟩ = some (C j)) (hD : ∀ j, j < len → W.cell? ⟨b, off + j * 4 + 3, none⟩ = some (D j)) (h0 : J [] W) :
    CallsIn F n Tryz.prog 157 #[.func (.yield l) #[] #[], .pointer (some ⟨Bs, 0, none⟩)] W fun e W' => (∃ v, e = .returned v) ∧
      (J (dnL len len) W' ∨ (∃ k, k ≤ len ∧ Jx (dnL len k) W')) := by
  refine callsIn_of_wp Tryz.func157 rfl h7 ?_ hro
  simp only [Tryz.ntmps157, List.size_toArray, List.length_cons, List.length_nil, Nat.reduceAdd, Nat.reduceSub, Array.replicate_succ, Array.replicate_zero, List.push_toArray, List.append_toArray, List.nil_append, List.cons_append]
  gi_wp2
  gi_loopw [3] (fun i wr => ∃ k : Nat, k ≤ len ∧ i = .int .i64 ((len : Int) - 1 - k) ∧ J (dnL len k) wr ∧ Below n₀ W wr)
    (fun i _ => (intOf i + 1).toNat)
  case atStart => exact ⟨0, Nat.zero_le _, by simp, h0, Below.refl _ _⟩
  case round =>
    obtain ⟨k, hk, rfl, hJs, hnx⟩ := hrel
    by_cases hlt : k < len
    · obtain ⟨rfl, hb⟩ := hba (by omega)
      obtain ⟨j, hji, hjl⟩ : ∃ j : Nat, (len : Int) - 1 - k = (j : Int) ∧ j < len := ⟨len - 1 - k, by omega, by omega⟩
      have hjd : dnL len k ++ [j] = dnL len (k + 1) := by rw [dnL_succ]; congr 2; omega
      rw [hji]
      have hcell : ∀ q : Nat, wr.cell? ⟨b, q, none⟩ = W.cell? ⟨b, q, none⟩ := fun q => hnx.cell (p := ⟨b, q, none⟩) hb
      have cS := (hnx.cell (p := ⟨Bs, 0, none⟩) hBn).trans hBs
      have cA := (hcell _).trans (hA j hjl)
      have cB := (hcell _).trans (hB j hjl)
      have cC := (hcell _).trans (hC j hjl)
      have cD := (hcell _).trans (hD j hjl)
      clear hcell
      obtain ⟨fn, tmps, assign, body, hy, hR⟩ := hY _ j wr hJs (by rw [dnL_len]; exact hlt)
      rw [hjd] at hR
      have hnext : (j : Int) - 1 = (len : Int) - 1 - ((k + 1 : Nat) : Int) := by omega
      gi_wp2
      refine hR.mono ?_
      rintro e W3 (⟨rfl, hJ3, hk3⟩ | ⟨rfl, hJx3⟩)
      · gi_wp2
        go_roundw
        case rel => exact ⟨k + 1, by omega, by congr 1, hJ3, hnx.trans hk3⟩
        case measure => (simp [intOf]; try omega)
      · gi_wp2
        refine bodyPost_ret (results_none rfl _ _ _) rfl ?_
        exact ⟨⟨_, rfl⟩, .inr ⟨k + 1, by omega, hJx3⟩⟩
    · obtain rfl : k = len := by omega
      gi_wp2
      go_end0
      exact ⟨⟨_, rfl⟩, .inl hJs⟩

theorem bw_stops (F : Fence) (n : Nat) (h7 : F.fn 157) (hro : F.round = none) (hn : 1 ≤ n) (Bs n₀ b off len cap : Nat) (ba : Option Addr) (A B C D : Nat → Value) (hreach : len * 8 ≤ 140737488351232) (hba : 0 < len → ba = some ⟨b, off, none⟩ ∧ b < n₀) (w : World) (hBn : Bs < n₀) (hn₀ : n₀ ≤ w.heap.size)
    (hBs : w.cell? ⟨Bs, 0, none⟩ = some (.slice ba len cap))
    (hA : ∀ j, j < len → w.cell? ⟨b, off + j * 4, none⟩ = some (A j)) (hB : ∀ j, j < len → w.cell? ⟨b, off + j * 4 + 1, none⟩ = some (B j)) (hC : ∀ j, j < len → w.cell? ⟨b, off + j * 4 + 2, none⟩ = some (C j)) (hD : ∀ j, j < len → w.cell? ⟨b, off + j * 4 + 3, none⟩ = some (D j)) :
    SeqStopsK F n Tryz.prog 157 #[.pointer (some ⟨Bs, 0, none⟩)] (fun x : Nat => #[Value.int .i64 (x : Int), .agg #[A x, B x, C x, D x]]) (Below n₀) (fun ys => ys = dnL len len) (fun pre => ∃ k, k ≤ len ∧ pre = dnL len k) len w := fun l J Jx W hW _ _ hY h0 => by
  have hc : ∀ (g q : Nat), g < n₀ → W.cell? ⟨g, q, none⟩ = w.cell? ⟨g, q, none⟩ := fun g q hg => hW.cell (p := ⟨g, q, none⟩) (show g < w.heap.size by omega)
  have hb : 0 < len → b < n₀ := fun h => (hba h).2
  refine (bw1_in F n h7 hro hn l Bs n₀ b off len cap ba A B C D hreach hba hBn J Jx hY W ((hc _ _ hBn).trans hBs) (fun j hj => (hc _ _ (hb (by omega))).trans (hA j hj)) (fun j hj => (hc _ _ (hb (by omega))).trans (hB j hj)) (fun j hj => (hc _ _ (hb (by omega))).trans (hC j hj)) (fun j hj => (hc _ _ (hb (by omega))).trans (hD j hj)) h0).mono ?_
  rintro e W' ⟨he, hj | ⟨k, hk, hj⟩⟩
  · exact ⟨he, .inl ⟨_, rfl, hj⟩⟩
  · exact ⟨he, .inr ⟨_, ⟨k, hk, rfl⟩, hj⟩⟩
set_option maxHeartbeats 1000000 in
theorem bwd_in (F : Fence) (n : Nat) (h5 : F.fn 153) (hro : F.round = none) (a : Option Addr) (len cap : Nat) (w : World) :
    CallsIn F n Tryz.prog 153 #[.slice a len cap] w fun e w' => e = .returned (.func (.func 157) #[] #[.pointer (some ⟨w.heap.size, 0, none⟩)]) ∧ w' = w.alloc (.cells #[.slice a len cap] 62) := by
  refine callsIn_of_wp Tryz.func153 rfl h5 ?_ hro
  simp only [Tryz.ntmps153, List.size_toArray, List.length_cons, List.length_nil, Nat.reduceAdd, Nat.reduceSub, Array.replicate_succ, Array.replicate_zero, List.push_toArray, List.append_toArray, List.nil_append, List.cons_append]
  gi_wp2
  go_ret
  exact ⟨rfl, rfl⟩
/-- a block of four cells -/
def Row4 (W : World) (g : Nat) (t : TypeId) (a b c d : Value) : Prop := W.heap[g]? = some (.cells #[a, b, c, d] t (0, 0))
theorem Row4.own {β : Type} (g : Nat) (t : TypeId) (a b c d : Value) : Own (fun (_ : β) W => Row4 W g t a b c d) := fun _ W W' row h hg hr => (grownBy_keeps_cells hg hr h rfl).trans h
theorem Row4.lt {W : World} {g : Nat} {t : TypeId} {a b c d : Value} (h : Row4 W g t a b c d) : g < W.heap.size := (Array.getElem?_eq_some_iff.1 h).1
theorem Row4.c0 {W : World} {g : Nat} {t : TypeId} {a b c d : Value} (h : Row4 W g t a b c d) : W.cell? ⟨g, 0, none⟩ = some a := by simp [World.cell?, show W.heap[g]? = _ from h]
theorem Row4.c1 {W : World} {g : Nat} {t : TypeId} {a b c d : Value} (h : Row4 W g t a b c d) : W.cell? ⟨g, 1, none⟩ = some b := by simp [World.cell?, show W.heap[g]? = _ from h]
theorem Row4.c2 {W : World} {g : Nat} {t : TypeId} {a b c d : Value} (h : Row4 W g t a b c d) : W.cell? ⟨g, 2, none⟩ = some c := by simp [World.cell?, show W.heap[g]? = _ from h]
theorem Row4.c3 {W : World} {g : Nat} {t : TypeId} {a b c d : Value} (h : Row4 W g t a b c d) : W.cell? ⟨g, 3, none⟩ = some d := by simp [World.cell?, show W.heap[g]? = _ from h]
theorem Row4.fz {W : World} {g : Nat} {t : TypeId} {a b c d : Value} (h : Row4 W g t a b c d) (k : Nat) : W.frozen? ⟨g, k, none⟩ = false := by simp [World.frozen?, show W.heap[g]? = _ from h]
theorem Row4.alloc {W : World} {g : Nat} {t : TypeId} {a b c d : Value} (h : Row4 W g t a b c d) (o : Obj) : Row4 (W.alloc o) g t a b c d := (Below.heap_alloc W _ g h.lt).trans h
theorem Row4.new (W : World) (t : TypeId) (a b c d : Value) : Row4 (W.alloc (.cells #[a, b, c, d] t)) W.heap.size t a b c d := World.alloc_heap_new W _
theorem Row4.set0 {W : World} {g : Nat} {t : TypeId} {a b c d : Value} (v : Value) (h : Row4 W g t a b c d) : Row4 (W.setCell ⟨g, 0, none⟩ v) g t v b c d := by
  obtain ⟨hlt, hk⟩ := Array.getElem?_eq_some_iff.1 h
  show (W.heap.modify g _)[g]? = _
  rw [Array.getElem?_eq_getElem (by rw [Array.size_modify]; exact hlt), Array.getElem_modify_self, hk]
  rfl
theorem Row4.set1 {W : World} {g : Nat} {t : TypeId} {a b c d : Value} (v : Value) (h : Row4 W g t a b c d) : Row4 (W.setCell ⟨g, 1, none⟩ v) g t a v c d := by
  obtain ⟨hlt, hk⟩ := Array.getElem?_eq_some_iff.1 h
  show (W.heap.modify g _)[g]? = _
  rw [Array.getElem?_eq_getElem (by rw [Array.size_modify]; exact hlt), Array.getElem_modify_self, hk]
  rfl
theorem Row4.set2 {W : World} {g : Nat} {t : TypeId} {a b c d : Value} (v : Value) (h : Row4 W g t a b c d) : Row4 (W.setCell ⟨g, 2, none⟩ v) g t a b v d := by
  obtain ⟨hlt, hk⟩ := Array.getElem?_eq_some_iff.1 h
  show (W.heap.modify g _)[g]? = _
  rw [Array.getElem?_eq_getElem (by rw [Array.size_modify]; exact hlt), Array.getElem_modify_self, hk]
  rfl
theorem Row4.set3 {W : World} {g : Nat} {t : TypeId} {a b c d : Value} (v : Value) (h : Row4 W g t a b c d) : Row4 (W.setCell ⟨g, 3, none⟩ v) g t a b c v := by
  obtain ⟨hlt, hk⟩ := Array.getElem?_eq_some_iff.1 h
  show (W.heap.modify g _)[g]? = _
  rw [Array.getElem?_eq_getElem (by rw [Array.size_modify]; exact hlt), Array.getElem_modify_self, hk]
  rfl
theorem Row4.other {W : World} {g k q : Nat} {t : TypeId} {a b c d : Value} (h : Row4 W g t a b c d) (hne : g ≠ k) (v : Value) : Row4 (W.setCell ⟨k, q, none⟩ v) g t a b c d := (Below.heap_setCell W ⟨k, q, none⟩ v g (fun e => hne e)).trans h
theorem boxO {W : World} {g k q : Nat} {t : TypeId} {a : Value} (h : Boxed W g t a) (hne : g ≠ k) (v : Value) : Boxed (W.setCell ⟨k, q, none⟩ v) g t a := (Below.heap_setCell W ⟨k, q, none⟩ v g (fun e => hne e)).trans h
set_option maxRecDepth 100000 in
set_option maxHeartbeats 2000000 in
theorem of_in (F : Fence) (n : Nat) (h3 : F.fn 141) (h5 : F.fn 153) (h7 : F.fn 157) (hro : F.round = none) (hn : 3 ≤ n) (b off len cap : Nat) (ba : Option Addr) (M G : Nat → Int) (S : Nat → Vc.Sl) (Q : Nat → Bool) (x : Int) (hreach : len * 8 ≤ 140737488351232) (w : World)
    (hba : 0 < len → ba = some ⟨b, off, none⟩ ∧ b < w.heap.size)
    (hA : ∀ j, j < len → w.cell? ⟨b, off + j * 4, none⟩ = some (.int .i64 (M j))) (hB : ∀ j, j < len → w.cell? ⟨b, off + j * 4 + 1, none⟩ = some (.int .i64 (G j))) (hC : ∀ j, j < len → w.cell? ⟨b, off + j * 4 + 2, none⟩ = some (.slice (S j).a (S j).n (S j).c)) (hD : ∀ j, j < len → w.cell? ⟨b, off + j * 4 + 3, none⟩ = some (.bool (Q j))) :
    CallsIn F n Tryz.prog 141 #[.slice ba len cap, .int .i64 x] w fun e W' =>
      ((e = .returned (.tuple #[.agg #[.int .i64 0, .int .i64 0, .slice none 0 0, .bool false], .bool false]) ∧ ∀ j, j < len → M j ≠ x) ∨
        (∃ k : Nat, k < len ∧ e = .returned (.tuple #[.agg #[.int .i64 (M k), .int .i64 (G k), .slice (S k).a (S k).n (S k).c, .bool (Q k)], .bool true]) ∧ M k = x ∧ ∀ j, k < j → j < len → M j ≠ x)) ∧ Below w.heap.size w W' := by
  have h1 : 1 ≤ n := by omega
  refine callsIn_of_wp_marks Tryz.func141 rfl h3 ?_ hro
  simp only [Tryz.ntmps141, List.size_toArray, List.length_cons, List.length_nil, Nat.reduceAdd, Nat.reduceSub, Array.replicate_succ, Array.replicate_zero, List.push_toArray, List.append_toArray, List.nil_append, List.cons_append]
  gi_wp2_with (gi_at_call 153; refine (bwd_in F (n - 1) h5 hro _ _ _ _).mono ?_; rintro e w' ⟨rfl, rfl⟩)
  have bX := (((Boxed.new w 3 (.int .i64 x)).alloc (.cells #[Value.int IntKind.i64 0, Value.int IntKind.i64 0, Value.slice none 0 0, Value.bool false] 108)).alloc (.cells #[.bool false] 4)).alloc (.cells #[.slice ba len cap] 62)
  have bR := ((Row4.new (w.alloc (.cells #[.int .i64 x] 3)) 108 (Value.int IntKind.i64 0) (Value.int IntKind.i64 0) (Value.slice none 0 0) (Value.bool false)).alloc (.cells #[.bool false] 4)).alloc (.cells #[.slice ba len cap] 62)
  have bQ := (Boxed.new ((w.alloc (.cells #[.int .i64 x] 3)).alloc (.cells #[Value.int IntKind.i64 0, Value.int IntKind.i64 0, Value.slice none 0 0, Value.bool false] 108)) 4 (.bool false)).alloc (.cells #[.slice ba len cap] 62)
  have bS := Boxed.new (((w.alloc (.cells #[.int .i64 x] 3)).alloc (.cells #[Value.int IntKind.i64 0, Value.int IntKind.i64 0, Value.slice none 0 0, Value.bool false] 108)).alloc (.cells #[.bool false] 4)) 62 (.slice ba len cap)
  simp only [World.size_alloc] at bR bQ bS
  have hB0 : Below w.heap.size w ((((w.alloc (.cells #[.int .i64 x] 3)).alloc (.cells #[Value.int IntKind.i64 0, Value.int IntKind.i64 0, Value.slice none 0 0, Value.bool false] 108)).alloc (.cells #[.bool false] 4)).alloc (.cells #[.slice ba len cap] 62)) :=
    ((((Below.refl _ w).alloc (Nat.le_refl _) _).alloc (by simp) _).alloc (by simp; omega) _).alloc (by simp; omega) _
  have hsz : ((((w.alloc (.cells #[.int .i64 x] 3)).alloc (.cells #[Value.int IntKind.i64 0, Value.int IntKind.i64 0, Value.slice none 0 0, Value.bool false] 108)).alloc (.cells #[.bool false] 4)).alloc (.cells #[.slice ba len cap] 62)).heap.size = w.heap.size + 4 := by simp
  obtain ⟨W0, hW0⟩ : ∃ W0, ((((w.alloc (.cells #[.int .i64 x] 3)).alloc (.cells #[Value.int IntKind.i64 0, Value.int IntKind.i64 0, Value.slice none 0 0, Value.bool false] 108)).alloc (.cells #[.bool false] 4)).alloc (.cells #[.slice ba len cap] 62)) = W0 := ⟨_, rfl⟩
  rw [hW0] at bX bR bQ bS hB0 hsz ⊢
  clear hW0
  have hcc : ∀ (q : Nat), 0 < len → W0.cell? ⟨b, q, none⟩ = w.cell? ⟨b, q, none⟩ := fun q hg => hB0.cell (p := ⟨b, q, none⟩) (hba hg).2
  refine wpIn_rangeFunc_ownH hro h1 (gf := 157) (lb := #[.pointer (some ⟨w.heap.size + 1 + 1 + 1, 0, none⟩)]) rfl h7 (enters_of Tryz.func157 (by kernel_rfl) rfl)
    (bw_stops F (n - 1) h7 hro (by omega) (w.heap.size + 1 + 1 + 1) (w.heap.size + 4) b off len cap ba (fun j => .int .i64 (M j)) (fun j => .int .i64 (G j)) (fun j => .slice (S j).a (S j).n (S j).c) (fun j => .bool (Q j)) hreach (fun h => ⟨(hba h).1, by have := (hba h).2; omega⟩) W0 (by omega) (by omega) bS.cell
      (fun j hj => (hcc _ (by omega)).trans (hA j hj)) (fun j hj => (hcc _ (by omega)).trans (hB j hj)) (fun j hj => (hcc _ (by omega)).trans (hC j hj)) (fun j hj => (hcc _ (by omega)).trans (hD j hj)))
    belowK_t (belowK_b (by omega)) (Below.refl _ _) (fun _ => rfl)
    (fun pre W => (((((∀ j ∈ pre, M j ≠ x) ∧ Boxed W w.heap.size 3 (.int .i64 x)) ∧ Row4 W (w.heap.size + 1) 108 (Value.int IntKind.i64 0) (Value.int IntKind.i64 0) (Value.slice none 0 0) (Value.bool false)) ∧ Boxed W (w.heap.size + 1 + 1) 4 (.bool false)) ∧ Boxed W (w.heap.size + 1 + 1 + 1) 62 (.slice ba len cap)) ∧ Below w.heap.size w W)
    (fun c pre W => (c = .ret ∧ ∃ ini last, pre = ini ++ [last] ∧ (∀ j ∈ ini, M j ≠ x) ∧ M last = x ∧ Row4 W (w.heap.size + 1) 108 (.int .i64 (M last)) (.int .i64 (G last)) (.slice (S last).a (S last).n (S last).c) (.bool (Q last)) ∧ Boxed W (w.heap.size + 1 + 1) 4 (.bool true)) ∧ Below w.heap.size w W)
    (OwnFrom.and (OwnFrom.and (OwnFrom.and (OwnFrom.and (OwnFrom.and (ownFrom_pure _ _) (Own.from (boxed_own _ _ _) _)) (Own.from (Row4.own _ _ _ _ _ _) _)) (Own.from (boxed_own _ _ _) _)) (Own.from (boxed_own _ _ _) _)) (ownFrom_below (Nat.le_refl _) (by omega)))
    (fun c => OwnFrom.and (fun pre X Y row hs hg hr => by
      obtain ⟨hc, ini, last, e1, e2, e3, e4, e5⟩ := hs
      exact ⟨hc, ini, last, e1, e2, e3, Row4.own _ _ _ _ _ _ () X Y row e4 hg (fun r e => (hr r e).2), boxed_own _ 4 (fun (_ : Unit) => Value.bool true) () X Y row e5 hg (fun r e => (hr r e).2)⟩) (ownFrom_below (Nat.le_refl _) (by omega)))
    ⟨⟨⟨⟨⟨by simp, bX⟩, bR⟩, bQ⟩, bS⟩, hB0⟩
    (fun j a' W => ∃ Bx, w.heap.size + 1 + 1 + 1 < Bx ∧ Row4 W Bx 108 (.int .i64 (M j)) (.int .i64 (G j)) (.slice (S j).a (S j).n (S j).c) (.bool (Q j)) ∧ a' = { tmps := #[.slice ba len cap, .int .i64 x, undef, .pointer (some ⟨w.heap.size, 0, none⟩), .pointer (some ⟨w.heap.size + 1, 0, none⟩), .pointer (some ⟨w.heap.size + 1 + 1, 0, none⟩), undef, .pointer (some ⟨Bx, 0, none⟩), .slice ba len cap, .func (.func 157) #[] #[.pointer (some ⟨w.heap.size + 1 + 1 + 1, 0, none⟩)], .int .i64 (j : Int), .agg #[.int .i64 (M j), .int .i64 (G j), .slice (S j).a (S j).n (S j).c, .bool (Q j)], undef, undef, undef, undef, undef, undef], defers := [] })
    (fun j a' _ X Y row hs hg hr => by obtain ⟨Bx, e1, e2, e3⟩ := hs; exact ⟨Bx, e1, Row4.own _ _ _ _ _ _ () X Y row e2 hg (fun r e => (hr r e).2), e3⟩)
    ?assign ?body ?done ?stop
  case assign =>
    rintro l pre j W K ⟨⟨⟨⟨⟨hp, bX1⟩, bR1⟩, bQ1⟩, bS1⟩, hB1⟩ hK
    gi_wp2
    exact hK _ _ ((KeepsOthers.alloc _ _).from _) ((Below.refl _ W).alloc (by have := bS1.lt; omega) _) ⟨⟨⟨⟨⟨hp, bX1.alloc _⟩, bR1.alloc _⟩, bQ1.alloc _⟩, bS1.alloc _⟩, hB1.alloc hB1.size _⟩ ⟨W.heap.size, bS1.lt, Row4.new W 108 _ _ _ _, rfl⟩
  case body =>
    rintro l pre j a' W hl ⟨r, hr⟩ ⟨⟨⟨⟨⟨hp, bX1⟩, bR1⟩, bQ1⟩, bS1⟩, hB1⟩ ⟨Bx, hBx, bA, rfl⟩ hlt
    have cX := bX1.cell
    have a0 := bA.c0
    have a1 := bA.c1
    have a2 := bA.c2
    have a3 := bA.c3
    have r0 := bR1.c0
    have r1 := bR1.c1
    have r2 := bR1.c2
    have r3 := bR1.c3
    have f0 := bR1.fz 0
    have f1 := bR1.fz 1
    have f2 := bR1.fz 2
    have f3 := bR1.fz 3
    have cQ := bQ1.cell
    have fQ := bQ1.frozen
    gi_wp2
    · rename_i hxy
      obtain rfl : M j = x := eq_of_beq hxy
      have hR := ((((bR1.set0 (.int .i64 (M j))).set1 (.int .i64 (G j))).set2 (.slice (S j).a (S j).n (S j).c)).set3 (.bool (Q j))).other (k := w.heap.size + 1 + 1) (q := 0) (by omega) (.bool true)
      have hQ := (boxO (boxO (boxO (boxO bQ1 (k := w.heap.size + 1) (q := 0) (by omega) (.int .i64 (M j))) (k := w.heap.size + 1) (q := 1) (by omega) (.int .i64 (G j))) (k := w.heap.size + 1) (q := 2) (by omega) (.slice (S j).a (S j).n (S j).c)) (k := w.heap.size + 1) (q := 3) (by omega) (.bool (Q j))).set (.bool true)
      refine ⟨(((((KeepsOthers.setCell _ _ _).trans (KeepsOthers.setCell _ _ _)).trans (KeepsOthers.setCell _ _ _)).trans (KeepsOthers.setCell _ _ _)).trans (KeepsOthers.setCell _ _ _)).from _, ⟨rfl, pre, j, rfl, hp, rfl, hR, hQ⟩, ?_⟩
      exact ((((hB1.setCell (p := ⟨w.heap.size + 1, 0, none⟩) (by simp) _).setCell (p := ⟨w.heap.size + 1, 1, none⟩) (by simp) _).setCell (p := ⟨w.heap.size + 1, 2, none⟩) (by simp) _).setCell (p := ⟨w.heap.size + 1, 3, none⟩) (by simp) _).setCell (p := ⟨w.heap.size + 1 + 1, 0, none⟩) (by simp; omega) _
    · rename_i hxy
      exact ⟨KeepsFrom.refl _ _, Below.refl _ _, ⟨⟨⟨⟨fun j' hj' => (List.mem_append.1 hj').elim (hp j') (fun e => by simp at e; subst e; simpa using hxy), bX1⟩, bR1⟩, bQ1⟩, bS1⟩, hB1⟩
  case done =>
    rintro D ys W hD rfl ⟨⟨⟨⟨⟨hp, bX1⟩, bR1⟩, bQ1⟩, bS1⟩, hB1⟩ hK
    have r0 := bR1.c0
    have r1 := bR1.c1
    have r2 := bR1.c2
    have r3 := bR1.c3
    have f0 := bR1.fz 0
    have f1 := bR1.fz 1
    have f2 := bR1.fz 2
    have f3 := bR1.fz 3
    have cQ := bQ1.cell
    have fQ := bQ1.frozen
    gi_wp2
    have hR := ((((bR1.set0 (.int .i64 0)).set1 (.int .i64 0)).set2 (.slice none 0 0)).set3 (.bool false)).other (k := w.heap.size + 1 + 1) (q := 0) (by omega) (.bool false)
    have hQ := (boxO (boxO (boxO (boxO bQ1 (k := w.heap.size + 1) (q := 0) (by omega) (.int .i64 0)) (k := w.heap.size + 1) (q := 1) (by omega) (.int .i64 0)) (k := w.heap.size + 1) (q := 2) (by omega) (.slice none 0 0)) (k := w.heap.size + 1) (q := 3) (by omega) (.bool false)).set (.bool false)
    have hB2 := ((((hB1.setCell (p := ⟨w.heap.size + 1, 0, none⟩) (by simp) (.int .i64 0)).setCell (p := ⟨w.heap.size + 1, 1, none⟩) (by simp) (.int .i64 0)).setCell (p := ⟨w.heap.size + 1, 2, none⟩) (by simp) (.slice none 0 0)).setCell (p := ⟨w.heap.size + 1, 3, none⟩) (by simp) (.bool false)).setCell (p := ⟨w.heap.size + 1 + 1, 0, none⟩) (by simp; omega) (.bool false)
    have hK' := (((((KeepsOthers.setCell W ⟨w.heap.size + 1, 0, none⟩ (.int .i64 0)).trans (KeepsOthers.setCell _ ⟨w.heap.size + 1, 1, none⟩ (.int .i64 0))).trans (KeepsOthers.setCell _ ⟨w.heap.size + 1, 2, none⟩ (.slice none 0 0))).trans (KeepsOthers.setCell _ ⟨w.heap.size + 1, 3, none⟩ (.bool false))).trans (KeepsOthers.setCell _ ⟨w.heap.size + 1 + 1, 0, none⟩ (.bool false))).same D _ hK rfl
    revert hR hQ hB2 hK'
    generalize (((((W.setCell { block := w.heap.size + 1, off := 0 } (Value.int IntKind.i64 0)).setCell { block := w.heap.size + 1, off := 1 } (Value.int IntKind.i64 0)).setCell { block := w.heap.size + 1, off := 2 } (Value.slice none 0 0)).setCell { block := w.heap.size + 1, off := 3 } (Value.bool false)).setCell { block := w.heap.size + 1 + 1, off := 0 } (Value.bool false)) = W2
    intro hR hQ hB2 hK'
    refine ⟨by simp, .inl ⟨_, _, rfl, run_takeDeferred hK', ?_⟩⟩
    have hr : ∀ r, some D = some r → ∃ o : Obj, W2.heap[r]? = some o ∧ o.isCells = false := fun r e => by cases e; exact ⟨_, hK', rfl⟩
    have hR3 := Row4.own _ _ _ _ _ _ () W2 _ (some D) hR (grownBy_putObj' W2 D (.deferred none)) hr
    have hQ3 := hQ.kept (grownBy_putObj' W2 D (.deferred none)) (by intro e; cases e; have := hQ; unfold Boxed at this; rw [hK'] at this; cases this)
    have c0 := hR3.c0
    have c1 := hR3.c1
    have c2 := hR3.c2
    have c3 := hR3.c3
    have c4 := hQ3.cell
    refine ⟨_, ?_, .inl ⟨rfl, fun j hj => hp j (by simp only [dnL, List.mem_map, List.mem_range]; exact ⟨len - 1 - j, by omega, by omega⟩)⟩, hB2.trans (belowK_b (w := w) (Nat.le_refl _) W2 D _ _ (by omega) hK' rfl rfl)⟩
    simp [results, Tryz.f141, go_sem, c0, c1, c2, c3, c4]
  case stop =>
    rintro D c pre W hD ⟨k, hk, rfl⟩ ⟨⟨rfl, ini, last, e1, e2, e3, e4, e5⟩, hB⟩ hK
    gi_wp2
    refine ⟨by simp, .inl ⟨_, _, rfl, run_takeDeferred hK, ?_⟩⟩
    have hr : ∀ r, some D = some r → ∃ o : Obj, W.heap[r]? = some o ∧ o.isCells = false := fun r e => by cases e; exact ⟨_, hK, rfl⟩
    have hR3 := Row4.own _ _ _ _ _ _ () W _ (some D) e4 (grownBy_putObj' W D (.deferred none)) hr
    have hQ3 := e5.kept (grownBy_putObj' W D (.deferred none)) (by intro e; cases e; have := e5; unfold Boxed at this; rw [hK] at this; cases this)
    have c0 := hR3.c0
    have c1 := hR3.c1
    have c2 := hR3.c2
    have c3 := hR3.c3
    have c4 := hQ3.cell
    obtain ⟨k', rfl⟩ : ∃ k', k = k' + 1 := by
      cases k with
      | zero => simp [dnL] at e1
      | succ k' => exact ⟨k', rfl⟩
    rw [dnL_succ] at e1
    obtain ⟨rfl, e6⟩ := List.append_inj' e1 rfl
    obtain rfl : len - 1 - k' = last := by simpa using e6
    refine ⟨_, ?_, .inr ⟨len - 1 - k', by omega, rfl, e3, fun j h1 h2 => e2 j (by simp only [dnL, List.mem_map, List.mem_range]; exact ⟨len - 1 - j, by omega, by omega⟩)⟩, hB.trans (belowK_b (w := w) (Nat.le_refl _) W D _ _ (by omega) hK rfl rfl)⟩
    simp [results, Tryz.f141, go_sem, c0, c1, c2, c3, c4]
end Go.Proofs
