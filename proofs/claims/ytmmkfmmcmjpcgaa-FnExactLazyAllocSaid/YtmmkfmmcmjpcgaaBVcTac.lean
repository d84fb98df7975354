/- Steps of a condition, in the form in which they are met. -/
import Derived.Test.YtmmkfmmcmjpcgaaBVcLit
import Derived.Laws.Cover3
namespace Go.Vc
open Go Go.RowKit
set_option linter.all false

theorem go_wr {n : Int} {K : Int → Prop} (h0 : -9223372036854775808 ≤ n) (h1 : n ≤ 9223372036854775807) (k : K n) : ∃ r, Wr .i64 n r ∧ K r := ⟨n, inK_i64 h0 h1, k⟩
theorem go_wrg {C : Prop} {n : Int} {K : Int → Prop} (h0 : C → -9223372036854775808 ≤ n ∧ n ≤ 9223372036854775807) (k : K n) : ∃ r, (C → Wr .i64 n r) ∧ K r := ⟨n, fun h => inK_i64 (h0 h).1 (h0 h).2, k⟩
theorem go_quo {n m : Int} {K : Int → Prop} (hm : m ≠ 0) (h0 : -9223372036854775808 ≤ Int.tdiv n m) (h1 : Int.tdiv n m ≤ 9223372036854775807) (k : K (Int.tdiv n m)) : ∃ r, (m ≠ 0 ∧ Wr .i64 (Int.tdiv n m) r) ∧ K r := ⟨_, ⟨hm, inK_i64 h0 h1⟩, k⟩
/-- the sum as it lies, whatever it is -/
theorem go_wrap {n : Int} {K : Int → Prop} (k : ∀ r, IntKind.wrap .i64 n = r → K r) : ∃ r, Wr .i64 n r ∧ K r := ⟨_, rfl, k _ rfl⟩
theorem wrap_i64 {n : Int} (h0 : -9223372036854775808 ≤ n) (h1 : n ≤ 9223372036854775807) : IntKind.wrap .i64 n = n := inK_i64 h0 h1

section
variable {B : Nat} {u w : World} {x : Sl} {L I R : Items} {F : Items → Items} {i : Int}
theorem ld_int {l : List Int} (h : ReadB B w x l) (h0 : 0 ≤ i) (h1 : i < l.length) {K : Int → Prop} (k : -9223372036854775808 ≤ nth l i → nth l i ≤ 9223372036854775807 → K (nth l i)) :
    ∃ n, w.cell? ((elA x i 1).add 0) = some (.int .i64 n) ∧ K n := ⟨_, (h.int h0 h1).1, k (h.int h0 h1).2.1 (h.int h0 h1).2.2⟩
theorem ld_intg {C : Prop} {l : List Int} (h : ReadB B w x l) (h0 : C → 0 ≤ i ∧ i < l.length) {K : Int → Prop} (k : K (nth l i)) :
    ∃ n, (C → w.cell? ((elA x i 1).add 0) = some (.int .i64 n)) ∧ K n := ⟨_, fun hc => (h.int (h0 hc).1 (h0 hc).2).1, k⟩
theorem ld_bool {l : List Bool} (h : ReadB B w x l) (h0 : 0 ≤ i) (h1 : i < l.length) {K : Bool → Prop} (k : K (nth l i)) :
    ∃ n, w.cell? ((elA x i 1).add 0) = some (.bool n) ∧ K n := ⟨_, h.bool h0 h1, k⟩
theorem ld_boolg {C : Prop} {l : List Bool} (h : ReadB B w x l) (h0 : C → 0 ≤ i ∧ i < l.length) {K : Bool → Prop} (k : K (nth l i)) :
    ∃ n, (C → w.cell? ((elA x i 1).add 0) = some (.bool n)) ∧ K n := ⟨_, fun hc => h.bool (h0 hc).1 (h0 hc).2, k⟩
theorem ld_byte {l : List UInt8} (h : ReadB B w x l) (h0 : 0 ≤ i) (h1 : i < l.length) {K : Int → Prop} (k : 0 ≤ ((nth l i).toNat : Int) → ((nth l i).toNat : Int) ≤ 255 → K ((nth l i).toNat : Int)) :
    ∃ n, w.cell? ((elA x i 1).add 0) = some (.int .u8 n) ∧ K n := ⟨_, h.byte h0 h1, k (by omega) (by have := (nth l i).toNat_lt; omega)⟩
theorem go_ix {α : Type} [Dat α] {l : List α} (h : ReadB B w x l) (h0 : 0 ≤ i) (h1 : i < l.length) {K : Prop} (k : K) : IxOk x i ∧ K := ⟨h.ix h0 h1, k⟩
theorem go_ixg {C : Prop} {α : Type} [Dat α] {l : List α} (h : ReadB B w x l) (h0 : C → 0 ≤ i ∧ i < l.length) {K : Prop} (k : K) : (C → IxOk x i) ∧ K := ⟨fun hc => h.ix (h0 hc).1 (h0 hc).2, k⟩
theorem Own.ix {α : Type} [Dat α] {l : List α} (h : Own u x l I) (h0 : 0 ≤ i) (h1 : i < l.length) : IxOk x i := by
  obtain ⟨rows, h2, h3, _⟩ := h
  cases h2 with
  | nil => have := h3.1; simp at this; omega
  | blk g o n c cur e _ hn hc hm hs hr => exact ⟨rfl, h0, by have := h3.1; simp only [] at *; omega⟩
theorem go_oix {α : Type} [Dat α] {l : List α} (h : Own u x l I) (h0 : 0 ≤ i) (h1 : i < l.length) {K : Prop} (k : K) : IxOk x i ∧ K := ⟨h.ix h0 h1, k⟩
theorem go_oixg {C : Prop} {α : Type} [Dat α] {l : List α} (h : Own u x l I) (h0 : C → 0 ≤ i ∧ i < l.length) {K : Prop} (k : K) : (C → IxOk x i) ∧ K := ⟨fun hc => h.ix (h0 hc).1 (h0 hc).2, k⟩
theorem ld_cel {a : Addr} {vals : List Value} {n : Nat} {y : Value} (h : Cel a vals I) (hS : St u w L) [p : Pos I L R F] (hv : vals[n]? = some y) {K : Prop} (k : K) : w.cell? (a.add n) = some y ∧ K := ⟨h.load hS hv, k⟩
theorem st_int {l : List Int} (h : Own u x l I) (hS : St u w L) [p : Pos I L R F] (h0 : 0 ≤ i) (h1 : i < l.length) {n : Int} (hn : InI n) {K : World → Prop}
    (k : ∀ w' I', Own u x (l.set i.toNat n) I' → St u w' (F I') → K w') : StoreAt w (elA x i 1) 0 [.int .i64 n] K :=
  Own.store h hS h0 h1 n (Nat.le_refl _) (fun r hr => by rw [hr.1]; exact ⟨rfl, hn⟩) k
theorem st_bool {l : List Bool} (h : Own u x l I) (hS : St u w L) [p : Pos I L R F] (h0 : 0 ≤ i) (h1 : i < l.length) {n : Bool} {K : World → Prop}
    (k : ∀ w' I', Own u x (l.set i.toNat n) I' → St u w' (F I') → K w') : StoreAt w (elA x i 1) 0 [.bool n] K :=
  Own.store h hS h0 h1 n (Nat.le_refl _) (fun r (hr : r = _) => by rw [hr]; rfl) k
theorem St.makeInts {P : Program} {t : TypeId} {bytes : Nat} [hT : SlT P t 1 bytes [intV 0]] {n : Int} {Q : Value → World → Prop} (hS : St u w L) (h0 : 0 ≤ n) (hn : n ≤ 1099511627776) (hby : bytes ≤ 128)
    (k : ∀ x w' I, Own u x (List.replicate n.toNat (0 : Int)) I → St u w' (I ++ L) → Sub w w' → Q x.val w') : StepT P (Instr.makeSlice t (.int .i64 n) (.int .i64 n)) w Q :=
  St.make (α := Int) (hT := hT) 0 hS (show [intV 0] = [intV 0] ∧ InI 0 from ⟨rfl, by omega, by omega⟩) h0 hn hby k
theorem St.makeBools {P : Program} {t : TypeId} {bytes : Nat} [hT : SlT P t 1 bytes [Value.bool false]] {n : Int} {Q : Value → World → Prop} (hS : St u w L) (h0 : 0 ≤ n) (hn : n ≤ 1099511627776) (hby : bytes ≤ 128)
    (k : ∀ x w' I, Own u x (List.replicate n.toNat false) I → St u w' (I ++ L) → Sub w w' → Q x.val w') : StepT P (Instr.makeSlice t (.int .i64 n) (.int .i64 n)) w Q :=
  St.make (α := Bool) (hT := hT) false hS (show [Value.bool false] = [Value.bool false] from rfl) h0 hn hby k
theorem St.front (h : St u w L) [p : Pos I L R F] : St u w (I ++ R) := h.perm p.perm.symm
theorem pure_of {P : Program} {e : Sem Value} {v r : Value} (h : ∀ w : World, e.run P w = .ok v w) (hr : v = r) : PureT P e w r := fun w0 _ => by rw [h w0, hr]
end

theorem take_nth {α : Type} [Inhabited α] {l : List α} {i : Int} (h0 : 0 ≤ i) (h1 : i < l.length) : l.take (i + 1).toNat = l.take i.toNat ++ [nth l i] := by
  rw [show (i + 1).toNat = i.toNat + 1 from by omega, List.take_add_one, nth_get h0 h1]; rfl
theorem take_all {α : Type} {l : List α} {i : Int} (h1 : (l.length : Int) ≤ i) : l.take i.toNat = l := List.take_of_length_le (by omega)
theorem nth_set {α : Type} [Inhabited α] (l : List α) (i j : Int) (a : α) (h0 : 0 ≤ i) (h1 : i < l.length) (h2 : 0 ≤ j) : nth (l.set i.toNat a) j = if j = i then a else nth l j := by
  simp only [nth, List.getD, List.getElem?_set]
  by_cases e : j = i
  · subst e; rw [if_pos rfl, if_pos rfl, if_pos (by omega)]; rfl
  · rw [if_neg e, if_neg (by omega)]

theorem bool_eq {p : Bool} {q : Prop} [Decidable q] (h : p = true ↔ q) : p = decide q := by
  cases p with
  | true => exact (decide_eq_true (h.1 rfl)).symm
  | false => exact (decide_eq_false fun hq => by have := h.2 hq; cases this).symm
theorem val_true {q : Prop} [Decidable q] (h : q) : Value.bool true = .bool (decide q) := by rw [decide_eq_true h]
theorem val_false {q : Prop} [Decidable q] (h : ¬ q) : Value.bool false = .bool (decide q) := by rw [decide_eq_false h]

/-! ### max, min, slices that are nil -/
theorem go_max {P : Program} {t : TypeId} {ts : Array TypeId} {x y : Int} {w : World} {K : Int → Prop} (k : K (max x y)) : ∃ n, PureT P (Builtin.max_ ts t #[.int .i64 x, .int .i64 y]) w (.int .i64 n) ∧ K n := by
  refine ⟨_, pure_of (fun w => run_max_int2 w ts t .i64 .i64 x y) rfl, ?_⟩
  rw [show (if y > x then y else x) = max x y from by split <;> omega]; exact k
theorem go_min {P : Program} {t : TypeId} {ts : Array TypeId} {x y : Int} {w : World} {K : Int → Prop} (k : K (min x y)) : ∃ n, PureT P (Builtin.min_ ts t #[.int .i64 x, .int .i64 y]) w (.int .i64 n) ∧ K n := by
  refine ⟨_, pure_of (fun w => run_min_int2 w ts t .i64 .i64 x y) rfl, ?_⟩
  rw [show (if y < x then y else x) = min x y from by split <;> omega]; exact k
theorem go_xor {P : Program} {t : TypeId} {a b : Operand} {x y : Int} {w : World} {K : Int → Prop} (x0 : 0 ≤ x) (x1 : x < 1099511627776) (y0 : 0 ≤ y) (y1 : y < 1099511627776)
    (k : ∀ r, 0 ≤ r → r < 1099511627776 → K r) : ∃ n, PureT P (do eqGuard .xor t a b (.int .i64 x) (.int .i64 y); binOp .xor t (.int .i64 x) (.int .i64 y)) w (.int .i64 n) ∧ K n := by
  obtain ⟨m, rfl⟩ := Int.eq_ofNat_of_zero_le x0
  obtain ⟨n, rfl⟩ := Int.eq_ofNat_of_zero_le y0
  have hx : m ^^^ n < 2 ^ 40 := Nat.xor_lt_two_pow (by omega) (by omega)
  refine ⟨((m ^^^ n : Nat) : Int), pure_of (v := .int .i64 ((m ^^^ n : Nat) : Int)) (fun w => ?_) rfl, k _ (by omega) (by omega)⟩
  have e : (BitVec.ofInt 64 (m : Int) ^^^ BitVec.ofInt 64 (n : Int)).toNat = m ^^^ n := by
    rw [BitVec.toNat_xor, BitVec.ofInt_natCast, BitVec.ofInt_natCast, BitVec.toNat_ofNat, BitVec.toNat_ofNat, Nat.mod_eq_of_lt (by omega), Nat.mod_eq_of_lt (by omega)]
  have e2 : IntKind.wrap .i64 ((m ^^^ n : Nat) : Int) = ((m ^^^ n : Nat) : Int) := wrap_i64 (by omega) (by omega)
  have e3 : (Op.intBits .xor .i64 (m : Int) (n : Int)) = pure (.int .i64 (IntKind.wrap .i64 ((BitVec.ofInt 64 (m : Int) ^^^ BitVec.ofInt 64 (n : Int)).toNat : Int))) := rfl
  simp only [eqGuard, binOp, ne_eq, not_true, if_false, e3, e, e2]
  simp
theorem go_nil {P : Program} {t : TypeId} {sz bytes : Nat} {zc : List Value} [hT : SlT P t sz bytes zc] {a b : Operand} {x : Sl} {w : World} {K : Bool → Prop} (k : K x.a.isNone) :
    ∃ q, PureT P (do eqGuard .eql t a b x.val (.slice none 0 0); binOp .eql t x.val (.slice none 0 0)) w (.bool q) ∧ K q := by
  obtain ⟨e, i, z, ht, _⟩ := hT.ex
  refine ⟨_, pure_of (v := .bool x.a.isNone) (fun w => ?_) rfl, k⟩
  have e1 : (eqGuard .eql t a b x.val (.slice none 0 0)).run P w = .ok () w := rfl
  have e2 : binOp .eql t x.val (.slice none 0 0) = (do pure (.bool (← Op.equal t (.slice x.a x.n x.c) (.slice none 0 0)))) := rfl
  rw [Sem.run_bind, e1, Result.andThen_ok, e2, Sem.run_bind, run_equal_slice_nil w t e x.a x.n x.c ht]
  rfl
theorem ReadB.nil_of {α : Type} [Dat α] {B : Nat} {w : World} {x : Sl} {l : List α} (h : ReadB B w x l) (hx : x.a = none) : l = [] := by
  cases l with
  | nil => rfl
  | cons a r => have := h.isSome (by simp); rw [hx] at this; cases this

/-! ### forms of contracts -/
section
variable {P : Program} {f : FuncId} {args : Array Value} {u w : World} {L : Items} {K : Value → World → Prop}
/-- what a function hands back lies in new blocks J -/
def Mk (P : Program) (f : FuncId) (args : Array Value) (v : World) (Q : Value → Items → Prop) : Prop := Trip P f args v fun r v' => ∃ J, St v v' J ∧ Q r J
/-- a function that gives r -/
def Fn (P : Program) (f : FuncId) (args : Array Value) (v : World) (r : Value) : Prop := Trip P f args v fun r' v' => r' = r ∧ Sub v v'
theorem St.glue {u' : World} {J : Items} (h : St u u' J) (k : St u' w L) : St u w (J ++ L) := by
  refine ⟨h.sub.trans k.sub, ?_, fun p hp => ?_, fun p hp => ?_⟩
  · rw [List.map_append]
    refine List.nodup_append.2 ⟨h.nd, k.nd, fun a ha b hb e => ?_⟩
    subst e
    obtain ⟨p, hp, rfl⟩ := List.mem_map.1 ha
    obtain ⟨q, hq, e⟩ := List.mem_map.1 hb
    exact (h.at_ p hp).2 (k.out q hq _ (by rw [e]; exact (h.at_ p hp).1))
  · rcases List.mem_append.1 hp with hp | hp
    · exact h.out p hp
    · exact h.sub.out (k.out p hp)
  · rcases List.mem_append.1 hp with hp | hp
    · exact (h.at_.sub k.sub) p hp
    · exact k.at_ p hp
theorem Mk.use {Q : Value → Items → Prop} (h : Mk P f args u Q) (hS : St u w L) (k : ∀ r w' J, Q r J → St u w' (J ++ L) → Sub w w' → K r w') : Trip P f args w K :=
  Trip.fr h hS fun _ _ _ ⟨J, h1, h2⟩ h3 h4 => k _ _ J h2 (h1.glue h3) (h4 h1.sub)
/-- .. called where what it reads is owned -/
theorem Mk.usew {Q : Value → Items → Prop} (h : Mk P f args w Q) (hS : St u w L) (k : ∀ r w' J, Q r J → St u w' (J ++ L) → Sub w w' → K r w') : Trip P f args w K :=
  h.mono' fun _ _ ⟨J, h1, h2⟩ => k _ _ J h2 (hS.join h1) h1.sub
theorem Fn.use {r : Value} (h : Fn P f args w r) (hS : St u w L) (k : ∀ w', St u w' L → Sub w w' → K r w') : Trip P f args w K :=
  h.mono' fun _ _ ⟨h1, h2⟩ => by subst h1; exact k _ (hS.sub_w h2) h2
theorem Fn.pure {r : Value} (h : Fn P f args w r) : Trip P f args w fun r' w' => r' = r ∧ Sub w w' := h
end

/-! ### a measure that the arguments don't show -/
open Classical in
noncomputable def leastM (p : Nat → Prop) : Nat := if h : ∃ n, p n then Classical.choose (exists_least p h) else 0
theorem leastM_spec {p : Nat → Prop} (h : ∃ n, p n) : p (leastM p) := by
  unfold leastM; rw [dif_pos h]; exact (Classical.choose_spec (exists_least p h)).1
theorem leastM_le {p : Nat → Prop} {k : Nat} (h : p k) : leastM p ≤ k := by
  unfold leastM; rw [dif_pos ⟨k, h⟩]; exact (Classical.choose_spec (exists_least p ⟨k, h⟩)).2 k h
theorem loopEnd {p : Nat → Prop} {k n : Nat} (h : p k) (hk : k < n) : (∃ n, p n) ∧ leastM p < n := ⟨⟨k, h⟩, Nat.lt_of_le_of_lt (leastM_le h) hk⟩
end Go.Vc
