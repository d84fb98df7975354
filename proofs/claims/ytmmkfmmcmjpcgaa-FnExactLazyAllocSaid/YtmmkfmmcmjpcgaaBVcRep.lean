/- Slices that read as lists, at a base world. -/
import Derived.Test.YtmmkfmmcmjpcgaaBVcFn
namespace Go.Vc
open Go
set_option linter.all false

/-- a slice whose elements are rows of sz cells -/
def Rows (w : World) (x : Sl) (sz : Nat) (rows : List (List Value)) : Prop :=
  x.n = rows.length ∧ x.n ≤ x.c ∧ ∀ (i : Nat) (r : List Value), rows[i]? = some r → x.a.isSome = true ∧ ∀ (j : Nat) (u : Value), r[j]? = some u → w.cell? ((elA x i sz).add j) = some u

def intV (n : Int) : Value := .int .i64 n
def Ints (w : World) (x : Sl) (l : List Int) : Prop := Rows w x 1 (l.map fun n => [intV n])
def Bools (w : World) (x : Sl) (l : List Bool) : Prop := Rows w x 1 (l.map fun q => [Value.bool q])
def Bytes (w : World) (x : Sl) (l : List UInt8) : Prop := Rows w x 1 (l.map fun b => [Value.int .u8 (b.toNat : Int)])

section
variable {w w' : World} {x : Sl} {sz : Nat} {rows : List (List Value)}

theorem Rows.sub (h : Rows w x sz rows) (hs : Sub w w') : Rows w' x sz rows :=
  ⟨h.1, h.2.1, fun i r hr => ⟨(h.2.2 i r hr).1, fun j u hu => cell_sub hs ((h.2.2 i r hr).2 j u hu)⟩⟩
theorem Rows.len (h : Rows w x sz rows) : x.n = rows.length := h.1
theorem Rows.nil_ (w : World) (sz : Nat) : Rows w ⟨none, 0, 0⟩ sz [] := ⟨rfl, Nat.le_refl _, fun i r hr => by simp at hr⟩

/-- an index that is good -/
theorem Rows.ix (h : Rows w x sz rows) {i : Int} (h0 : 0 ≤ i) (h1 : i < rows.length) : IxOk x i := by
  have hlt : i.toNat < rows.length := by omega
  exact ⟨(h.2.2 i.toNat _ (List.getElem?_eq_getElem hlt)).1, h0, by rw [h.1]; exact h1⟩
theorem elA_toNat (x : Sl) {i : Int} (h0 : 0 ≤ i) (sz : Nat) : elA x (i.toNat : Int) sz = elA x i sz := by simp [elA, Int.toNat_of_nonneg h0]
theorem Rows.at_ (h : Rows w x sz rows) {i : Int} (h0 : 0 ≤ i) {r : List Value} (hr : rows[i.toNat]? = some r) {j : Nat} {u : Value} (hu : r[j]? = some u) : w.cell? ((elA x i sz).add j) = some u := by
  have := (h.2.2 i.toNat r hr).2 j u hu
  rwa [elA_toNat x h0] at this

theorem Ints.sub {l : List Int} (h : Ints w x l) (hs : Sub w w') : Ints w' x l := Rows.sub h hs
theorem Ints.len {l : List Int} (h : Ints w x l) : x.n = l.length := by have := Rows.len h; simpa using this
theorem Ints.ix {l : List Int} (h : Ints w x l) {i : Int} (h0 : 0 ≤ i) (h1 : i < l.length) : IxOk x i := Rows.ix h h0 (by simpa using h1)
theorem Ints.at_ {l : List Int} (h : Ints w x l) {i : Int} (h0 : 0 ≤ i) {n : Int} (hn : l[i.toNat]? = some n) : w.cell? ((elA x i 1).add 0) = some (.int .i64 n) :=
  Rows.at_ h h0 (r := [intV n]) (by simp [hn]) (j := 0) rfl
theorem Ints.get {l : List Int} (h : Ints w x l) {i : Int} (h0 : 0 ≤ i) (h1 : i < l.length) : ∃ n, l[i.toNat]? = some n ∧ w.cell? ((elA x i 1).add 0) = some (.int .i64 n) :=
  ⟨_, List.getElem?_eq_getElem (by omega), h.at_ h0 (List.getElem?_eq_getElem (by omega))⟩
theorem Bools.at_ {l : List Bool} (h : Bools w x l) {i : Int} (h0 : 0 ≤ i) {n : Bool} (hn : l[i.toNat]? = some n) : w.cell? ((elA x i 1).add 0) = some (.bool n) :=
  Rows.at_ h h0 (r := [Value.bool n]) (by simp [hn]) (j := 0) rfl
theorem Bytes.at_ {l : List UInt8} (h : Bytes w x l) {i : Int} (h0 : 0 ≤ i) {n : UInt8} (hn : l[i.toNat]? = some n) : w.cell? ((elA x i 1).add 0) = some (.int .u8 (n.toNat : Int)) :=
  Rows.at_ h h0 (r := [Value.int .u8 (n.toNat : Int)]) (by simp [hn]) (j := 0) rfl

theorem Ints.nil_ (w : World) : Ints w ⟨none, 0, 0⟩ [] := Rows.nil_ w 1
end

theorem inK_i64 {n : Int} (h0 : -9223372036854775808 ≤ n) (h1 : n ≤ 9223372036854775807) : InK .i64 n := IntWalk.i64_in n ⟨h0, h1⟩

end Go.Vc
