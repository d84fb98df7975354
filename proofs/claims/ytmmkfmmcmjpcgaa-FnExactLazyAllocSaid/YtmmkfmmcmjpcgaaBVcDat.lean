/- Data in memory: read, and owned. -/
import Derived.Test.YtmmkfmmcmjpcgaaBVcSt
namespace Go.Vc
open Go Go.RowKit
set_option linter.all false

abbrev InI (n : Int) : Prop := -9223372036854775808 ≤ n ∧ n ≤ 9223372036854775807
/-- how long a slice may be -/
abbrev BB : Nat := 1099511627776
abbrev BR : Nat := 70368744177664

class Dat (α : Type) where
  sz : Nat
  cells : Nat → World → List Value → α → Prop
  mono : ∀ {B : Nat} {u w : World} {cs : List Value} {a : α}, Sub u w → cells B u cs a → cells B w cs a
  len : ∀ {B : Nat} {w : World} {cs : List Value} {a : α}, cells B w cs a → cs.length = sz
  one : ∀ {B : Nat} {w : World} {cs : List Value} {a : α}, cells B w cs a → ∀ v ∈ cs, v.oneCell' = true

def nth {α : Type} [Inhabited α] (l : List α) (i : Int) : α := l.getD i.toNat default
theorem nth_get {α : Type} [Inhabited α] {l : List α} {i : Int} (h0 : 0 ≤ i) (h1 : i < l.length) : l[i.toNat]? = some (nth l i) := by
  have : i.toNat < l.length := by omega
  simp [nth, List.getD, List.getElem?_eq_getElem this]
theorem nth_of {α : Type} [Inhabited α] {l : List α} {i : Int} {a : α} (h : l[i.toNat]? = some a) : nth l i = a := by simp [nth, List.getD, h]
theorem nth_mem {α : Type} [Inhabited α] {l : List α} {i : Int} (h0 : 0 ≤ i) (h1 : i < l.length) : nth l i ∈ l := List.mem_of_getElem? (nth_get h0 h1)

/-- rows stand for elements -/
def Els {α : Type} [Dat α] (B : Nat) (u : World) (rows : List (List Value)) (l : List α) : Prop :=
  rows.length = l.length ∧ ∀ (i : Nat) (r : List Value) (a : α), rows[i]? = some r → l[i]? = some a → Dat.cells B u r a
def ReadB {α : Type} [Dat α] (B : Nat) (w : World) (x : Sl) (l : List α) : Prop := ∃ rows, Rows w x (Dat.sz α) rows ∧ Els B w rows l ∧ l.length ≤ B
abbrev Read {α : Type} [Dat α] (w : World) (x : Sl) (l : List α) : Prop := ReadB BB w x l

instance : Dat Int where
  sz := 1
  cells _ _ cs n := cs = [intV n] ∧ InI n
  mono := fun _ h => h
  len := fun h => by rw [h.1]; rfl
  one := fun h v hv => by rw [h.1] at hv; simp at hv; subst hv; rfl
instance : Dat Bool where
  sz := 1
  cells _ _ cs q := cs = [.bool q]
  mono := fun _ h => h
  len := fun h => by rw [h]; rfl
  one := fun h v hv => by rw [h] at hv; simp at hv; subst hv; rfl
instance : Dat UInt8 where
  sz := 1
  cells _ _ cs q := cs = [.int .u8 (q.toNat : Int)]
  mono := fun _ h => h
  len := fun h => by rw [h]; rfl
  one := fun h v hv => by rw [h] at hv; simp at hv; subst hv; rfl
instance : Dat ByteArray where
  sz := 1
  cells _ _ cs q := cs = [.string q]
  mono := fun _ h => h
  len := fun h => by rw [h]; rfl
  one := fun h v hv => by rw [h] at hv; simp at hv; subst hv; rfl

section
variable {α : Type} [Dat α] {B : Nat} {u w w' : World} {x : Sl} {l : List α} {rows : List (List Value)}

theorem Els.mono (h : Els B u rows l) (hs : Sub u w) : Els B w rows l := ⟨h.1, fun i r a hr ha => Dat.mono hs (h.2 i r a hr ha)⟩
theorem ReadB.mono (h : ReadB B w x l) (hs : Sub w w') : ReadB B w' x l := let ⟨rows, h1, h2, h3⟩ := h; ⟨rows, h1.sub hs, h2.mono hs, h3⟩
theorem ReadB.n (h : ReadB B w x l) : x.n = l.length := let ⟨_, h1, h2, _⟩ := h; h1.len.trans h2.1
theorem ReadB.le (h : ReadB B w x l) : l.length ≤ B := let ⟨_, _, _, h3⟩ := h; h3
theorem Read.le (h : Read w x l) : l.length ≤ 1099511627776 := ReadB.le h
instance datList : Dat (List α) where
  sz := 1
  cells B w cs l := ∃ x : Sl, cs = [x.val] ∧ ReadB B w x l
  mono := fun hs ⟨x, h1, h2⟩ => ⟨x, h1, h2.mono hs⟩
  len := fun ⟨x, h1, _⟩ => by rw [h1]; rfl
  one := fun ⟨x, h1, _⟩ v hv => by rw [h1] at hv; simp at hv; subst hv; rfl

theorem ReadB.nil : ReadB B w ⟨none, 0, 0⟩ ([] : List α) := ⟨[], Rows.nil_ w _, ⟨rfl, fun i r a hr => by simp at hr⟩, Nat.zero_le _⟩

/-- an element's row -/
theorem ReadB.row [Inhabited α] (h : ReadB B w x l) {i : Int} (h0 : 0 ≤ i) (h1 : i < l.length) :
    ∃ r, Dat.cells B w r (nth l i) ∧ ∀ (j : Nat) (v : Value), r[j]? = some v → w.cell? ((elA x i (Dat.sz α)).add j) = some v := by
  obtain ⟨rows, hr, he, _⟩ := h
  have hlt : i.toNat < rows.length := by rw [he.1]; omega
  have hg := List.getElem?_eq_getElem hlt
  exact ⟨_, he.2 _ _ _ hg (nth_get h0 h1), fun j v hv => hr.at_ h0 hg hv⟩
theorem ReadB.ix (h : ReadB B w x l) {i : Int} (h0 : 0 ≤ i) (h1 : i < l.length) : IxOk x i := by
  obtain ⟨rows, hr, he, _⟩ := h
  exact hr.ix h0 (by rw [he.1]; exact h1)
theorem ReadB.isSome (h : ReadB B w x l) (h1 : 0 < l.length) : x.a.isSome = true := (h.ix (i := 0) (Int.le_refl _) (by omega)).1
end

theorem ReadB.int {B : Nat} {w : World} {x : Sl} {l : List Int} (h : ReadB B w x l) {i : Int} (h0 : 0 ≤ i) (h1 : i < l.length) :
    w.cell? ((elA x i 1).add 0) = some (.int .i64 (nth l i)) ∧ InI (nth l i) := by
  obtain ⟨r, ⟨rfl, h3⟩, h4⟩ := h.row h0 h1
  exact ⟨h4 0 _ rfl, h3⟩
theorem ReadB.bool {B : Nat} {w : World} {x : Sl} {l : List Bool} (h : ReadB B w x l) {i : Int} (h0 : 0 ≤ i) (h1 : i < l.length) :
    w.cell? ((elA x i 1).add 0) = some (.bool (nth l i)) := by
  obtain ⟨r, h2, h4⟩ := h.row h0 h1
  rw [show r = [.bool (nth l i)] from h2] at h4
  exact h4 0 _ rfl
theorem ReadB.byte {B : Nat} {w : World} {x : Sl} {l : List UInt8} (h : ReadB B w x l) {i : Int} (h0 : 0 ≤ i) (h1 : i < l.length) :
    w.cell? ((elA x i 1).add 0) = some (.int .u8 ((nth l i).toNat : Int)) := by
  obtain ⟨r, h2, h4⟩ := h.row h0 h1
  rw [show r = [.int .u8 ((nth l i).toNat : Int)] from h2] at h4
  exact h4 0 _ rfl
theorem ReadB.str {B : Nat} {w : World} {x : Sl} {l : List ByteArray} [Inhabited ByteArray] (h : ReadB B w x l) {i : Int} (h0 : 0 ≤ i) (h1 : i < l.length) :
    w.cell? ((elA x i 1).add 0) = some (.string (nth l i)) := by
  obtain ⟨r, h2, h4⟩ := h.row h0 h1
  rw [show r = [.string (nth l i)] from h2] at h4
  exact h4 0 _ rfl
theorem ReadB.int_mem {B : Nat} {w : World} {x : Sl} {l : List Int} (h : ReadB B w x l) : ∀ n ∈ l, InI n := by
  intro n hn
  obtain ⟨i, hi, rfl⟩ := List.getElem_of_mem hn
  have := (h.int (i := i) (by omega) (by omega)).2
  rwa [nth_of (a := l[i]) (by simp [List.getElem?_eq_getElem hi])] at this

/-! ### owned slices -/
/-- a row of blocks of one's own -/
inductive OSl (sz : Nat) : Sl → List (List Value) → Items → Prop where
  | nil : OSl sz ⟨none, 0, 0⟩ [] []
  | blk (g o n c : Nat) (cur : Array Value) (e : TypeId) (rows : List (List Value)) (hn : n = rows.length) (hc : n ≤ c) (hm : c ≤ maxLen) (hs : o + c * sz ≤ cur.size)
      (hr : ∀ (i : Nat) (r : List Value), rows[i]? = some r → r.length = sz ∧ ∀ (j : Nat) (v : Value), r[j]? = some v → cur[o + i * sz + j]? = some v) :
      OSl sz ⟨some ⟨g, o, none⟩, n, c⟩ rows [(g, .cells cur e (0, 0))]

def Own {α : Type} [Dat α] (u : World) (x : Sl) (l : List α) (I : Items) : Prop := ∃ rows, OSl (Dat.sz α) x rows I ∧ Els BB u rows l ∧ l.length ≤ BB

theorem cell_blk {w : World} {g o k : Nat} {cur : Array Value} {e : TypeId} {fz : Nat × Nat} (h : w.heap[g]? = some (.cells cur e fz)) {p : Addr} (hp : p = ⟨g, o, none⟩) : w.cell? (p.add k) = cur[o + k]? := by
  subst hp
  rw [box_add]
  simp [World.cell?, h]

theorem elA_blk (g o n c : Nat) (i : Int) (sz : Nat) : elA ⟨some ⟨g, o, none⟩, n, c⟩ i sz = ⟨g, o + i.toNat * sz, none⟩ := by
  simp only [elA, Option.getD_some, box_add]

section
variable {α : Type} [Dat α] {u w w' : World} {x y : Sl} {l : List α} {rows : List (List Value)} {sz : Nat} {L I R : Items} {F : Items → Items}

theorem OSl.rd (h : OSl sz x rows I) (hA : AtAll w I) : Rows w x sz rows := by
  cases h with
  | nil => exact Rows.nil_ w sz
  | blk g o n c cur e _ hn hc hm hs hr =>
    refine ⟨hn, hc, fun i r hi => ⟨rfl, fun j v hv => ?_⟩⟩
    rw [elA_blk, cell_blk (hA (g, .cells cur e (0, 0)) (by simp)).1 rfl]
    simpa using (hr i r hi).2 j v hv
theorem OSl.len (h : OSl sz x rows I) : x.n = rows.length := by
  cases h with
  | nil => rfl
  | blk g o n c cur e _ hn hc hm hs hr => exact hn
theorem Own.n (h : Own u x l I) : x.n = l.length := let ⟨_, h1, h2, _⟩ := h; h1.len.trans h2.1
theorem Own.le (h : Own u x l I) : l.length ≤ 1099511627776 := let ⟨_, _, _, h3⟩ := h; h3
theorem Own.mono (h : Own u x l I) (hs : Sub u w) : Own w x l I := let ⟨rows, h1, h2, h3⟩ := h; ⟨rows, h1, h2.mono hs, h3⟩
theorem Own.read (h : Own u x l I) (hS : St u w L) [p : Pos I L R F] : Read w x l := by
  obtain ⟨rows, h1, h2, h3⟩ := h
  exact ⟨rows, h1.rd hS.items, h2.mono hS.sub, h3⟩
theorem Own.read1 (h : Own u x l I) (hS : St u w I) : Read w x l := by
  obtain ⟨rows, h1, h2, h3⟩ := h
  exact ⟨rows, h1.rd hS.at_, h2.mono hS.sub, h3⟩
theorem Own.nil (u : World) : Own u ⟨none, 0, 0⟩ ([] : List α) [] := ⟨[], .nil, ⟨rfl, fun i r a hr => by simp at hr⟩, Nat.zero_le _⟩

/-- rows that a slice reads, their elements known at u -/
def Src (u w : World) (y : Sl) (m : List α) : Prop := ∃ rows, Rows w y (Dat.sz α) rows ∧ Els BB u rows m ∧ m.length ≤ BB
theorem ReadB.src (h : ReadB BB u y l) (hs : Sub u w) : Src u w y l := let ⟨rows, h1, h2, h3⟩ := h; ⟨rows, h1.sub hs, h2, h3⟩
theorem Own.src (h : Own u x l I) (hS : St u w L) [p : Pos I L R F] : Src u w x l := let ⟨rows, h1, h2, h3⟩ := h; ⟨rows, h1.rd hS.items, h2, h3⟩
theorem Src.n {m : List α} (h : Src u w y m) : y.n = m.length := let ⟨_, h1, h2, _⟩ := h; h1.len.trans h2.1
end
theorem Own.ofInts {u u' : World} {x : Sl} {l : List Int} {I : Items} (h : Own u x l I) : Own u' x l I := let ⟨rows, h1, h2, h3⟩ := h; ⟨rows, h1, ⟨h2.1, h2.2⟩, h3⟩
theorem Own.ofBools {u u' : World} {x : Sl} {l : List Bool} {I : Items} (h : Own u x l I) : Own u' x l I := let ⟨rows, h1, h2, h3⟩ := h; ⟨rows, h1, ⟨h2.1, h2.2⟩, h3⟩
theorem Src.ofInts {u w : World} {y : Sl} {m : List Int} (h : ReadB BB w y m) : Src u w y m := let ⟨rows, h1, h2, h3⟩ := h; ⟨rows, h1, ⟨h2.1, h2.2⟩, h3⟩

end Go.Vc
