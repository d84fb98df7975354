/- Part of the proofs about the heaps and memories: a law is joined in the text whose name ends in W and the law. -/
import Derived.Test.YtlcegaeioheikaaEE4
import Derived.Test.YtlcegaeioheikaaEG
import Derived.Test.YtlcegaeioheikaaEH1
namespace Go.Vc
open Go Go.Proofs Go.RowKit
set_option linter.all false

instance : SlT Try.prog 27 1 8 [intV 0] := .of (by kernel_rfl) rfl (by decide)

/-- the reader of random numbers: its position is at most m -/
def Rdr (u : World) (a : Addr) (m : Int) (I : Items) : Prop :=
 ∃ (b : Sl) (bs : List UInt8) (p : Int), Cel a [b.val, .int .i64 p] I ∧ Read u b bs ∧ bs.length ≤ 2000 ∧ 0 ≤ p ∧ p ≤ m
theorem Rdr.mono {u u' : World} {a : Addr} {m : Int} {I : Items} (h : Rdr u a m I) (hs : Sub u u') : Rdr u' a m I :=
 let ⟨b, bs, p, h1, h2, h3⟩ := h; ⟨b, bs, p, h1, h2.mono hs, h3⟩
theorem Rdr.le {u : World} {a : Addr} {m m' : Int} {I : Items} (h : Rdr u a m I) (hm : m ≤ m') : Rdr u a m' I :=
 let ⟨b, bs, p, h1, h2, h3, h4, h5⟩ := h; ⟨b, bs, p, h1, h2, h3, h4, by omega⟩

theorem c_pick {u w : World} {a : Addr} {m n : Int} {I L R : Items} {F : Items → Items} (hr : Rdr u a m I) (hS : St u w L) [p : Pos I L R F] (hm : m ≤ 1000000000) (hn1 : -1000000000000 ≤ n) (hn : n ≤ 1000000000000) :
  Trip Try.prog 12 #[.pointer (some (a.add 0)), .int .i64 n] w fun r w' => ∃ k I', r = .int .i64 k ∧ Rdr u a (m + 1) I' ∧ St u w' (I' ++ R) ∧ 0 ≤ k ∧ (1 ≤ n → k < n) ∧ (n < 1 → k = 0) := by
 replace hS := hS.front (I := I)
 obtain ⟨b, bs, q, hC, hB, hbs, hq0, hq1⟩ := hr
 refine of12 _ _ _ _ ?_
 unfold vc12
 have hbn := hB.n
 have fin : ∀ (w1 : World) (I1 : Items) (k : Int), Cel a [b.val, .int .i64 (q + 1)] I1 → St u w1 (I1 ++ R) → 0 ≤ k → (1 ≤ n → k < n) → (n < 1 → k = 0) →
   ∃ k' I', Value.int .i64 k = .int .i64 k' ∧ Rdr u a (m + 1) I' ∧ St u w1 (I' ++ R) ∧ 0 ≤ k' ∧ (1 ≤ n → k' < n) ∧ (n < 1 → k' = 0) :=
  fun w1 I1 k h1 h2 h3 h4 h5 => ⟨k, I1, rfl, ⟨b, bs, q + 1, h1, hB, hbs, by omega, by omega⟩, h2, h3, h4, h5⟩
 have tm : ∀ x y : Int, 0 ≤ x → 0 < y → 0 ≤ x.tmod y ∧ x.tmod y < y := fun x y h1 h2 => ⟨Int.tmod_nonneg _ h1, Int.tmod_lt_of_pos _ h2⟩
 have td : ∀ x y : Int, 0 ≤ x → 0 < y → 0 ≤ x.tdiv y ∧ x.tdiv y ≤ x := fun x y h1 h2 => ⟨Int.tdiv_nonneg h1 (by omega), Int.tdiv_le_self _ h1⟩
 repeat' first | (intro hc; simp only [bls] at hc) | (refine go_wr (by first | omega | (simp only [List.length_set, List.length_append, List.length_replicate, List.length_cons, List.length_nil, List.length_take, List.length_drop, List.length_map, List.length_singleton] at *; omega)) (by first | omega | (simp only [List.length_set, List.length_append, List.length_replicate, List.length_cons, List.length_nil, List.length_take, List.length_drop, List.length_map, List.length_singleton] at *; omega)) ?_) | (refine go_wrg (by (intro hc; simp only [bls] at hc; constructor <;> first | omega | (simp only [List.length_set, List.length_append, List.length_replicate, List.length_cons, List.length_nil, List.length_take, List.length_drop, List.length_map, List.length_singleton] at *; omega))) ?_) | (refine go_ix (by assumption) (by first | omega | (simp only [List.length_set, List.length_append, List.length_replicate, List.length_cons, List.length_nil, List.length_take, List.length_drop, List.length_map, List.length_singleton] at *; omega)) (by first | omega | (simp only [List.length_set, List.length_append, List.length_replicate, List.length_cons, List.length_nil, List.length_take, List.length_drop, List.length_map, List.length_singleton] at *; omega)) ?_) | (refine go_oix (by assumption) (by first | omega | (simp only [List.length_set, List.length_append, List.length_replicate, List.length_cons, List.length_nil, List.length_take, List.length_drop, List.length_map, List.length_singleton] at *; omega)) (by first | omega | (simp only [List.length_set, List.length_append, List.length_replicate, List.length_cons, List.length_nil, List.length_take, List.length_drop, List.length_map, List.length_singleton] at *; omega)) ?_) | (refine go_ixg (by assumption) (by (intro hc; simp only [bls] at hc; constructor <;> first | omega | (simp only [List.length_set, List.length_append, List.length_replicate, List.length_cons, List.length_nil, List.length_take, List.length_drop, List.length_map, List.length_singleton] at *; omega))) ?_) | (refine go_oixg (by assumption) (by (intro hc; simp only [bls] at hc; constructor <;> first | omega | (simp only [List.length_set, List.length_append, List.length_replicate, List.length_cons, List.length_nil, List.length_take, List.length_drop, List.length_map, List.length_singleton] at *; omega))) ?_) | (refine ld_cell (by first | exact ReadB.src (by assumption) hS.sub | exact Own.src (by assumption) hS) (by first | omega | (simp only [List.length_set, List.length_append, List.length_replicate, List.length_cons, List.length_nil, List.length_take, List.length_drop, List.length_map, List.length_singleton] at *; omega)) (by first | omega | (simp only [List.length_set, List.length_append, List.length_replicate, List.length_cons, List.length_nil, List.length_take, List.length_drop, List.length_map, List.length_singleton] at *; omega)) ?_; intro f hf hcI htI) | (refine ld_count (by first | exact ReadB.src (by assumption) hS.sub | exact Own.src (by assumption) hS) (by first | omega | (simp only [List.length_set, List.length_append, List.length_replicate, List.length_cons, List.length_nil, List.length_take, List.length_drop, List.length_map, List.length_singleton] at *; omega)) (by first | omega | (simp only [List.length_set, List.length_append, List.length_replicate, List.length_cons, List.length_nil, List.length_take, List.length_drop, List.length_map, List.length_singleton] at *; omega)) ?_; intro hlo hhi) | (refine ld_countg (by first | exact ReadB.src (by assumption) hS.sub | exact Own.src (by assumption) hS) (by (intro hc; simp only [bls] at hc; constructor <;> first | omega | (simp only [List.length_set, List.length_append, List.length_replicate, List.length_cons, List.length_nil, List.length_take, List.length_drop, List.length_map, List.length_singleton] at *; omega))) ?_) | (refine ld_tag (by first | exact ReadB.src (by assumption) hS.sub | exact Own.src (by assumption) hS) (by first | omega | (simp only [List.length_set, List.length_append, List.length_replicate, List.length_cons, List.length_nil, List.length_take, List.length_drop, List.length_map, List.length_singleton] at *; omega)) (by first | omega | (simp only [List.length_set, List.length_append, List.length_replicate, List.length_cons, List.length_nil, List.length_take, List.length_drop, List.length_map, List.length_singleton] at *; omega)) ?_; intro hlo hhi) | (refine ld_fields (by first | exact ReadB.src (by assumption) hS.sub | exact Own.src (by assumption) hS) (by first | omega | (simp only [List.length_set, List.length_append, List.length_replicate, List.length_cons, List.length_nil, List.length_take, List.length_drop, List.length_map, List.length_singleton] at *; omega)) (by first | omega | (simp only [List.length_set, List.length_append, List.length_replicate, List.length_cons, List.length_nil, List.length_take, List.length_drop, List.length_map, List.length_singleton] at *; omega)) ?_; intro f hf) | (refine ld_fieldsg (by first | exact ReadB.src (by assumption) hS.sub | exact Own.src (by assumption) hS) (by (intro hc; simp only [bls] at hc; constructor <;> first | omega | (simp only [List.length_set, List.length_append, List.length_replicate, List.length_cons, List.length_nil, List.length_take, List.length_drop, List.length_map, List.length_singleton] at *; omega))) ?_; intro f hf) | (refine ld_int (by first | exact ReadB.mono (by assumption) hS.sub | exact Own.read (by assumption) hS | assumption) (by first | omega | (simp only [List.length_set, List.length_append, List.length_replicate, List.length_cons, List.length_nil, List.length_take, List.length_drop, List.length_map, List.length_singleton] at *; omega)) (by first | omega | (simp only [List.length_set, List.length_append, List.length_replicate, List.length_cons, List.length_nil, List.length_take, List.length_drop, List.length_map, List.length_singleton] at *; omega)) ?_; intro hlo hhi) | (refine ld_bool (by first | exact ReadB.mono (by assumption) hS.sub | exact Own.read (by assumption) hS | assumption) (by first | omega | (simp only [List.length_set, List.length_append, List.length_replicate, List.length_cons, List.length_nil, List.length_take, List.length_drop, List.length_map, List.length_singleton] at *; omega)) (by first | omega | (simp only [List.length_set, List.length_append, List.length_replicate, List.length_cons, List.length_nil, List.length_take, List.length_drop, List.length_map, List.length_singleton] at *; omega)) ?_) | (refine ld_byte (by first | exact ReadB.mono (by assumption) hS.sub | exact Own.read (by assumption) hS | assumption) (by first | omega | (simp only [List.length_set, List.length_append, List.length_replicate, List.length_cons, List.length_nil, List.length_take, List.length_drop, List.length_map, List.length_singleton] at *; omega)) (by first | omega | (simp only [List.length_set, List.length_append, List.length_replicate, List.length_cons, List.length_nil, List.length_take, List.length_drop, List.length_map, List.length_singleton] at *; omega)) ?_; intro hlo hhi) | (refine ld_intg (by first | exact ReadB.mono (by assumption) hS.sub | exact Own.read (by assumption) hS | assumption) (by (intro hc; simp only [bls] at hc; constructor <;> first | omega | (simp only [List.length_set, List.length_append, List.length_replicate, List.length_cons, List.length_nil, List.length_take, List.length_drop, List.length_map, List.length_singleton] at *; omega))) ?_) | (refine ld_boolg (by first | exact ReadB.mono (by assumption) hS.sub | exact Own.read (by assumption) hS | assumption) (by (intro hc; simp only [bls] at hc; constructor <;> first | omega | (simp only [List.length_set, List.length_append, List.length_replicate, List.length_cons, List.length_nil, List.length_take, List.length_drop, List.length_map, List.length_singleton] at *; omega))) ?_) | (refine ⟨_, Cel.load (by assumption) hS rfl, ?_⟩) | (refine ⟨_, fun _ => Cel.load (by assumption) hS rfl, ?_⟩) | (refine go_max ?_) | (refine go_nil ?_) | (refine Cel.store (by assumption) hS (by simp) ?_; intro w1 I1 hC hS; simp [putR] at hC) | (refine st_int (by assumption) hS (by first | omega | (simp only [List.length_set, List.length_append, List.length_replicate, List.length_cons, List.length_nil, List.length_take, List.length_drop, List.length_map, List.length_singleton] at *; omega)) (by first | omega | (simp only [List.length_set, List.length_append, List.length_replicate, List.length_cons, List.length_nil, List.length_take, List.length_drop, List.length_map, List.length_singleton] at *; omega)) (by first | assumption | (constructor <;> first | omega | (simp only [List.length_set, List.length_append, List.length_replicate, List.length_cons, List.length_nil, List.length_take, List.length_drop, List.length_map, List.length_singleton] at *; omega))) ?_; intro w1 I1 hO hS) | (refine st_bool (by assumption) hS (by first | omega | (simp only [List.length_set, List.length_append, List.length_replicate, List.length_cons, List.length_nil, List.length_take, List.length_drop, List.length_map, List.length_singleton] at *; omega)) (by first | omega | (simp only [List.length_set, List.length_append, List.length_replicate, List.length_cons, List.length_nil, List.length_take, List.length_drop, List.length_map, List.length_singleton] at *; omega)) ?_; intro w1 I1 hO hS) | (with_reducible refine And.intro rfl ?_) | (with_reducible refine And.intro (by omega) ?_) | (with_reducible refine And.intro ?_ ?_) | (with_reducible rfl) | assumption | omega | exact hS.sub
 ·have t0 := tm 0 1 (by omega) (by omega)
  rcases hc with hc | hc
  ·exact fin _ _ 0 hC hS (by omega) (by omega) (by omega)
  ·exact fin _ _ 0 hC hS (by omega) (by omega) (by omega)
 ·exact fin _ _ _ hC hS (tm _ n (by omega) (by omega)).1 (fun _ => (tm _ n (by omega) (by omega)).2) (by omega)
 ·exact hB.ix (tm _ _ (by omega) (by omega)).1 (by have := (tm (q + 1 - 1) b.n (by omega) (by omega)).2; omega)
 ·have t0 := tm (q + 1 - 1) b.n (by omega) (by omega)
  have t1 := tm ((q + 1 - 1) * 7 + 3) b.n (by omega) (by omega)
  have t2 := td (q + 1 - 1) b.n (by omega) (by omega)
  refine ld_byte (hB.mono hS.sub) t0.1 (by omega) ?_
  intro b0 b1
  refine go_wr (by omega) (by omega) ?_
  refine go_wr (by omega) (by omega) ?_
  refine ⟨_, Cel.load hC hS rfl, ?_⟩
  refine go_wr (by omega) (by omega) ?_
  refine go_wr (by omega) (by omega) ?_
  refine ⟨_, Cel.load hC hS rfl, by omega, hB.ix t1.1 (by omega), ?_⟩
  refine ld_byte (hB.mono hS.sub) t1.1 (by omega) ?_
  intro b2 b3
  repeat' first | (intro hc; simp only [bls] at hc) | (refine go_wr (by first | omega | (simp only [List.length_set, List.length_append, List.length_replicate, List.length_cons, List.length_nil, List.length_take, List.length_drop, List.length_map, List.length_singleton] at *; omega)) (by first | omega | (simp only [List.length_set, List.length_append, List.length_replicate, List.length_cons, List.length_nil, List.length_take, List.length_drop, List.length_map, List.length_singleton] at *; omega)) ?_) | (refine go_wrg (by (intro hc; simp only [bls] at hc; constructor <;> first | omega | (simp only [List.length_set, List.length_append, List.length_replicate, List.length_cons, List.length_nil, List.length_take, List.length_drop, List.length_map, List.length_singleton] at *; omega))) ?_) | (refine go_ix (by assumption) (by first | omega | (simp only [List.length_set, List.length_append, List.length_replicate, List.length_cons, List.length_nil, List.length_take, List.length_drop, List.length_map, List.length_singleton] at *; omega)) (by first | omega | (simp only [List.length_set, List.length_append, List.length_replicate, List.length_cons, List.length_nil, List.length_take, List.length_drop, List.length_map, List.length_singleton] at *; omega)) ?_) | (refine go_oix (by assumption) (by first | omega | (simp only [List.length_set, List.length_append, List.length_replicate, List.length_cons, List.length_nil, List.length_take, List.length_drop, List.length_map, List.length_singleton] at *; omega)) (by first | omega | (simp only [List.length_set, List.length_append, List.length_replicate, List.length_cons, List.length_nil, List.length_take, List.length_drop, List.length_map, List.length_singleton] at *; omega)) ?_) | (refine go_ixg (by assumption) (by (intro hc; simp only [bls] at hc; constructor <;> first | omega | (simp only [List.length_set, List.length_append, List.length_replicate, List.length_cons, List.length_nil, List.length_take, List.length_drop, List.length_map, List.length_singleton] at *; omega))) ?_) | (refine go_oixg (by assumption) (by (intro hc; simp only [bls] at hc; constructor <;> first | omega | (simp only [List.length_set, List.length_append, List.length_replicate, List.length_cons, List.length_nil, List.length_take, List.length_drop, List.length_map, List.length_singleton] at *; omega))) ?_) | (refine ld_cell (by first | exact ReadB.src (by assumption) hS.sub | exact Own.src (by assumption) hS) (by first | omega | (simp only [List.length_set, List.length_append, List.length_replicate, List.length_cons, List.length_nil, List.length_take, List.length_drop, List.length_map, List.length_singleton] at *; omega)) (by first | omega | (simp only [List.length_set, List.length_append, List.length_replicate, List.length_cons, List.length_nil, List.length_take, List.length_drop, List.length_map, List.length_singleton] at *; omega)) ?_; intro f hf hcI htI) | (refine ld_count (by first | exact ReadB.src (by assumption) hS.sub | exact Own.src (by assumption) hS) (by first | omega | (simp only [List.length_set, List.length_append, List.length_replicate, List.length_cons, List.length_nil, List.length_take, List.length_drop, List.length_map, List.length_singleton] at *; omega)) (by first | omega | (simp only [List.length_set, List.length_append, List.length_replicate, List.length_cons, List.length_nil, List.length_take, List.length_drop, List.length_map, List.length_singleton] at *; omega)) ?_; intro hlo hhi) | (refine ld_countg (by first | exact ReadB.src (by assumption) hS.sub | exact Own.src (by assumption) hS) (by (intro hc; simp only [bls] at hc; constructor <;> first | omega | (simp only [List.length_set, List.length_append, List.length_replicate, List.length_cons, List.length_nil, List.length_take, List.length_drop, List.length_map, List.length_singleton] at *; omega))) ?_) | (refine ld_tag (by first | exact ReadB.src (by assumption) hS.sub | exact Own.src (by assumption) hS) (by first | omega | (simp only [List.length_set, List.length_append, List.length_replicate, List.length_cons, List.length_nil, List.length_take, List.length_drop, List.length_map, List.length_singleton] at *; omega)) (by first | omega | (simp only [List.length_set, List.length_append, List.length_replicate, List.length_cons, List.length_nil, List.length_take, List.length_drop, List.length_map, List.length_singleton] at *; omega)) ?_; intro hlo hhi) | (refine ld_fields (by first | exact ReadB.src (by assumption) hS.sub | exact Own.src (by assumption) hS) (by first | omega | (simp only [List.length_set, List.length_append, List.length_replicate, List.length_cons, List.length_nil, List.length_take, List.length_drop, List.length_map, List.length_singleton] at *; omega)) (by first | omega | (simp only [List.length_set, List.length_append, List.length_replicate, List.length_cons, List.length_nil, List.length_take, List.length_drop, List.length_map, List.length_singleton] at *; omega)) ?_; intro f hf) | (refine ld_fieldsg (by first | exact ReadB.src (by assumption) hS.sub | exact Own.src (by assumption) hS) (by (intro hc; simp only [bls] at hc; constructor <;> first | omega | (simp only [List.length_set, List.length_append, List.length_replicate, List.length_cons, List.length_nil, List.length_take, List.length_drop, List.length_map, List.length_singleton] at *; omega))) ?_; intro f hf) | (refine ld_int (by first | exact ReadB.mono (by assumption) hS.sub | exact Own.read (by assumption) hS | assumption) (by first | omega | (simp only [List.length_set, List.length_append, List.length_replicate, List.length_cons, List.length_nil, List.length_take, List.length_drop, List.length_map, List.length_singleton] at *; omega)) (by first | omega | (simp only [List.length_set, List.length_append, List.length_replicate, List.length_cons, List.length_nil, List.length_take, List.length_drop, List.length_map, List.length_singleton] at *; omega)) ?_; intro hlo hhi) | (refine ld_bool (by first | exact ReadB.mono (by assumption) hS.sub | exact Own.read (by assumption) hS | assumption) (by first | omega | (simp only [List.length_set, List.length_append, List.length_replicate, List.length_cons, List.length_nil, List.length_take, List.length_drop, List.length_map, List.length_singleton] at *; omega)) (by first | omega | (simp only [List.length_set, List.length_append, List.length_replicate, List.length_cons, List.length_nil, List.length_take, List.length_drop, List.length_map, List.length_singleton] at *; omega)) ?_) | (refine ld_byte (by first | exact ReadB.mono (by assumption) hS.sub | exact Own.read (by assumption) hS | assumption) (by first | omega | (simp only [List.length_set, List.length_append, List.length_replicate, List.length_cons, List.length_nil, List.length_take, List.length_drop, List.length_map, List.length_singleton] at *; omega)) (by first | omega | (simp only [List.length_set, List.length_append, List.length_replicate, List.length_cons, List.length_nil, List.length_take, List.length_drop, List.length_map, List.length_singleton] at *; omega)) ?_; intro hlo hhi) | (refine ld_intg (by first | exact ReadB.mono (by assumption) hS.sub | exact Own.read (by assumption) hS | assumption) (by (intro hc; simp only [bls] at hc; constructor <;> first | omega | (simp only [List.length_set, List.length_append, List.length_replicate, List.length_cons, List.length_nil, List.length_take, List.length_drop, List.length_map, List.length_singleton] at *; omega))) ?_) | (refine ld_boolg (by first | exact ReadB.mono (by assumption) hS.sub | exact Own.read (by assumption) hS | assumption) (by (intro hc; simp only [bls] at hc; constructor <;> first | omega | (simp only [List.length_set, List.length_append, List.length_replicate, List.length_cons, List.length_nil, List.length_take, List.length_drop, List.length_map, List.length_singleton] at *; omega))) ?_) | (refine ⟨_, Cel.load (by assumption) hS rfl, ?_⟩) | (refine ⟨_, fun _ => Cel.load (by assumption) hS rfl, ?_⟩) | (refine go_max ?_) | (refine go_nil ?_) | (refine Cel.store (by assumption) hS (by simp) ?_; intro w1 I1 hC hS; simp [putR] at hC) | (refine st_int (by assumption) hS (by first | omega | (simp only [List.length_set, List.length_append, List.length_replicate, List.length_cons, List.length_nil, List.length_take, List.length_drop, List.length_map, List.length_singleton] at *; omega)) (by first | omega | (simp only [List.length_set, List.length_append, List.length_replicate, List.length_cons, List.length_nil, List.length_take, List.length_drop, List.length_map, List.length_singleton] at *; omega)) (by first | assumption | (constructor <;> first | omega | (simp only [List.length_set, List.length_append, List.length_replicate, List.length_cons, List.length_nil, List.length_take, List.length_drop, List.length_map, List.length_singleton] at *; omega))) ?_; intro w1 I1 hO hS) | (refine st_bool (by assumption) hS (by first | omega | (simp only [List.length_set, List.length_append, List.length_replicate, List.length_cons, List.length_nil, List.length_take, List.length_drop, List.length_map, List.length_singleton] at *; omega)) (by first | omega | (simp only [List.length_set, List.length_append, List.length_replicate, List.length_cons, List.length_nil, List.length_take, List.length_drop, List.length_map, List.length_singleton] at *; omega)) ?_; intro w1 I1 hO hS) | (with_reducible refine And.intro rfl ?_) | (with_reducible refine And.intro (by omega) ?_) | (with_reducible refine And.intro ?_ ?_) | (with_reducible rfl) | assumption | omega | exact hS.sub
  ·refine go_quo (by omega) (by omega) (by omega) ?_
   have t3 := td (↑(nth bs ((q + 1 - 1).tmod ↑b.n)).toNat * 131 + ↑(nth bs (((q + 1 - 1) * 7 + 3).tmod ↑b.n)).toNat * 1117 + (q + 1 - 1) * 29 + (q + 1 - 1).tdiv ↑b.n * 53) 64 (by omega) (by omega)
   refine go_wr (by omega) (by omega) ?_
   refine go_wr (by omega) (by omega) ?_
   refine go_quo (by omega) (by omega) (by omega) ?_
   refine go_xor (by omega) (by omega) (by omega) (by omega) ?_
   intro r hr0 hr1
   exact ⟨by omega, fin _ _ _ hC hS (tm _ n (by omega) (by omega)).1 (fun _ => (tm _ n (by omega) (by omega)).2) (by omega)⟩

/-! ### lists of numbers -/
section
variable {u v w : World} {x y : Sl} {l m : List Int} {n : Int} {a : Addr} {I L R : Items} {F : Items → Items}

theorem c_specIsIn (hx : Read v x l) : Fn Try.prog 88 #[x.val, .int .i64 n] v (.bool (decide (n ∈ l))) := by
 refine of88 _ _ _ _ ?_
 unfold vc88
 have hn := hx.n
 have hl := hx.le
 refine ⟨fun i w => St v w [] ∧ 0 ≤ i ∧ i ≤ l.length ∧ n ∉ l.take i.toNat, fun i _ => (l.length - i).toNat, ⟨.refl v, by omega, by omega, by simp⟩, ?_⟩
 rintro i w ⟨hS, h0, h1, h2⟩
 dsimp only
 repeat' first | (intro hc; simp only [bls] at hc) | (refine go_wr (by first | omega | (simp only [List.length_set, List.length_append, List.length_replicate, List.length_cons, List.length_nil, List.length_take, List.length_drop, List.length_map, List.length_singleton] at *; omega)) (by first | omega | (simp only [List.length_set, List.length_append, List.length_replicate, List.length_cons, List.length_nil, List.length_take, List.length_drop, List.length_map, List.length_singleton] at *; omega)) ?_) | (refine go_wrg (by (intro hc; simp only [bls] at hc; constructor <;> first | omega | (simp only [List.length_set, List.length_append, List.length_replicate, List.length_cons, List.length_nil, List.length_take, List.length_drop, List.length_map, List.length_singleton] at *; omega))) ?_) | (refine go_ix (by assumption) (by first | omega | (simp only [List.length_set, List.length_append, List.length_replicate, List.length_cons, List.length_nil, List.length_take, List.length_drop, List.length_map, List.length_singleton] at *; omega)) (by first | omega | (simp only [List.length_set, List.length_append, List.length_replicate, List.length_cons, List.length_nil, List.length_take, List.length_drop, List.length_map, List.length_singleton] at *; omega)) ?_) | (refine go_oix (by assumption) (by first | omega | (simp only [List.length_set, List.length_append, List.length_replicate, List.length_cons, List.length_nil, List.length_take, List.length_drop, List.length_map, List.length_singleton] at *; omega)) (by first | omega | (simp only [List.length_set, List.length_append, List.length_replicate, List.length_cons, List.length_nil, List.length_take, List.length_drop, List.length_map, List.length_singleton] at *; omega)) ?_) | (refine go_ixg (by assumption) (by (intro hc; simp only [bls] at hc; constructor <;> first | omega | (simp only [List.length_set, List.length_append, List.length_replicate, List.length_cons, List.length_nil, List.length_take, List.length_drop, List.length_map, List.length_singleton] at *; omega))) ?_) | (refine go_oixg (by assumption) (by (intro hc; simp only [bls] at hc; constructor <;> first | omega | (simp only [List.length_set, List.length_append, List.length_replicate, List.length_cons, List.length_nil, List.length_take, List.length_drop, List.length_map, List.length_singleton] at *; omega))) ?_) | (refine ld_cell (by first | exact ReadB.src (by assumption) hS.sub | exact Own.src (by assumption) hS) (by first | omega | (simp only [List.length_set, List.length_append, List.length_replicate, List.length_cons, List.length_nil, List.length_take, List.length_drop, List.length_map, List.length_singleton] at *; omega)) (by first | omega | (simp only [List.length_set, List.length_append, List.length_replicate, List.length_cons, List.length_nil, List.length_take, List.length_drop, List.length_map, List.length_singleton] at *; omega)) ?_; intro f hf hcI htI) | (refine ld_count (by first | exact ReadB.src (by assumption) hS.sub | exact Own.src (by assumption) hS) (by first | omega | (simp only [List.length_set, List.length_append, List.length_replicate, List.length_cons, List.length_nil, List.length_take, List.length_drop, List.length_map, List.length_singleton] at *; omega)) (by first | omega | (simp only [List.length_set, List.length_append, List.length_replicate, List.length_cons, List.length_nil, List.length_take, List.length_drop, List.length_map, List.length_singleton] at *; omega)) ?_; intro hlo hhi) | (refine ld_countg (by first | exact ReadB.src (by assumption) hS.sub | exact Own.src (by assumption) hS) (by (intro hc; simp only [bls] at hc; constructor <;> first | omega | (simp only [List.length_set, List.length_append, List.length_replicate, List.length_cons, List.length_nil, List.length_take, List.length_drop, List.length_map, List.length_singleton] at *; omega))) ?_) | (refine ld_tag (by first | exact ReadB.src (by assumption) hS.sub | exact Own.src (by assumption) hS) (by first | omega | (simp only [List.length_set, List.length_append, List.length_replicate, List.length_cons, List.length_nil, List.length_take, List.length_drop, List.length_map, List.length_singleton] at *; omega)) (by first | omega | (simp only [List.length_set, List.length_append, List.length_replicate, List.length_cons, List.length_nil, List.length_take, List.length_drop, List.length_map, List.length_singleton] at *; omega)) ?_; intro hlo hhi) | (refine ld_fields (by first | exact ReadB.src (by assumption) hS.sub | exact Own.src (by assumption) hS) (by first | omega | (simp only [List.length_set, List.length_append, List.length_replicate, List.length_cons, List.length_nil, List.length_take, List.length_drop, List.length_map, List.length_singleton] at *; omega)) (by first | omega | (simp only [List.length_set, List.length_append, List.length_replicate, List.length_cons, List.length_nil, List.length_take, List.length_drop, List.length_map, List.length_singleton] at *; omega)) ?_; intro f hf) | (refine ld_fieldsg (by first | exact ReadB.src (by assumption) hS.sub | exact Own.src (by assumption) hS) (by (intro hc; simp only [bls] at hc; constructor <;> first | omega | (simp only [List.length_set, List.length_append, List.length_replicate, List.length_cons, List.length_nil, List.length_take, List.length_drop, List.length_map, List.length_singleton] at *; omega))) ?_; intro f hf) | (refine ld_int (by first | exact ReadB.mono (by assumption) hS.sub | exact Own.read (by assumption) hS | assumption) (by first | omega | (simp only [List.length_set, List.length_append, List.length_replicate, List.length_cons, List.length_nil, List.length_take, List.length_drop, List.length_map, List.length_singleton] at *; omega)) (by first | omega | (simp only [List.length_set, List.length_append, List.length_replicate, List.length_cons, List.length_nil, List.length_take, List.length_drop, List.length_map, List.length_singleton] at *; omega)) ?_; intro hlo hhi) | (refine ld_bool (by first | exact ReadB.mono (by assumption) hS.sub | exact Own.read (by assumption) hS | assumption) (by first | omega | (simp only [List.length_set, List.length_append, List.length_replicate, List.length_cons, List.length_nil, List.length_take, List.length_drop, List.length_map, List.length_singleton] at *; omega)) (by first | omega | (simp only [List.length_set, List.length_append, List.length_replicate, List.length_cons, List.length_nil, List.length_take, List.length_drop, List.length_map, List.length_singleton] at *; omega)) ?_) | (refine ld_byte (by first | exact ReadB.mono (by assumption) hS.sub | exact Own.read (by assumption) hS | assumption) (by first | omega | (simp only [List.length_set, List.length_append, List.length_replicate, List.length_cons, List.length_nil, List.length_take, List.length_drop, List.length_map, List.length_singleton] at *; omega)) (by first | omega | (simp only [List.length_set, List.length_append, List.length_replicate, List.length_cons, List.length_nil, List.length_take, List.length_drop, List.length_map, List.length_singleton] at *; omega)) ?_; intro hlo hhi) | (refine ld_intg (by first | exact ReadB.mono (by assumption) hS.sub | exact Own.read (by assumption) hS | assumption) (by (intro hc; simp only [bls] at hc; constructor <;> first | omega | (simp only [List.length_set, List.length_append, List.length_replicate, List.length_cons, List.length_nil, List.length_take, List.length_drop, List.length_map, List.length_singleton] at *; omega))) ?_) | (refine ld_boolg (by first | exact ReadB.mono (by assumption) hS.sub | exact Own.read (by assumption) hS | assumption) (by (intro hc; simp only [bls] at hc; constructor <;> first | omega | (simp only [List.length_set, List.length_append, List.length_replicate, List.length_cons, List.length_nil, List.length_take, List.length_drop, List.length_map, List.length_singleton] at *; omega))) ?_) | (refine ⟨_, Cel.load (by assumption) hS rfl, ?_⟩) | (refine ⟨_, fun _ => Cel.load (by assumption) hS rfl, ?_⟩) | (refine go_max ?_) | (refine go_nil ?_) | (refine Cel.store (by assumption) hS (by simp) ?_; intro w1 I1 hC hS; simp [putR] at hC) | (refine st_int (by assumption) hS (by first | omega | (simp only [List.length_set, List.length_append, List.length_replicate, List.length_cons, List.length_nil, List.length_take, List.length_drop, List.length_map, List.length_singleton] at *; omega)) (by first | omega | (simp only [List.length_set, List.length_append, List.length_replicate, List.length_cons, List.length_nil, List.length_take, List.length_drop, List.length_map, List.length_singleton] at *; omega)) (by first | assumption | (constructor <;> first | omega | (simp only [List.length_set, List.length_append, List.length_replicate, List.length_cons, List.length_nil, List.length_take, List.length_drop, List.length_map, List.length_singleton] at *; omega))) ?_; intro w1 I1 hO hS) | (refine st_bool (by assumption) hS (by first | omega | (simp only [List.length_set, List.length_append, List.length_replicate, List.length_cons, List.length_nil, List.length_take, List.length_drop, List.length_map, List.length_singleton] at *; omega)) (by first | omega | (simp only [List.length_set, List.length_append, List.length_replicate, List.length_cons, List.length_nil, List.length_take, List.length_drop, List.length_map, List.length_singleton] at *; omega)) ?_; intro w1 I1 hO hS) | (with_reducible refine And.intro rfl ?_) | (with_reducible refine And.intro (by omega) ?_) | (with_reducible refine And.intro ?_ ?_) | (with_reducible rfl) | assumption | omega | exact hS.sub
 ·exact val_true (hc ▸ nth_mem h0 (by omega))
 ·rw [take_nth h0 (by omega)]; simp only [List.mem_append, List.mem_singleton, not_or]; exact ⟨h2, fun e => hc e.symm⟩
 ·rw [take_all (by omega)] at h2; exact val_false h2

theorem c_copyInts (hx : Read v x l) : Mk Try.prog 11 #[x.val] v fun r J => ∃ y, r = y.val ∧ Own v y l J := by
 refine of11 _ _ _ ?_
 unfold vc11
 have hS := St.refl v
 have hl := hx.le
 refine St.build (α := Int) hS (by (repeat' (first | exact VsOf.nil | apply VsOf.cons | (apply VOf.int; first | assumption | (constructor <;> first | omega | (simp only [List.length_set, List.length_append, List.length_replicate, List.length_cons, List.length_nil, List.length_take, List.length_drop, List.length_map, List.length_singleton] at *; omega))) | exact VOf.bool | exact VOf.str))) rfl (by decide) ?_
 intro x1 w1 I1 hO hS hs
 refine ⟨_, rfl, ?_⟩
 refine Own.append hO hS (hx.src hS.sub) (by simp; omega) (by decide) ?_
 intro x2 w2 I2 hO hS
 exact ⟨_, rfl, I2, by simpa using hS, _, rfl, by simpa using hO⟩

theorem c_cloneInts (hx : Read v x l) : Mk Try.prog 22 #[x.val] v fun r J => ∃ y, r = y.val ∧ Own v y l J := by
 refine of22 _ _ _ ?_
 unfold vc22
 have hS := St.refl v
 have hl := hx.le
 refine go_nil ⟨fun hc => ?_, fun _ => ?_⟩
 ·have := hx.nil_of (Option.isNone_iff_eq_none.1 hc)
  subst this
  exact ⟨[], hS, _, rfl, Own.nil v⟩
 refine St.build (α := Int) hS (by (repeat' (first | exact VsOf.nil | apply VsOf.cons | (apply VOf.int; first | assumption | (constructor <;> first | omega | (simp only [List.length_set, List.length_append, List.length_replicate, List.length_cons, List.length_nil, List.length_take, List.length_drop, List.length_map, List.length_singleton] at *; omega))) | exact VOf.bool | exact VOf.str))) rfl (by decide) ?_
 intro x1 w1 I1 hO hS hs
 refine ⟨_, rfl, ?_⟩
 refine Own.append hO hS (hx.src hS.sub) (by simp; omega) (by decide) ?_
 intro x2 w2 I2 hO hS
 exact ⟨_, rfl, I2, by simpa using hS, _, rfl, by simpa using hO⟩

theorem c_join (hx : Read v x l) (hy : Read v y m) (hb : l.length + m.length ≤ 1099511627776) : Mk Try.prog 8 #[x.val, y.val] v fun r J => ∃ z, r = z.val ∧ Own v z (l ++ m) J := by
 refine of8 _ _ _ _ ?_
 unfold vc8
 have hS := St.refl v
 refine St.build (α := Int) hS (by (repeat' (first | exact VsOf.nil | apply VsOf.cons | (apply VOf.int; first | assumption | (constructor <;> first | omega | (simp only [List.length_set, List.length_append, List.length_replicate, List.length_cons, List.length_nil, List.length_take, List.length_drop, List.length_map, List.length_singleton] at *; omega))) | exact VOf.bool | exact VOf.str))) rfl (by decide) ?_
 intro x1 w1 I1 hO hS hs
 refine ⟨_, rfl, ?_⟩
 refine Own.append hO hS (hx.src hS.sub) (by simp; omega) (by decide) ?_
 intro x2 w2 I2 hO hS
 refine ⟨_, rfl, ?_⟩
 refine Own.append hO hS (hy.src hS.sub) (by simp; omega) (by decide) ?_
 intro x3 w3 I3 hO hS
 exact ⟨_, rfl, I3, by simpa using hS, _, rfl, by simpa using hO⟩

theorem c_inRange {a b : Int} : Fn Try.prog 46 #[.int .i64 n, .int .i64 a, .int .i64 b] v (.bool (decide (a ≤ n) && decide (n ≤ b))) := by
 refine of46 _ _ _ _ _ ?_
 unfold vc46
 exact ⟨rfl, .refl v⟩
end
end Go.Vc

namespace Go.Vc
open Go Go.Proofs Go.RowKit
set_option linter.all false

section
variable {u v w : World} {x y : Sl} {l m : List Int} {h : List CellD} {n k : Int} {a : Addr} {I J L R : Items} {F : Items → Items}

theorem c_newReader {code : List UInt8} (hx : Read v x code) : Mk Try.prog 9 #[x.val] v fun r J => ∃ a, r = .pointer (some (a.add 0)) ∧ Rdr v a 0 J := by
 refine of9 _ _ _ ?_
 unfold vc9
 have hn := hx.n
 refine ⟨fun hc => ⟨?_, ?_⟩, fun hc => ?_⟩
 ·simp only [bls] at hc
  obtain ⟨_, h, _⟩ := hx
  have := h.2.1
  exact ⟨by omega, by omega, by omega⟩
 ·simp only [bls] at hc
  refine St.box (vals := [(x.cut 0 2000 1).val, .int .i64 0]) (.refl v) fun a w I hC hS hs => ?_
  have := hx.cut (lo := 0) (hi := 2000) (by omega) (by omega) (by omega)
  exact ⟨I, by simpa using hS, a, rfl, _, _, 0, hC, this, by simp; omega, by omega, by omega⟩
 ·simp only [bls] at hc
  refine St.box (vals := [x.val, .int .i64 0]) (.refl v) fun a w I hC hS hs => ?_
  exact ⟨I, by simpa using hS, a, rfl, _, _, 0, hC, hx, by omega, by omega, by omega⟩

end
end Go.Vc

namespace Go.Vc
open Go Go.Proofs Go.RowKit
set_option linter.all false

section
variable {u v w : World} {x y : Sl} {l m : List Int} {h : List CellD} {n k : Int} {a : Addr} {I J L R : Items} {F : Items → Items}

/-! ### the reference's -/
end
end Go.Vc

namespace Go.Vc
open Go Go.Proofs Go.RowKit
set_option linter.all false
section
variable {u v w : World} {x y : Sl} {l m : List Int} {h : List CellD} {n k : Int} {a : Addr} {I J L R : Items} {F : Items → Items}

end
end Go.Vc

namespace Go.Vc
open Go Go.Proofs Go.RowKit
set_option linter.all false
section
variable {u v w : World} {x y : Sl} {l m : List Int} {h : List CellD} {n k : Int} {a : Addr} {I J L R : Items} {F : Items → Items}

end
end Go.Vc

namespace Go.Vc
open Go Go.Proofs Go.RowKit
set_option linter.all false

instance : DatO CellD where
 own cs c K := ∃ f : Sl, cs = [intV c.count, intV c.tag, f.val] ∧ InI c.count ∧ InI c.tag ∧ ∀ u, Own u f c.fields K
 read := fun ⟨f, h1, h2, h3, h4⟩ hA => ⟨f, h1, h2, h3, let ⟨rows, k1, k2, k3⟩ := h4 _; ⟨rows, k1.rd hA, k2, k3⟩⟩

theorem Own.toAll {u : World} {x : Sl} {l : List Int} {I : Items} (h : Own u x l I) : ∀ u, Own u x l I := fun _ => h.ofInts

section
variable {u v w : World} {x y xf : Sl} {l m fs : List Int} {h : List CellD} {n k : Int} {a : Addr} {I J L R : Items} {F : Items → Items}

end
end Go.Vc

namespace Go.Vc
open Go Go.Proofs Go.RowKit
set_option linter.all false

theorem mem_set_of {α : Type} {l : List α} {i : Nat} {a b : α} (h : b ∈ l.set i a) : b ∈ l ∨ b = a := List.mem_or_eq_of_mem_set h

section
variable {u v w : World} {x y xf : Sl} {l m fs : List Int} {h : List CellD} {n k : Int} {a : Addr} {I J L R : Items} {F : Items → Items}

end
end Go.Vc

namespace Go.Vc
open Go Go.Proofs Go.RowKit
set_option linter.all false
section
variable {u v w : World} {x y xf : Sl} {l m fs : List Int} {h : List CellD} {n k : Int} {a : Addr} {I J L R : Items} {F : Items → Items}

end
end Go.Vc

namespace Go.Vc
open Go Go.Proofs Go.RowKit
set_option linter.all false
def GH (h : List CellD) (len cnt : Int) : Prop := h.length ≤ len ∧ ∀ c ∈ h, c.fields.length ≤ 3 ∧ c.count ≤ cnt
theorem GH.le {h : List CellD} {a b a' b' : Int} (hg : GH h a b) (h1 : a ≤ a') (h2 : b ≤ b') : GH h a' b' := ⟨by have := hg.1; omega, fun c hc => by have := hg.2 c hc; omega⟩
section
variable {u v w : World} {x y xf : Sl} {l fs : List Int} {h : List CellD} {m n k : Int} {a : Addr} {I J L R : Items} {F : Items → Items}

end
end Go.Vc
