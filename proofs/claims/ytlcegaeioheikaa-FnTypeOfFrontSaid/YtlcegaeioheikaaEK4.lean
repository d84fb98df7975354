/- Part of the proofs about the heaps and memories: a law is joined in the text whose name ends in W and the law. -/
import Derived.Test.YtlcegaeioheikaaEH1
import Derived.Test.YtlcegaeioheikaaEK2
namespace Go.Vc
open Go Go.RowKit
set_option linter.all false

structure ConD where
 fields : List Int
deriving DecidableEq
instance : Inhabited ConD := ⟨⟨[]⟩⟩
instance : Dat ConD where
 sz := 1
 cells B w cs c := ∃ f_fields : Sl, cs = [f_fields.val] ∧ ReadB B w f_fields c.fields
 mono := fun hs ⟨f_fields, h0, r_fields⟩ => ⟨f_fields, h0, r_fields.mono hs⟩
 len := fun ⟨f_fields, h0, _⟩ => by rw [h0]; rfl
 one := fun ⟨f_fields, h0, _⟩ v hv => by
  rw [h0] at hv; simp only [List.mem_cons, List.not_mem_nil, or_false] at hv
  rcases hv with rfl <;> rfl
instance : DatO ConD where
 own cs c K := ∃ f_fields : Sl, ∃ K_fields : Items, cs = [f_fields.val] ∧ (∀ u, Own u f_fields c.fields K_fields) ∧ K = K_fields
 read := by
  intro w cs c I h hA
  obtain ⟨f_fields, K_fields, h0, o_fields, rfl⟩ := h
  exact ⟨f_fields, h0, (let ⟨rows, k1, k2, k3⟩ := o_fields w; ⟨rows, k1.rd fun p hp => hA p (hp), k2, k3⟩)⟩

section
variable {u w : World} {x : Sl} {l : List ConD} {i : Int}
theorem Src.ofConD (hx : Src u w x l) (h0 : 0 ≤ i) (h1 : i < l.length) : ∃ f_fields : Sl, w.cell? ((elA x i 1).add 0) = some (f_fields.val) ∧ Read u f_fields (nth l i).fields := by
 obtain ⟨r, ⟨f_fields, rfl, r_fields⟩, h5⟩ := hx.row h0 h1
 exact ⟨f_fields, h5 0 _ rfl, r_fields⟩
theorem ld_con_fields (hx : Src u w x l) (h0 : 0 ≤ i) (h1 : i < l.length) {K : Sl → Prop} (k : ∀ f, Read u f (nth l i).fields → K f) : ∃ f : Sl, w.cell? ((elA x i 1).add 0) = some f.val ∧ K f := by
 obtain ⟨f_fields, e_fields, r_fields⟩ := hx.ofConD h0 h1
 exact ⟨f_fields, e_fields, k _ r_fields⟩
theorem ldg_con_fields {C : Prop} (hx : Src u w x l) (h0 : C → 0 ≤ i ∧ i < l.length) {K : Sl → Prop} (k : ∀ f, (C → Read u f (nth l i).fields) → K f) : ∃ f : Sl, (C → w.cell? ((elA x i 1).add 0) = some f.val) ∧ K f := by
 rcases Classical.em C with hc | hc
 ·obtain ⟨f_fields, e_fields, r_fields⟩ := hx.ofConD (h0 hc).1 (h0 hc).2
  exact ⟨f_fields, fun _ => e_fields, k _ fun _ => r_fields⟩
 ·exact ⟨⟨none, 0, 0⟩, fun h => absurd h hc, k _ fun h => absurd h hc⟩
end

structure DeclD where
 frm : Int
 to_ : Int
 cons : List ConD
deriving DecidableEq
instance : Inhabited DeclD := ⟨⟨0, 0, []⟩⟩
instance : Dat DeclD where
 sz := 3
 cells B w cs c := ∃ f_cons : Sl, cs = [intV c.frm, intV c.to_, f_cons.val] ∧ InI c.frm ∧ InI c.to_ ∧ ReadB B w f_cons c.cons
 mono := fun hs ⟨f_cons, h0, i_frm, i_to_, r_cons⟩ => ⟨f_cons, h0, i_frm, i_to_, r_cons.mono hs⟩
 len := fun ⟨f_cons, h0, _⟩ => by rw [h0]; rfl
 one := fun ⟨f_cons, h0, _⟩ v hv => by
  rw [h0] at hv; simp only [List.mem_cons, List.not_mem_nil, or_false] at hv
  rcases hv with rfl | rfl | rfl <;> rfl
instance : DatO DeclD where
 own cs c K := ∃ f_cons : Sl, ∃ K_cons : Items, cs = [intV c.frm, intV c.to_, f_cons.val] ∧ InI c.frm ∧ InI c.to_ ∧ OwnD f_cons c.cons K_cons ∧ K = K_cons
 read := by
  intro w cs c I h hA
  obtain ⟨f_cons, K_cons, h0, i_frm, i_to_, o_cons, rfl⟩ := h
  exact ⟨f_cons, h0, i_frm, i_to_, (o_cons.readA fun p hp => hA p (hp))⟩

section
variable {u w : World} {x : Sl} {l : List DeclD} {i : Int}
theorem Src.ofDeclD (hx : Src u w x l) (h0 : 0 ≤ i) (h1 : i < l.length) : ∃ f_cons : Sl, w.cell? ((elA x i 3).add 0) = some (.int .i64 (nth l i).frm) ∧ w.cell? ((elA x i 3).add 1) = some (.int .i64 (nth l i).to_) ∧ w.cell? ((elA x i 3).add 2) = some (f_cons.val) ∧ InI (nth l i).frm ∧ InI (nth l i).to_ ∧ Read u f_cons (nth l i).cons := by
 obtain ⟨r, ⟨f_cons, rfl, i_frm, i_to_, r_cons⟩, h5⟩ := hx.row h0 h1
 exact ⟨f_cons, h5 0 _ rfl, h5 1 _ rfl, h5 2 _ rfl, i_frm, i_to_, r_cons⟩
theorem ldg_decl_frm {C : Prop} (hx : Src u w x l) (h0 : C → 0 ≤ i ∧ i < l.length) {K : Int → Prop} (k : K (nth l i).frm) : ∃ n, (C → w.cell? ((elA x i 3).add 0) = some (.int .i64 n)) ∧ K n := by
 refine ⟨_, fun hc => ?_, k⟩
 obtain ⟨f_cons, e_frm, e_to_, e_cons, i_frm, i_to_, r_cons⟩ := hx.ofDeclD (h0 hc).1 (h0 hc).2
 exact e_frm
theorem ldg_decl_to_ {C : Prop} (hx : Src u w x l) (h0 : C → 0 ≤ i ∧ i < l.length) {K : Int → Prop} (k : K (nth l i).to_) : ∃ n, (C → w.cell? ((elA x i 3).add 1) = some (.int .i64 n)) ∧ K n := by
 refine ⟨_, fun hc => ?_, k⟩
 obtain ⟨f_cons, e_frm, e_to_, e_cons, i_frm, i_to_, r_cons⟩ := hx.ofDeclD (h0 hc).1 (h0 hc).2
 exact e_to_
theorem ld_decl_cons (hx : Src u w x l) (h0 : 0 ≤ i) (h1 : i < l.length) {K : Sl → Prop} (k : ∀ f, Read u f (nth l i).cons → K f) : ∃ f : Sl, w.cell? ((elA x i 3).add 2) = some f.val ∧ K f := by
 obtain ⟨f_cons, e_frm, e_to_, e_cons, i_frm, i_to_, r_cons⟩ := hx.ofDeclD h0 h1
 exact ⟨f_cons, e_cons, k _ r_cons⟩
theorem ldg_decl_cons {C : Prop} (hx : Src u w x l) (h0 : C → 0 ≤ i ∧ i < l.length) {K : Sl → Prop} (k : ∀ f, (C → Read u f (nth l i).cons) → K f) : ∃ f : Sl, (C → w.cell? ((elA x i 3).add 2) = some f.val) ∧ K f := by
 rcases Classical.em C with hc | hc
 ·obtain ⟨f_cons, e_frm, e_to_, e_cons, i_frm, i_to_, r_cons⟩ := hx.ofDeclD (h0 hc).1 (h0 hc).2
  exact ⟨f_cons, fun _ => e_cons, k _ fun _ => r_cons⟩
 ·exact ⟨⟨none, 0, 0⟩, fun h => absurd h hc, k _ fun h => absurd h hc⟩
end

structure InstrD where
 op : Int
 dst : Int
 num : Int
 into : Int
 args : List Int
 jumps : List Int
deriving DecidableEq
instance : Inhabited InstrD := ⟨⟨0, 0, 0, 0, [], []⟩⟩
instance : Dat InstrD where
 sz := 6
 cells B w cs c := ∃ f_args f_jumps : Sl, cs = [intV c.op, intV c.dst, intV c.num, intV c.into, f_args.val, f_jumps.val] ∧ InI c.op ∧ InI c.dst ∧ InI c.num ∧ InI c.into ∧ ReadB B w f_args c.args ∧ ReadB B w f_jumps c.jumps
 mono := fun hs ⟨f_args, f_jumps, h0, i_op, i_dst, i_num, i_into, r_args, r_jumps⟩ => ⟨f_args, f_jumps, h0, i_op, i_dst, i_num, i_into, r_args.mono hs, r_jumps.mono hs⟩
 len := fun ⟨f_args, f_jumps, h0, _⟩ => by rw [h0]; rfl
 one := fun ⟨f_args, f_jumps, h0, _⟩ v hv => by
  rw [h0] at hv; simp only [List.mem_cons, List.not_mem_nil, or_false] at hv
  rcases hv with rfl | rfl | rfl | rfl | rfl | rfl <;> rfl
instance : DatO InstrD where
 own cs c K := ∃ f_args f_jumps : Sl, ∃ K_args K_jumps : Items, cs = [intV c.op, intV c.dst, intV c.num, intV c.into, f_args.val, f_jumps.val] ∧ InI c.op ∧ InI c.dst ∧ InI c.num ∧ InI c.into ∧ (∀ u, Own u f_args c.args K_args) ∧ (∀ u, Own u f_jumps c.jumps K_jumps) ∧ K = K_args ++ K_jumps
 read := by
  intro w cs c I h hA
  obtain ⟨f_args, f_jumps, K_args, K_jumps, h0, i_op, i_dst, i_num, i_into, o_args, o_jumps, rfl⟩ := h
  exact ⟨f_args, f_jumps, h0, i_op, i_dst, i_num, i_into, (let ⟨rows, k1, k2, k3⟩ := o_args w; ⟨rows, k1.rd fun p hp => hA p (List.mem_append_left _ hp), k2, k3⟩), (let ⟨rows, k1, k2, k3⟩ := o_jumps w; ⟨rows, k1.rd fun p hp => hA p (List.mem_append_right _ hp), k2, k3⟩)⟩

section
variable {u w : World} {x : Sl} {l : List InstrD} {i : Int}
end

structure ProcD where
 params : List Int
 lent : List Int
 result : Int
 regs : Int
 code : List InstrD
deriving DecidableEq
instance : Inhabited ProcD := ⟨⟨[], [], 0, 0, []⟩⟩
instance : Dat ProcD where
 sz := 5
 cells B w cs c := ∃ f_params f_lent f_code : Sl, cs = [f_params.val, f_lent.val, intV c.result, intV c.regs, f_code.val] ∧ InI c.result ∧ InI c.regs ∧ ReadB B w f_params c.params ∧ ReadB B w f_lent c.lent ∧ ReadB B w f_code c.code
 mono := fun hs ⟨f_params, f_lent, f_code, h0, i_result, i_regs, r_params, r_lent, r_code⟩ => ⟨f_params, f_lent, f_code, h0, i_result, i_regs, r_params.mono hs, r_lent.mono hs, r_code.mono hs⟩
 len := fun ⟨f_params, f_lent, f_code, h0, _⟩ => by rw [h0]; rfl
 one := fun ⟨f_params, f_lent, f_code, h0, _⟩ v hv => by
  rw [h0] at hv; simp only [List.mem_cons, List.not_mem_nil, or_false] at hv
  rcases hv with rfl | rfl | rfl | rfl | rfl <;> rfl
instance : DatO ProcD where
 own cs c K := ∃ f_params f_lent f_code : Sl, ∃ K_params K_lent K_code : Items, cs = [f_params.val, f_lent.val, intV c.result, intV c.regs, f_code.val] ∧ InI c.result ∧ InI c.regs ∧ (∀ u, Own u f_params c.params K_params) ∧ (∀ u, Own u f_lent c.lent K_lent) ∧ OwnD f_code c.code K_code ∧ K = K_params ++ (K_lent ++ K_code)
 read := by
  intro w cs c I h hA
  obtain ⟨f_params, f_lent, f_code, K_params, K_lent, K_code, h0, i_result, i_regs, o_params, o_lent, o_code, rfl⟩ := h
  exact ⟨f_params, f_lent, f_code, h0, i_result, i_regs, (let ⟨rows, k1, k2, k3⟩ := o_params w; ⟨rows, k1.rd fun p hp => hA p (List.mem_append_left _ hp), k2, k3⟩), (let ⟨rows, k1, k2, k3⟩ := o_lent w; ⟨rows, k1.rd fun p hp => hA p (List.mem_append_right _ (List.mem_append_left _ hp)), k2, k3⟩), (o_code.readA fun p hp => hA p (List.mem_append_right _ (List.mem_append_right _ hp)))⟩

section
variable {u w : World} {x : Sl} {l : List ProcD} {i : Int}
end

structure SigD where
 params : List Int
 lent : List Int
 result : Int
deriving DecidableEq
instance : Inhabited SigD := ⟨⟨[], [], 0⟩⟩
instance : Dat SigD where
 sz := 3
 cells B w cs c := ∃ f_params f_lent : Sl, cs = [f_params.val, f_lent.val, intV c.result] ∧ InI c.result ∧ ReadB B w f_params c.params ∧ ReadB B w f_lent c.lent
 mono := fun hs ⟨f_params, f_lent, h0, i_result, r_params, r_lent⟩ => ⟨f_params, f_lent, h0, i_result, r_params.mono hs, r_lent.mono hs⟩
 len := fun ⟨f_params, f_lent, h0, _⟩ => by rw [h0]; rfl
 one := fun ⟨f_params, f_lent, h0, _⟩ v hv => by
  rw [h0] at hv; simp only [List.mem_cons, List.not_mem_nil, or_false] at hv
  rcases hv with rfl | rfl | rfl <;> rfl
instance : DatO SigD where
 own cs c K := ∃ f_params f_lent : Sl, ∃ K_params K_lent : Items, cs = [f_params.val, f_lent.val, intV c.result] ∧ InI c.result ∧ (∀ u, Own u f_params c.params K_params) ∧ (∀ u, Own u f_lent c.lent K_lent) ∧ K = K_params ++ K_lent
 read := by
  intro w cs c I h hA
  obtain ⟨f_params, f_lent, K_params, K_lent, h0, i_result, o_params, o_lent, rfl⟩ := h
  exact ⟨f_params, f_lent, h0, i_result, (let ⟨rows, k1, k2, k3⟩ := o_params w; ⟨rows, k1.rd fun p hp => hA p (List.mem_append_left _ hp), k2, k3⟩), (let ⟨rows, k1, k2, k3⟩ := o_lent w; ⟨rows, k1.rd fun p hp => hA p (List.mem_append_right _ hp), k2, k3⟩)⟩

section
variable {u w : World} {x : Sl} {l : List SigD} {i : Int}
theorem Src.ofSigD (hx : Src u w x l) (h0 : 0 ≤ i) (h1 : i < l.length) : ∃ f_params f_lent : Sl, w.cell? ((elA x i 3).add 0) = some (f_params.val) ∧ w.cell? ((elA x i 3).add 1) = some (f_lent.val) ∧ w.cell? ((elA x i 3).add 2) = some (.int .i64 (nth l i).result) ∧ InI (nth l i).result ∧ Read u f_params (nth l i).params ∧ Read u f_lent (nth l i).lent := by
 obtain ⟨r, ⟨f_params, f_lent, rfl, i_result, r_params, r_lent⟩, h5⟩ := hx.row h0 h1
 exact ⟨f_params, f_lent, h5 0 _ rfl, h5 1 _ rfl, h5 2 _ rfl, i_result, r_params, r_lent⟩
theorem ldg_sig_params {C : Prop} (hx : Src u w x l) (h0 : C → 0 ≤ i ∧ i < l.length) {K : Sl → Prop} (k : ∀ f, (C → Read u f (nth l i).params) → K f) : ∃ f : Sl, (C → w.cell? ((elA x i 3).add 0) = some f.val) ∧ K f := by
 rcases Classical.em C with hc | hc
 ·obtain ⟨f_params, f_lent, e_params, e_lent, e_result, i_result, r_params, r_lent⟩ := hx.ofSigD (h0 hc).1 (h0 hc).2
  exact ⟨f_params, fun _ => e_params, k _ fun _ => r_params⟩
 ·exact ⟨⟨none, 0, 0⟩, fun h => absurd h hc, k _ fun h => absurd h hc⟩
theorem ldg_sig_result {C : Prop} (hx : Src u w x l) (h0 : C → 0 ≤ i ∧ i < l.length) {K : Int → Prop} (k : K (nth l i).result) : ∃ n, (C → w.cell? ((elA x i 3).add 2) = some (.int .i64 n)) ∧ K n := by
 refine ⟨_, fun hc => ?_, k⟩
 obtain ⟨f_params, f_lent, e_params, e_lent, e_result, i_result, r_params, r_lent⟩ := hx.ofSigD (h0 hc).1 (h0 hc).2
 exact e_result
end

end Go.Vc

namespace Go.Vc
open Go Go.Proofs Go.RowKit
set_option linter.all false

/-- how much room a datum takes -/
class Cost (α : Type) where
 cost : α → Nat
def costL {α : Type} [Cost α] (l : List α) : Nat := l.length + (l.map Cost.cost).sum
instance : Cost ConD := ⟨fun c => c.fields.length⟩
section
variable {u v w : World} {x : Sl} {l : List ConD} {b i : Int}
end

instance : Cost DeclD := ⟨fun c => costL c.cons⟩
section
variable {u v w : World} {x : Sl} {l : List DeclD} {b i : Int}
end

instance : Cost InstrD := ⟨fun c => c.args.length + c.jumps.length⟩
section
variable {u v w : World} {x : Sl} {l : List InstrD} {b i : Int}
end

instance : Cost ProcD := ⟨fun c => c.params.length + c.lent.length + costL c.code⟩
section
variable {u v w : World} {x : Sl} {l : List ProcD} {b i : Int}
end

end Go.Vc

namespace Go.Vc
open Go Go.Proofs Go.RowKit
set_option linter.all false

section
variable {u v w : World} {x y : Sl} {l m : List ConD} {b i : Int}
end

section
variable {u v w : World} {x y : Sl} {l m : List DeclD} {b i : Int}
end

section
variable {u v w : World} {x y : Sl} {l m : List InstrD} {b i : Int}
end

section
variable {u v w : World} {x y : Sl} {l m : List ProcD} {b i : Int}
end

end Go.Vc

namespace Go.Vc
open Go Go.Proofs Go.RowKit
set_option linter.all false

/-- owned to the leaves as far as element i; what follows is as q says -/
def OwnG {α : Type} [DatO α] (q : Nat → List Value → Prop) (i : Nat) (x : Sl) (l : List α) (I : Items) : Prop :=
 ∃ (rows : List (List Value)) (I0 : Items) (Is : List Items), OSl (Dat.sz α) x rows I0 ∧ rows.length = l.length ∧ Is.length = i ∧ i ≤ l.length ∧
  (∀ (j : Nat) (r : List Value) (a : α) (K : Items), rows[j]? = some r → l[j]? = some a → Is[j]? = some K → DatO.own r a K) ∧ (∀ (j : Nat) (r : List Value), i ≤ j → rows[j]? = some r → q j r) ∧ I.Perm (I0 ++ Is.flatten) ∧ l.length ≤ BB

section
variable {α : Type} [DatO α] [Inhabited α] {u v w : World} {x y xf s t : Sl} {l ws fs pend : List Int} {h g : List α} {z z' : LazyD} {b m n k f : Int} {a : Addr} {I J K L R R1 : Items} {F F1 : Items → Items} {q : Nat → List Value → Prop}

theorem OwnG.start {rows : List (List Value)} (h1 : OSl (Dat.sz α) x rows I) (h2 : rows.length = h.length) (h3 : ∀ (j : Nat) (r : List Value), rows[j]? = some r → q j r) (hl : h.length ≤ BB) : OwnG q 0 x h I :=
 ⟨rows, I, [], h1, h2, rfl, Nat.zero_le _, fun j r a K _ _ hK => by simp at hK, fun j r _ hr => h3 j r hr, by simp, hl⟩
theorem OwnG.done (h : OwnG q g.length x g I) : OwnD x g I := by
 obtain ⟨rows, I0, Is, h1, h2, h3, _, h4, _, h5, h6⟩ := h
 exact ⟨rows, I0, Is, [], h1, h2, h3, h4, by simpa using h5, h6⟩
theorem OwnG.ix {i : Nat} (h : OwnG q i x g I) {j : Int} (h0 : 0 ≤ j) (h1 : j < g.length) : IxOk x j := by
 obtain ⟨rows, I0, Is, k1, k2, _⟩ := h
 cases k1 with
 | nil => simp at k2; omega
 | blk g o n c cur e _ hn hc hm hs hr => exact ⟨rfl, h0, by simp only [] at *; omega⟩
theorem OwnG.len_ {i : Nat} (h : OwnG q i x g I) : x.n = g.length := by
 obtain ⟨rows, I0, Is, k1, k2, _⟩ := h
 exact k1.len.trans k2

theorem OwnG.step {i : Int} (h : OwnG q i.toNat x g I) (hS : St u w (K ++ (I ++ R))) (h0 : 0 ≤ i) (hi : i < g.length) {off : Nat} {vals : List Value} (hv : off + vals.length ≤ Dat.sz α)
  (hown : ∀ r, q i.toNat r → DatO.own (putR r off vals) (nth g i) K) {Kt : World → Prop} (k : ∀ w' I', OwnG q (i + 1).toNat x g I' → St u w' (I' ++ R) → Kt w') : StoreAt w (elA x i (Dat.sz α)) off vals Kt := by
 obtain ⟨rows, I0, Is, k1, k2, k3, k4, k5, k6, k7, k8⟩ := h
 have hlt : i.toNat < rows.length := by omega
 have er := List.getElem?_eq_getElem hlt
 have hS1 : St u w (I0 ++ (Is.flatten ++ (K ++ R))) := hS.perm (by
  classical
  exact List.perm_iff_count.2 fun a => by have := k7.count_eq a; simp only [List.count_append] at *; omega)
 obtain ⟨c1, I0', c2, c3⟩ := k1.store hS1 h0 er hv
 refine ⟨c1, k _ (I0' ++ (Is ++ [K]).flatten) ⟨_, I0', Is ++ [K], c2, by simpa using k2, by simp; omega, by omega, fun j r a K' hr ha hK => ?_, fun j r hj hr => ?_, .refl _, k8⟩ (c3.perm (by
  classical
  exact List.perm_iff_count.2 fun a => by simp only [List.flatten_append, List.flatten_cons, List.flatten_nil, List.append_nil, List.count_append]; omega))⟩
 ·rw [List.getElem?_set] at hr
  split at hr
  ·rename_i e
   subst e
   rw [List.getElem?_append_right (by omega), show i.toNat - Is.length = 0 from by omega] at hK
   simp only [List.getElem?_cons_zero, Option.some.injEq] at hK hr
   subst hK
   subst hr
   have := nth_of (i := i) ha
   rw [← this]
   exact hown _ (k6 _ _ (Nat.le_refl _) er)
  ·rename_i e
   have hj : j < Is.length := by
    have := (List.getElem?_eq_some_iff.1 hK).1
    simp only [List.length_append, List.length_singleton] at this
    omega
   rw [List.getElem?_append_left hj] at hK
   exact k5 j r a K' hr ha hK
 ·rw [List.getElem?_set, if_neg (by omega)] at hr
  exact k6 j r (by omega) hr
end

instance : SlT Try.prog 85 1 24 [.slice none 0 0] := .of (by kernel_rfl) rfl (by decide)
section
variable {u v w : World} {x y : Sl} {l m : List ConD} {b i : Int}
end

instance : SlT Try.prog 23 3 40 [intV 0, intV 0, .slice none 0 0] := .of (by kernel_rfl) rfl (by decide)
section
variable {u v w : World} {x y : Sl} {l m : List DeclD} {b i : Int}
end

section
variable {u v w : World} {x y : Sl} {l m : List InstrD} {b i : Int}
end

section
variable {u v w : World} {x y : Sl} {l m : List ProcD} {b i : Int}
end

end Go.Vc
