/- Part of the proofs about the heaps and memories: a law is joined in the text whose name ends in W and the law. -/
import Derived.Test.YtojmcdmbkfigaaaGreatEQ5
namespace Go.Vc
open Go Go.Proofs Go.RowKit
set_option linter.all false
/-- a normal form as a datum -/
structure NrmD where
  decls : List DeclD
  routs : List RoutD
/-! ### reading, whatever the length -/
theorem shr_st {B : Nat} {w : World} {cs : List Value} {c : StepD} (H : ∀ k ∈ c.kids, ∀ {B : Nat} {w : World} {cs : List Value}, Dat.cells B w cs k → Cost.cost k ≤ 1099511627776 → Dat.cells BB w cs k) (h : Dat.cells B w cs c) (hc : Cost.cost c ≤ 1099511627776) : Dat.cells BB w cs c := by
  rw [cost_st] at hc
  obtain ⟨f, g, h0, i1, i2, i3, r1, r2⟩ := step_cells.1 h
  refine step_cells.2 ⟨f, g, h0, i1, i2, i3, r1.toInts (by show _ ≤ 1099511627776; omega), ?_⟩
  obtain ⟨rows, h1, h2, h3⟩ := r2
  unfold costL at hc
  exact ⟨rows, h1, ⟨h2.1, fun i r a hr ha => H a (List.mem_of_getElem? ha) (h2.2 i r a hr ha) (by have := cost_mem (List.mem_of_getElem? ha); omega)⟩, by show c.kids.length ≤ 1099511627776; omega⟩
theorem shr_bk (b : BlockD) : ∀ {B : Nat} {w : World} {cs : List Value}, Dat.cells B w cs b → Cost.cost b ≤ 1099511627776 → Dat.cells BB w cs b := by
  refine blk_ind (P := fun b => ∀ {B : Nat} {w : World} {cs : List Value}, Dat.cells B w cs b → Cost.cost b ≤ 1099511627776 → Dat.cells BB w cs b) (fun b ih => ?_) b
  intro B w cs h hc
  rw [cost_bk] at hc
  obtain ⟨f, h0, i1, r2⟩ := block_cells.1 h
  refine block_cells.2 ⟨f, h0, i1, ?_⟩
  obtain ⟨rows, h1, h2, h3⟩ := r2
  unfold costL at hc
  exact ⟨rows, h1, ⟨h2.1, fun i r a hr ha => shr_st (fun k hk => ih a (List.mem_of_getElem? ha) k hk) (h2.2 i r a hr ha) (by have := cost_mem (List.mem_of_getElem? ha); omega)⟩, by show b.steps.length ≤ 1099511627776; omega⟩
instance : Shr StepD := ⟨fun h hc => shr_st (fun k _ => shr_bk k) h hc⟩
instance : Shr RoutD := ⟨fun {B w cs a} ⟨f, g, k, h0, i1, i2, r1, r2, r3⟩ hc => by
  rw [cost_rt, cost_bk] at hc
  exact ⟨f, g, k, h0, i1, i2, r1.toInts (by show _ ≤ 1099511627776; omega), r2.toInts (by show _ ≤ 1099511627776; omega), r3.shr (by omega)⟩⟩
section
variable {u v w : World} {x y z t s : Sl} {l ws : List Int} {m m' : NrmD} {b n : Int} {a : Addr} {I J K L R : Items} {F : Items → Items}
end
end Go.Vc

namespace Go.Vc
open Go Go.Proofs Go.RowKit
set_option linter.all false
theorem l_ExactBalanced {v : World} {x y : Sl} {ds : List DeclD} {rs : List RoutD} (hx : ReadB BM v x ds) (hy : ReadB BM v y rs) :
    Trip Tryz.prog 4 #[.agg #[x.val, y.val]] v fun r v' => r = .bool true ∧ Sub v v' := by
  refine of4 _ _ _ _ ?_
  unfold vc4
  refine ⟨_, c_szNormal (b := 1048576) hx hy (by omega) (by omega), fun hc => ⟨rfl, .refl v⟩, fun hc => ?_⟩
  simp only [bls] at hc
  obtain ⟨b1, b2⟩ := szI_le hc
  replace hx : Read v x ds := hx.shr (by omega)
  replace hy : Read v y rs := hy.shr (by omega)
  refine Mk.use (c_toNormal hx hy) (.refl v) ?_
  rintro _ w1 _ ⟨x1, y1, J1, J2, rfl, h1, h2, rfl⟩ hS _
  replace hS : St v w1 (J1 ++ (J2 ++ [])) := hS.perm (by
    classical
    exact List.perm_iff_count.2 fun a => by (try simp only [List.count_append, List.count_nil]) <;> omega)
  refine ⟨_, _, rfl, ?_⟩
  refine Fn.use (c_BalancedS (h1.read hS) (h2.read hS)) hS ?_
  intro w2 hS _
  refine ⟨_, rfl, ?_⟩
  refine Mk.use (c_toNormal hx hy) hS ?_
  rintro _ w3 _ ⟨x2, y2, J3, J4, rfl, h3, h4, rfl⟩ hS _
  replace hS : St v w3 (J3 ++ (J4 ++ (J1 ++ (J2 ++ [])))) := hS.perm (by
    classical
    exact List.perm_iff_count.2 fun a => by (try simp only [List.count_append, List.count_nil]) <;> omega)
  refine ⟨_, _, rfl, ?_⟩
  refine Fn.use (c_BalancedI (h3.read hS) (h4.read hS)) hS ?_
  intro w4 hS _
  refine ⟨_, rfl, fun hc => by simp at hc, fun _ => ?_⟩
  refine Mk.use (c_toNormal hx hy) hS ?_
  rintro _ w5 _ ⟨x3, y3, J5, J6, rfl, h5, h6, rfl⟩ hS hsub
  replace hS : St v w5 (J3 ++ (J4 ++ (J5 ++ (J6 ++ (J1 ++ (J2 ++ [])))))) := hS.perm (by
    classical
    exact List.perm_iff_count.2 fun a => by (try simp only [List.count_append, List.count_nil]) <;> omega)
  refine ⟨_, _, rfl, hsub, _, c_eqNormal (h3.read hS) (h4.read hS) (h5.read hS) (h6.read hS), fun hc => ?_, fun _ => ⟨rfl, hS.sub⟩⟩
  simp at hc
end Go.Vc
