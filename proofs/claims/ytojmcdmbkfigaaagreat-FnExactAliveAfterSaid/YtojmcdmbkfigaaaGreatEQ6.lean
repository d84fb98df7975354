/- Part of the proofs about the heaps and memories: a law is joined in the text whose name ends in W and the law. -/
import Derived.Test.YtojmcdmbkfigaaaGreatEQ5
namespace Go.Vc
open Go Go.Proofs Go.RowKit
set_option linter.all false
/-- a normal form as a datum -/
structure NrmD where
  decls : List DeclD
  routs : List RoutD
def markNm (m : NrmD) : NrmD := ⟨markL 1 m.decls, markL (1 + rooms m.decls) m.routs⟩
def endNm (m : NrmD) : Int := 1 + rooms m.decls + rooms m.routs
def RcB (b : BlockD) : Prop := rooms b.steps ≤ 4 * costL b.steps
theorem roomsKs : ∀ l : List BlockD, (∀ b ∈ l, RcB b) → rooms l ≤ 4 * costL l
  | [], _ => by simp [rooms, costL]
  | b :: r, h => by
    have h1 := h b (by simp)
    have h2 := roomsKs r fun k hk => h k (by simp [hk])
    rw [rooms_cons, room_Block, ← costKs_eq, costKs, costKs_eq]
    have h3 : costBk b = costL b.steps := cost_bk b
    unfold RcB at h1
    omega
theorem roomsSs : ∀ l : List StepD, (∀ s ∈ l, ∀ k ∈ s.kids, RcB k) → rooms l ≤ 4 * costL l
  | [], _ => by simp [rooms, costL]
  | s :: r, h => by
    have h1 := roomsKs s.kids (h s (by simp))
    have h2 := roomsSs r fun k hk => h k (by simp [hk])
    rw [rooms_cons, room_Step, ← costSs_eq, costSs, costSs_eq]
    have h3 : costSt s = s.args.length + costL s.kids := cost_st s
    omega
theorem roomsB (b : BlockD) : RcB b := blk_ind (P := RcB) (fun b ih => roomsSs b.steps ih) b
theorem roomsR (l : List RoutD) : rooms l ≤ 4 * costL l := rooms_cost (fun a => by
  rw [room_Routine, cost_rt, cost_bk]
  have := roomsB a.body
  unfold RcB at this
  omega) l
theorem endNm_le {m : NrmD} (h : costL m.decls + costL m.routs ≤ 1048576) : endNm m ≤ 100000000 := by
  have h1 := roomsD m.decls
  have h2 := roomsR m.routs
  unfold endNm
  omega
theorem endNm_pos (m : NrmD) : 1 ≤ endNm m := by unfold endNm; omega
/-! ### reading, whatever the length -/
theorem shr_st {B : Nat} {w : World} {cs : List Value} {c : StepD} (H : ∀ k ∈ c.kids, ∀ {B : Nat} {w : World} {cs : List Value}, Dat.cells B w cs k → Cost.cost k ≤ 1099511627776 → Dat.cells BB w cs k) (h : Dat.cells B w cs c) (hc : Cost.cost c ≤ 1099511627776) : Dat.cells BB w cs c := by
  rw [cost_st] at hc
  obtain ⟨f, g, h0, i1, i2, i3, r1, r2⟩ := step_cells.1 h
  refine step_cells.2 ⟨f, g, h0, i1, i2, i3, r1.toInts (by show _ ≤ 1099511627776; omega), ?_⟩
  obtain ⟨rows, h1, h2, h3⟩ := r2
  unfold costL at hc
  exact ⟨rows, h1, ⟨h2.1, fun i r a hr ha => H a (List.mem_of_getElem? ha) (h2.2 i r a hr ha) (by have := cost_mem (List.mem_of_getElem? ha); omega)⟩, by show c.kids.length ≤ 1099511627776; omega⟩
theorem shr_bk (b : BlockD) : ∀ {B : Nat} {w : World} {cs : List Value}, Dat.cells B w cs b → Cost.cost b ≤ 1099511627776 → Dat.cells BB w cs b := by
  refine blk_ind (P := fun b => ∀ {B : Nat} {w : World} {cs : List Value}, Dat.cells B w cs b → Cost.cost b ≤ 1099511627776 → Dat.cells BB w cs b) (fun b ih => ?_) b
  intro B w cs h hc
  rw [cost_bk] at hc
  obtain ⟨f, h0, i1, r2⟩ := block_cells.1 h
  refine block_cells.2 ⟨f, h0, i1, ?_⟩
  obtain ⟨rows, h1, h2, h3⟩ := r2
  unfold costL at hc
  exact ⟨rows, h1, ⟨h2.1, fun i r a hr ha => shr_st (fun k hk => ih a (List.mem_of_getElem? ha) k hk) (h2.2 i r a hr ha) (by have := cost_mem (List.mem_of_getElem? ha); omega)⟩, by show b.steps.length ≤ 1099511627776; omega⟩
instance : Shr StepD := ⟨fun h hc => shr_st (fun k _ => shr_bk k) h hc⟩
instance : Shr RoutD := ⟨fun {B w cs a} ⟨f, g, k, h0, i1, i2, r1, r2, r3⟩ hc => by
  rw [cost_rt, cost_bk] at hc
  exact ⟨f, g, k, h0, i1, i2, r1.toInts (by show _ ≤ 1099511627776; omega), r2.toInts (by show _ ≤ 1099511627776; omega), r3.shr (by omega)⟩⟩
section
variable {u v w : World} {x y z t s : Sl} {l ws : List Int} {m m' : NrmD} {b n : Int} {a : Addr} {I J K L R : Items} {F : Items → Items}
theorem c_toNormalM (hx : Read v x m.decls) (hy : Read v y m.routs) : Mk Tryz.prog 10 #[.agg #[x.val, y.val]] v fun r J => ∃ t s I K, r = .agg #[t.val, s.val] ∧ OwnD t m.decls I ∧ OwnD s m.routs K ∧ J = I ++ K := c_toNormal hx hy
theorem c_eqNormalM (hx : Read v x m.decls) (hy : Read v y m.routs) (hz : Read v z m'.decls) (ht : Read v t m'.routs) : Fn Tryz.prog 12 #[.agg #[x.val, y.val], .agg #[z.val, t.val]] v (.bool (decide (m.decls = m'.decls) && decide (m.routs = m'.routs))) := c_eqNormal hx hy hz ht
theorem c_markNormalM (hO : OwnD x m.decls I) (hP : OwnD y m.routs J) (hS : St u w (I ++ (J ++ R))) (hn : endNm m ≤ 1000000000000000) :
    Trip Tryz.prog 18 #[.agg #[x.val, y.val], .int .i64 1] w fun r w' => ∃ I' J', r = .int .i64 (endNm m) ∧ OwnD x (markNm m).decls I' ∧ OwnD y (markNm m).routs J' ∧ St u w' (I' ++ (J' ++ R)) := by
  refine of18 _ _ _ _ _ ?_
  unfold vc18
  unfold endNm at hn
  refine Trip.mono' (c_markDeclS hO hS (by omega) (by omega)) ?_
  rintro _ w1 ⟨I1, rfl, h1, hS⟩
  refine ⟨_, rfl, ?_⟩
  replace hS : St u w1 (J ++ (I1 ++ R)) := hS.perm (by
    classical
    exact List.perm_iff_count.2 fun a => by simp only [List.count_append]; omega)
  refine Trip.mono' (c_markRoutineS hP hS (by omega) (by omega)) ?_
  rintro _ w2 ⟨J1, rfl, h2, hS⟩
  refine ⟨_, rfl, I1, J1, rfl, h1, h2, hS.perm (by
    classical
    exact List.perm_iff_count.2 fun a => by simp only [List.count_append]; omega)⟩
end
end Go.Vc

namespace Go.Vc
open Go Go.Proofs Go.RowKit
set_option linter.all false
theorem c_specKeptAfterN {v : World} {x y : Sl} {m : NrmD} {f k : Int} (hx : Read v x m.decls) (hy : Read v y m.routs) : Mk Tryz.prog 15 #[.agg #[x.val, y.val], .int .i64 f, .int .i64 k] v fun r J => ∃ z, r = z.val ∧ OwnI z (tokA m.decls m.routs f k) J := c_KeptAfterS hx hy
theorem c_implKeptAfterN {v : World} {x y : Sl} {m : NrmD} {f k : Int} (hx : Read v x m.decls) (hy : Read v y m.routs) : Mk Tryz.prog 16 #[.agg #[x.val, y.val], .int .i64 f, .int .i64 k] v fun r J => ∃ z, r = z.val ∧ OwnI z (tokA m.decls m.routs f k) J := c_KeptAfterI hx hy
theorem l_ExactKeptAfter {v : World} {x y : Sl} {m : NrmD} {f k : Int} (hx : ReadB BM v x m.decls) (hy : ReadB BM v y m.routs) :
    Trip Tryz.prog 5 #[.agg #[x.val, y.val], .int .i64 f, .int .i64 k] v fun r v' => r = .bool true ∧ Sub v v' := by
  refine of5 _ _ _ _ _ _ ?_
  unfold vc5
  refine ⟨_, c_szNormal (b := 1048576) hx hy (by omega) (by omega), fun hc => ⟨rfl, .refl v⟩, fun hc => ?_⟩
  simp only [bls] at hc
  obtain ⟨b1, b2⟩ := szI_le hc
  replace hx : Read v x m.decls := hx.shr (by omega)
  replace hy : Read v y m.routs := hy.shr (by omega)
  have hendA : endNm m ≤ 100000000 := endNm_le (by omega)
  have hendA2 : 1 ≤ endNm m := endNm_pos m
  refine Mk.use (c_toNormalM hx hy) (.refl v) ?_
  rintro _ w1 _ ⟨x2, x3, J4, J5, rfl, h6, h7, rfl⟩ hS hsub
  replace hS : St v w1 (J4 ++ (J5 ++ [])) := hS.perm (by
    classical
    exact List.perm_iff_count.2 fun a => by (try simp only [List.count_append, List.count_nil]) <;> omega)
  refine ⟨_, _, rfl, ?_⟩
  replace hS : St v w1 ((J4 ++ (J5 ++ [])) ++ ([])) := hS.perm (by
    classical
    exact List.perm_iff_count.2 fun a => by (try simp only [List.count_append, List.count_nil]) <;> omega)
  obtain ⟨u8, hsu8, hS, hJ⟩ := hS.freeze (J4 ++ (J5 ++ []))
  have r9 : Read u8 x2 (m.decls) := OwnD.read1 h6 (hJ.to : St v u8 (J4 ++ [])).left
  have r10 : Read u8 x3 (m.routs) := OwnD.read1 h7 (hJ.to : St v u8 (J5 ++ [])).left
  clear hJ
  refine Mk.use (c_specKeptAfterN (m := m) r9 r10 ) hS ?_
  rintro _ w14 J13 ⟨x11, rfl, h12⟩ hS hsub
  replace hS : St u8 w14 (J13 ++ []) := hS.perm (by
    classical
    exact List.perm_iff_count.2 fun a => by (try simp only [List.count_append, List.count_nil]) <;> omega)
  replace hS : St u8 w14 ((J13 ++ []) ++ ([])) := hS.perm (by
    classical
    exact List.perm_iff_count.2 fun a => by (try simp only [List.count_append, List.count_nil]) <;> omega)
  obtain ⟨u15, hsu15, hS, hJ⟩ := hS.freeze (J13 ++ [])
  have r16 : Read u15 x11 ((tokA m.decls m.routs f k)) := OwnI.read1 (u := u8) h12 (hJ.to : St u8 u15 (J13 ++ [])).left
  clear hJ
  have hvu : Sub v u15 := hsu8.trans hsu15
  replace hx := hx.mono hvu
  replace hy := hy.mono hvu
  refine ⟨_, rfl, ?_⟩
  refine Mk.use (c_toNormalM hx hy) hS ?_
  rintro _ w17 _ ⟨x18, x19, J20, J21, rfl, h22, h23, rfl⟩ hS hsub
  replace hS : St u15 w17 (J20 ++ (J21 ++ [])) := hS.perm (by
    classical
    exact List.perm_iff_count.2 fun a => by (try simp only [List.count_append, List.count_nil]) <;> omega)
  refine ⟨_, _, rfl, ?_⟩
  refine Mk.usew (c_implKeptAfterN (m := m) (OwnD.read h22 hS) (OwnD.read h23 hS) ) hS ?_
  rintro _ w27 J26 ⟨x24, rfl, h25⟩ hS hsub
  replace hS : St u15 w27 (J26 ++ (J20 ++ (J21 ++ []))) := hS.perm (by
    classical
    exact List.perm_iff_count.2 fun a => by (try simp only [List.count_append, List.count_nil]) <;> omega)
  refine ⟨_, rfl, _, c_eqIntS (l := (tokA m.decls m.routs f k)) (ws := (tokA m.decls m.routs f k)) (OwnI.read h25 hS) (r16.mono hS.sub), fun hc => ?_, fun _ => ?_⟩
  · simp at hc
  refine Mk.use (c_toNormalM hx hy) hS ?_
  rintro _ w28 _ ⟨x29, x30, J31, J32, rfl, h33, h34, rfl⟩ hS hsub
  replace hS : St u15 w28 (J31 ++ (J32 ++ (J26 ++ (J20 ++ (J21 ++ []))))) := hS.perm (by
    classical
    exact List.perm_iff_count.2 fun a => by (try simp only [List.count_append, List.count_nil]) <;> omega)
  refine ⟨_, _, rfl, hsub, _, c_eqNormalM (m := m) (m' := m) (OwnD.read h22 hS) (OwnD.read h23 hS) (OwnD.read h33 hS) (OwnD.read h34 hS), fun hc => ?_, fun _ => ?_⟩
  · simp at hc
  replace hS : St u15 w28 (J26 ++ (J20 ++ (J21 ++ []))) := hS.to
  replace hS : St u15 w28 (J20 ++ (J21 ++ (J26 ++ []))) := hS.perm (by
    classical
    exact List.perm_iff_count.2 fun a => by (try simp only [List.count_append, List.count_nil]) <;> omega)
  refine Trip.mono' (c_markNormalM (m := m) h22 h23 hS (by omega)) ?_
  rintro _ w39 ⟨J35, J36, rfl, h37, h38, hS⟩
  refine ⟨_, rfl, _, fun _ => c_eqIntS (l := (tokA m.decls m.routs f k)) (ws := (tokA m.decls m.routs f k)) (OwnI.read h25 hS) (r16.mono hS.sub), fun hc => ?_, fun _ => ?_⟩
  · simp at hc
    omega
  replace hS : St u15 w39 (J26 ++ []) := hS.to
  replace hS : St u15 w39 (J26 ++ []) := hS.perm (by
    classical
    exact List.perm_iff_count.2 fun a => by (try simp only [List.count_append, List.count_nil]) <;> omega)
  refine Trip.mono' (c_markIntSI (l := (tokA m.decls m.routs f k)) h25 hS (by omega) (by omega)) ?_
  rintro _ w42 ⟨J40, rfl, h41, hS⟩
  refine ⟨_, rfl, _, c_heldIntS (OwnI.read h41 hS) (by omega) (by omega), fun hc => ?_, fun _ => ⟨fun hc => ?_, fun _ => ?_⟩⟩
  · simp only [bls] at hc; omega
  · simp at hc
  refine Mk.use (c_toNormalM hx hy) hS ?_
  rintro _ w43 _ ⟨x44, x45, J46, J47, rfl, h48, h49, rfl⟩ hS hsub
  replace hS : St u15 w43 (J46 ++ (J47 ++ (J40 ++ []))) := hS.perm (by
    classical
    exact List.perm_iff_count.2 fun a => by (try simp only [List.count_append, List.count_nil]) <;> omega)
  refine ⟨_, _, rfl, ?_⟩
  refine Mk.usew (c_implKeptAfterN (m := m) (OwnD.read h48 hS) (OwnD.read h49 hS) ) hS ?_
  rintro _ w53 J52 ⟨x50, rfl, h51⟩ hS hsub
  replace hS : St u15 w53 (J52 ++ (J46 ++ (J47 ++ (J40 ++ [])))) := hS.perm (by
    classical
    exact List.perm_iff_count.2 fun a => by (try simp only [List.count_append, List.count_nil]) <;> omega)
  refine ⟨_, rfl, _, c_eqIntS (l := (tokA m.decls m.routs f k)) (ws := (tokA m.decls m.routs f k)) (OwnI.read h51 hS) (r16.mono hS.sub), fun hc => ?_, fun _ => ?_⟩
  · simp at hc
  refine ⟨_, c_heldIntS (OwnI.read h41 hS) (by omega) (by omega), fun hc => ?_, fun _ => ⟨fun hc => ?_, fun _ => ⟨rfl, hvu.trans hS.sub⟩⟩⟩
  · simp only [bls] at hc; omega
  · simp at hc
theorem c_specOwnedAfterN {v : World} {x y : Sl} {m : NrmD} {f k : Int} (hx : Read v x m.decls) (hy : Read v y m.routs) : Mk Tryz.prog 21 #[.agg #[x.val, y.val], .int .i64 f, .int .i64 k] v fun r J => ∃ z, r = z.val ∧ OwnI z (ownA m.decls m.routs f k) J := c_OwnedAfterS hx hy
theorem c_implOwnedAfterN {v : World} {x y : Sl} {m : NrmD} {f k : Int} (hx : Read v x m.decls) (hy : Read v y m.routs) : Mk Tryz.prog 22 #[.agg #[x.val, y.val], .int .i64 f, .int .i64 k] v fun r J => ∃ z, r = z.val ∧ OwnI z (ownA m.decls m.routs f k) J := c_OwnedAfterI hx hy
theorem l_ExactOwnedAfter {v : World} {x y : Sl} {m : NrmD} {f k : Int} (hx : ReadB BM v x m.decls) (hy : ReadB BM v y m.routs) :
    Trip Tryz.prog 6 #[.agg #[x.val, y.val], .int .i64 f, .int .i64 k] v fun r v' => r = .bool true ∧ Sub v v' := by
  refine of6 _ _ _ _ _ _ ?_
  unfold vc6
  refine ⟨_, c_szNormal (b := 1048576) hx hy (by omega) (by omega), fun hc => ⟨rfl, .refl v⟩, fun hc => ?_⟩
  simp only [bls] at hc
  obtain ⟨b1, b2⟩ := szI_le hc
  replace hx : Read v x m.decls := hx.shr (by omega)
  replace hy : Read v y m.routs := hy.shr (by omega)
  have hendA : endNm m ≤ 100000000 := endNm_le (by omega)
  have hendA2 : 1 ≤ endNm m := endNm_pos m
  refine Mk.use (c_toNormalM hx hy) (.refl v) ?_
  rintro _ w1 _ ⟨x2, x3, J4, J5, rfl, h6, h7, rfl⟩ hS hsub
  replace hS : St v w1 (J4 ++ (J5 ++ [])) := hS.perm (by
    classical
    exact List.perm_iff_count.2 fun a => by (try simp only [List.count_append, List.count_nil]) <;> omega)
  refine ⟨_, _, rfl, ?_⟩
  replace hS : St v w1 ((J4 ++ (J5 ++ [])) ++ ([])) := hS.perm (by
    classical
    exact List.perm_iff_count.2 fun a => by (try simp only [List.count_append, List.count_nil]) <;> omega)
  obtain ⟨u8, hsu8, hS, hJ⟩ := hS.freeze (J4 ++ (J5 ++ []))
  have r9 : Read u8 x2 (m.decls) := OwnD.read1 h6 (hJ.to : St v u8 (J4 ++ [])).left
  have r10 : Read u8 x3 (m.routs) := OwnD.read1 h7 (hJ.to : St v u8 (J5 ++ [])).left
  clear hJ
  refine Mk.use (c_specOwnedAfterN (m := m) r9 r10 ) hS ?_
  rintro _ w14 J13 ⟨x11, rfl, h12⟩ hS hsub
  replace hS : St u8 w14 (J13 ++ []) := hS.perm (by
    classical
    exact List.perm_iff_count.2 fun a => by (try simp only [List.count_append, List.count_nil]) <;> omega)
  replace hS : St u8 w14 ((J13 ++ []) ++ ([])) := hS.perm (by
    classical
    exact List.perm_iff_count.2 fun a => by (try simp only [List.count_append, List.count_nil]) <;> omega)
  obtain ⟨u15, hsu15, hS, hJ⟩ := hS.freeze (J13 ++ [])
  have r16 : Read u15 x11 ((ownA m.decls m.routs f k)) := OwnI.read1 (u := u8) h12 (hJ.to : St u8 u15 (J13 ++ [])).left
  clear hJ
  have hvu : Sub v u15 := hsu8.trans hsu15
  replace hx := hx.mono hvu
  replace hy := hy.mono hvu
  refine ⟨_, rfl, ?_⟩
  refine Mk.use (c_toNormalM hx hy) hS ?_
  rintro _ w17 _ ⟨x18, x19, J20, J21, rfl, h22, h23, rfl⟩ hS hsub
  replace hS : St u15 w17 (J20 ++ (J21 ++ [])) := hS.perm (by
    classical
    exact List.perm_iff_count.2 fun a => by (try simp only [List.count_append, List.count_nil]) <;> omega)
  refine ⟨_, _, rfl, ?_⟩
  refine Mk.usew (c_implOwnedAfterN (m := m) (OwnD.read h22 hS) (OwnD.read h23 hS) ) hS ?_
  rintro _ w27 J26 ⟨x24, rfl, h25⟩ hS hsub
  replace hS : St u15 w27 (J26 ++ (J20 ++ (J21 ++ []))) := hS.perm (by
    classical
    exact List.perm_iff_count.2 fun a => by (try simp only [List.count_append, List.count_nil]) <;> omega)
  refine ⟨_, rfl, _, c_eqIntS (l := (ownA m.decls m.routs f k)) (ws := (ownA m.decls m.routs f k)) (OwnI.read h25 hS) (r16.mono hS.sub), fun hc => ?_, fun _ => ?_⟩
  · simp at hc
  refine Mk.use (c_toNormalM hx hy) hS ?_
  rintro _ w28 _ ⟨x29, x30, J31, J32, rfl, h33, h34, rfl⟩ hS hsub
  replace hS : St u15 w28 (J31 ++ (J32 ++ (J26 ++ (J20 ++ (J21 ++ []))))) := hS.perm (by
    classical
    exact List.perm_iff_count.2 fun a => by (try simp only [List.count_append, List.count_nil]) <;> omega)
  refine ⟨_, _, rfl, hsub, _, c_eqNormalM (m := m) (m' := m) (OwnD.read h22 hS) (OwnD.read h23 hS) (OwnD.read h33 hS) (OwnD.read h34 hS), fun hc => ?_, fun _ => ?_⟩
  · simp at hc
  replace hS : St u15 w28 (J26 ++ (J20 ++ (J21 ++ []))) := hS.to
  replace hS : St u15 w28 (J20 ++ (J21 ++ (J26 ++ []))) := hS.perm (by
    classical
    exact List.perm_iff_count.2 fun a => by (try simp only [List.count_append, List.count_nil]) <;> omega)
  refine Trip.mono' (c_markNormalM (m := m) h22 h23 hS (by omega)) ?_
  rintro _ w39 ⟨J35, J36, rfl, h37, h38, hS⟩
  refine ⟨_, rfl, _, fun _ => c_eqIntS (l := (ownA m.decls m.routs f k)) (ws := (ownA m.decls m.routs f k)) (OwnI.read h25 hS) (r16.mono hS.sub), fun hc => ?_, fun _ => ?_⟩
  · simp at hc
    omega
  replace hS : St u15 w39 (J26 ++ []) := hS.to
  replace hS : St u15 w39 (J26 ++ []) := hS.perm (by
    classical
    exact List.perm_iff_count.2 fun a => by (try simp only [List.count_append, List.count_nil]) <;> omega)
  refine Trip.mono' (c_markIntSI (l := (ownA m.decls m.routs f k)) h25 hS (by omega) (by omega)) ?_
  rintro _ w42 ⟨J40, rfl, h41, hS⟩
  refine ⟨_, rfl, _, c_heldIntS (OwnI.read h41 hS) (by omega) (by omega), fun hc => ?_, fun _ => ⟨fun hc => ?_, fun _ => ?_⟩⟩
  · simp only [bls] at hc; omega
  · simp at hc
  refine Mk.use (c_toNormalM hx hy) hS ?_
  rintro _ w43 _ ⟨x44, x45, J46, J47, rfl, h48, h49, rfl⟩ hS hsub
  replace hS : St u15 w43 (J46 ++ (J47 ++ (J40 ++ []))) := hS.perm (by
    classical
    exact List.perm_iff_count.2 fun a => by (try simp only [List.count_append, List.count_nil]) <;> omega)
  refine ⟨_, _, rfl, ?_⟩
  refine Mk.usew (c_implOwnedAfterN (m := m) (OwnD.read h48 hS) (OwnD.read h49 hS) ) hS ?_
  rintro _ w53 J52 ⟨x50, rfl, h51⟩ hS hsub
  replace hS : St u15 w53 (J52 ++ (J46 ++ (J47 ++ (J40 ++ [])))) := hS.perm (by
    classical
    exact List.perm_iff_count.2 fun a => by (try simp only [List.count_append, List.count_nil]) <;> omega)
  refine ⟨_, rfl, _, c_eqIntS (l := (ownA m.decls m.routs f k)) (ws := (ownA m.decls m.routs f k)) (OwnI.read h51 hS) (r16.mono hS.sub), fun hc => ?_, fun _ => ?_⟩
  · simp at hc
  refine ⟨_, c_heldIntS (OwnI.read h41 hS) (by omega) (by omega), fun hc => ?_, fun _ => ⟨fun hc => ?_, fun _ => ⟨rfl, hvu.trans hS.sub⟩⟩⟩
  · simp only [bls] at hc; omega
  · simp at hc
theorem c_specAliveAfterN {v : World} {x y : Sl} {m : NrmD} {f k : Int} (hx : Read v x m.decls) (hy : Read v y m.routs) : Mk Tryz.prog 23 #[.agg #[x.val, y.val], .int .i64 f, .int .i64 k] v fun r J => ∃ z, r = z.val ∧ OwnI z (alvA m.decls m.routs f k) J := c_AliveAfterS hx hy
theorem c_implAliveAfterN {v : World} {x y : Sl} {m : NrmD} {f k : Int} (hx : Read v x m.decls) (hy : Read v y m.routs) : Mk Tryz.prog 24 #[.agg #[x.val, y.val], .int .i64 f, .int .i64 k] v fun r J => ∃ z, r = z.val ∧ OwnI z (alvA m.decls m.routs f k) J := c_AliveAfterI hx hy
theorem l_ExactAliveAfter {v : World} {x y : Sl} {m : NrmD} {f k : Int} (hx : ReadB BM v x m.decls) (hy : ReadB BM v y m.routs) :
    Trip Tryz.prog 7 #[.agg #[x.val, y.val], .int .i64 f, .int .i64 k] v fun r v' => r = .bool true ∧ Sub v v' := by
  refine of7 _ _ _ _ _ _ ?_
  unfold vc7
  refine ⟨_, c_szNormal (b := 1048576) hx hy (by omega) (by omega), fun hc => ⟨rfl, .refl v⟩, fun hc => ?_⟩
  simp only [bls] at hc
  obtain ⟨b1, b2⟩ := szI_le hc
  replace hx : Read v x m.decls := hx.shr (by omega)
  replace hy : Read v y m.routs := hy.shr (by omega)
  have hendA : endNm m ≤ 100000000 := endNm_le (by omega)
  have hendA2 : 1 ≤ endNm m := endNm_pos m
  refine Mk.use (c_toNormalM hx hy) (.refl v) ?_
  rintro _ w1 _ ⟨x2, x3, J4, J5, rfl, h6, h7, rfl⟩ hS hsub
  replace hS : St v w1 (J4 ++ (J5 ++ [])) := hS.perm (by
    classical
    exact List.perm_iff_count.2 fun a => by (try simp only [List.count_append, List.count_nil]) <;> omega)
  refine ⟨_, _, rfl, ?_⟩
  replace hS : St v w1 ((J4 ++ (J5 ++ [])) ++ ([])) := hS.perm (by
    classical
    exact List.perm_iff_count.2 fun a => by (try simp only [List.count_append, List.count_nil]) <;> omega)
  obtain ⟨u8, hsu8, hS, hJ⟩ := hS.freeze (J4 ++ (J5 ++ []))
  have r9 : Read u8 x2 (m.decls) := OwnD.read1 h6 (hJ.to : St v u8 (J4 ++ [])).left
  have r10 : Read u8 x3 (m.routs) := OwnD.read1 h7 (hJ.to : St v u8 (J5 ++ [])).left
  clear hJ
  refine Mk.use (c_specAliveAfterN (m := m) r9 r10 ) hS ?_
  rintro _ w14 J13 ⟨x11, rfl, h12⟩ hS hsub
  replace hS : St u8 w14 (J13 ++ []) := hS.perm (by
    classical
    exact List.perm_iff_count.2 fun a => by (try simp only [List.count_append, List.count_nil]) <;> omega)
  replace hS : St u8 w14 ((J13 ++ []) ++ ([])) := hS.perm (by
    classical
    exact List.perm_iff_count.2 fun a => by (try simp only [List.count_append, List.count_nil]) <;> omega)
  obtain ⟨u15, hsu15, hS, hJ⟩ := hS.freeze (J13 ++ [])
  have r16 : Read u15 x11 ((alvA m.decls m.routs f k)) := OwnI.read1 (u := u8) h12 (hJ.to : St u8 u15 (J13 ++ [])).left
  clear hJ
  have hvu : Sub v u15 := hsu8.trans hsu15
  replace hx := hx.mono hvu
  replace hy := hy.mono hvu
  refine ⟨_, rfl, ?_⟩
  refine Mk.use (c_toNormalM hx hy) hS ?_
  rintro _ w17 _ ⟨x18, x19, J20, J21, rfl, h22, h23, rfl⟩ hS hsub
  replace hS : St u15 w17 (J20 ++ (J21 ++ [])) := hS.perm (by
    classical
    exact List.perm_iff_count.2 fun a => by (try simp only [List.count_append, List.count_nil]) <;> omega)
  refine ⟨_, _, rfl, ?_⟩
  refine Mk.usew (c_implAliveAfterN (m := m) (OwnD.read h22 hS) (OwnD.read h23 hS) ) hS ?_
  rintro _ w27 J26 ⟨x24, rfl, h25⟩ hS hsub
  replace hS : St u15 w27 (J26 ++ (J20 ++ (J21 ++ []))) := hS.perm (by
    classical
    exact List.perm_iff_count.2 fun a => by (try simp only [List.count_append, List.count_nil]) <;> omega)
  refine ⟨_, rfl, _, c_eqIntS (l := (alvA m.decls m.routs f k)) (ws := (alvA m.decls m.routs f k)) (OwnI.read h25 hS) (r16.mono hS.sub), fun hc => ?_, fun _ => ?_⟩
  · simp at hc
  refine Mk.use (c_toNormalM hx hy) hS ?_
  rintro _ w28 _ ⟨x29, x30, J31, J32, rfl, h33, h34, rfl⟩ hS hsub
  replace hS : St u15 w28 (J31 ++ (J32 ++ (J26 ++ (J20 ++ (J21 ++ []))))) := hS.perm (by
    classical
    exact List.perm_iff_count.2 fun a => by (try simp only [List.count_append, List.count_nil]) <;> omega)
  refine ⟨_, _, rfl, hsub, _, c_eqNormalM (m := m) (m' := m) (OwnD.read h22 hS) (OwnD.read h23 hS) (OwnD.read h33 hS) (OwnD.read h34 hS), fun hc => ?_, fun _ => ?_⟩
  · simp at hc
  replace hS : St u15 w28 (J26 ++ (J20 ++ (J21 ++ []))) := hS.to
  replace hS : St u15 w28 (J20 ++ (J21 ++ (J26 ++ []))) := hS.perm (by
    classical
    exact List.perm_iff_count.2 fun a => by (try simp only [List.count_append, List.count_nil]) <;> omega)
  refine Trip.mono' (c_markNormalM (m := m) h22 h23 hS (by omega)) ?_
  rintro _ w39 ⟨J35, J36, rfl, h37, h38, hS⟩
  refine ⟨_, rfl, _, fun _ => c_eqIntS (l := (alvA m.decls m.routs f k)) (ws := (alvA m.decls m.routs f k)) (OwnI.read h25 hS) (r16.mono hS.sub), fun hc => ?_, fun _ => ?_⟩
  · simp at hc
    omega
  replace hS : St u15 w39 (J26 ++ []) := hS.to
  replace hS : St u15 w39 (J26 ++ []) := hS.perm (by
    classical
    exact List.perm_iff_count.2 fun a => by (try simp only [List.count_append, List.count_nil]) <;> omega)
  refine Trip.mono' (c_markIntSI (l := (alvA m.decls m.routs f k)) h25 hS (by omega) (by omega)) ?_
  rintro _ w42 ⟨J40, rfl, h41, hS⟩
  refine ⟨_, rfl, _, c_heldIntS (OwnI.read h41 hS) (by omega) (by omega), fun hc => ?_, fun _ => ⟨fun hc => ?_, fun _ => ?_⟩⟩
  · simp only [bls] at hc; omega
  · simp at hc
  refine Mk.use (c_toNormalM hx hy) hS ?_
  rintro _ w43 _ ⟨x44, x45, J46, J47, rfl, h48, h49, rfl⟩ hS hsub
  replace hS : St u15 w43 (J46 ++ (J47 ++ (J40 ++ []))) := hS.perm (by
    classical
    exact List.perm_iff_count.2 fun a => by (try simp only [List.count_append, List.count_nil]) <;> omega)
  refine ⟨_, _, rfl, ?_⟩
  refine Mk.usew (c_implAliveAfterN (m := m) (OwnD.read h48 hS) (OwnD.read h49 hS) ) hS ?_
  rintro _ w53 J52 ⟨x50, rfl, h51⟩ hS hsub
  replace hS : St u15 w53 (J52 ++ (J46 ++ (J47 ++ (J40 ++ [])))) := hS.perm (by
    classical
    exact List.perm_iff_count.2 fun a => by (try simp only [List.count_append, List.count_nil]) <;> omega)
  refine ⟨_, rfl, _, c_eqIntS (l := (alvA m.decls m.routs f k)) (ws := (alvA m.decls m.routs f k)) (OwnI.read h51 hS) (r16.mono hS.sub), fun hc => ?_, fun _ => ?_⟩
  · simp at hc
  refine ⟨_, c_heldIntS (OwnI.read h41 hS) (by omega) (by omega), fun hc => ?_, fun _ => ⟨fun hc => ?_, fun _ => ⟨rfl, hvu.trans hS.sub⟩⟩⟩
  · simp only [bls] at hc; omega
  · simp at hc
end Go.Vc
