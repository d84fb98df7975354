/- Part of the proofs about the heaps and memories: a law is joined in the text whose name ends in W and the law. -/
import Derived.Test.YtlcegaeioheikaaEP1
import Derived.Test.YtlcegaeioheikaaET0
namespace Go.Vc
open Go Go.Proofs Go.RowKit
set_option linter.all false
/-- a program in memory, its signatures valid -/
structure Prg (v : World) (x y : Sl) (ds : List DeclD) (fs : List FunD) : Prop where
 hx : Read v x ds
 hy : Read v y fs
 sg : sigSigs ds (fs.map sgE)
theorem Prg.mono {v w : World} {x y : Sl} {ds : List DeclD} {fs : List FunD} (h : Prg v x y ds fs) (hs : Sub v w) : Prg w x y ds fs := ⟨h.hx.mono hs, h.hy.mono hs, h.sg⟩
theorem Prg.sm {v : World} {x y : Sl} {ds : List DeclD} {fs : List FunD} (h : Prg v x y ds fs) : SmDs ds := h.sg.1.sm
def TyS (ds : List DeclD) (fs : List FunD) (e : ExprD) : Prop := ∀ (v : World) (x y z f : Sl) (vars : List Int), Prg v x y ds fs → Read v z vars → nonneg vars → Read v f e.kids → InI e.num → vars.length + 4 * nodesE e ≤ 10000 →
 Fn Try.prog 26 #[.agg #[x.val, y.val], z.val, .agg #[.int .i64 e.op, .int .i64 e.num, f.val]] v (.int .i64 (gD (tyX ds (fs.map sgE) e vars)))
section
variable {u v w : World} {x y z f kx tx : Sl} {vars T W : List Int} {ds : List DeclD} {fs : List FunD} {ss : List SigD} {e : ExprD} {kids : List ExprD} {n num op : Int}
theorem gD_iff (h : 0 ≤ n) {o : Option Int} : gD o = n ↔ o = some n := by
 cases o with
 | none => rw [gD_none]; refine ⟨fun h => ?_, fun h => (by cases h)⟩; omega
 | some t => rw [gD_some, Option.some.injEq]
theorem cutOkR {x : Sl} {l : List Int} {n : Int} (h : Read w x l) (h0 : 0 ≤ n) (h1 : n ≤ l.length) : CutOk x 0 n := ⟨by omega, h0, by have h3 := h.n; obtain ⟨_, hr, _⟩ := h; have h2 := hr.2.1; omega⟩
theorem mapEq {g : ExprD → Option Int} : kids.map g = T.map some ↔ kids.length = T.length ∧ ∀ i : Int, 0 ≤ i → i < kids.length → g (nth kids i) = some (nth T i) := by
 constructor
 ·intro h
  have hl : kids.length = T.length := by simpa using congrArg List.length h
  refine ⟨hl, fun i h0 h1 => ?_⟩
  have h2 := congrArg (fun l => l[i.toNat]?) h
  simp only [List.getElem?_map] at h2
  rw [nth_get h0 h1, nth_get h0 (by omega)] at h2
  simpa using h2
 ·rintro ⟨hl, h⟩
  refine List.ext_getElem (by simpa using hl) fun i h1 h2 => ?_
  simp only [List.length_map] at h1 h2
  rw [List.getElem_map, List.getElem_map]
  have := h i (by omega) (by omega)
  rwa [nth_of (a := kids[i]) (by simp [h1]), nth_of (a := T[i]) (by simp [h2])] at this
theorem c_allOfE (H : ∀ k ∈ kids, TyS ds fs k) (hp : Prg v x y ds fs) (hz : Read v z vars) (hv : nonneg vars) (hk : Read v kx kids) (ht : Read v tx T) (hT : nonneg T) (hb : vars.length + 4 * nodesL kids ≤ 10000) :
  Fn Try.prog 50 #[.agg #[x.val, y.val], z.val, kx.val, tx.val] v (.bool (pB (kids.map (fun k => tyX ds (fs.map sgE) k vars) = T.map some))) := by
 refine of50 _ _ _ _ _ _ _ ?_
 unfold vc50
 have hkn := hk.n
 have hkl := hk.le
 have htn := ht.n
 refine ⟨fun hc => ⟨?_, .refl v⟩, fun hc => ?_⟩
 ·simp only [bls] at hc
  rw [pB_f]
  intro h
  have := (mapEq.1 h).1
  omega
 simp only [bls] at hc
 refine ⟨fun i w => v = w ∧ 0 ≤ i ∧ i ≤ kids.length ∧ ∀ j : Int, 0 ≤ j → j < i → tyX ds (fs.map sgE) (nth kids j) vars = some (nth T j), fun i _ => (kids.length - i).toNat, ⟨rfl, by omega, by omega, fun j j0 j1 => by omega⟩, ?_⟩
 rintro i _ ⟨rfl, i0, i1, h⟩
 dsimp only
 refine ⟨fun hi => ?_, fun hi => ?_⟩
 ·simp only [bls] at hi
  have hil : i < kids.length := by omega
  have hm := nth_mem (l := kids) i0 hil
  have hnm := nodes_mem hm
  obtain ⟨g, e1, e2, e3, j1, j2, rg⟩ := (hk.src (.refl v)).ofExprD i0 hil
  refine go_ix hk i0 hil ?_
  refine ⟨_, _, g, ⟨e1, e2, e3⟩, _, H _ hm v x y z g vars hp hz hv rg j2 (by omega), ?_⟩
  refine go_ix ht i0 (by omega) ?_
  refine ld_int ht i0 (by omega) ?_
  intro c0 c1
  have hnn := hT.nth i0 (by omega)
  refine ⟨fun hq => ⟨?_, .refl v⟩, fun hq => ?_⟩
  ·simp only [bls] at hq
   rw [pB_f]
   intro hh
   exact hq ((gD_iff hnn.1).2 ((mapEq.1 hh).2 i i0 hil))
  ·simp only [bls] at hq
   refine go_wr (by omega) (by omega) ?_
   refine ⟨rfl, rfl, ⟨rfl, by omega, by omega, fun j j0 j1 => ?_⟩, by omega⟩
   by_cases e : j = i
   ·subst e; exact (gD_iff hnn.1).1 hq
   ·exact h j j0 (by omega)
 ·simp only [bls] at hi
  refine ⟨?_, .refl v⟩
  rw [pB_t]
  exact mapEq.2 ⟨by omega, fun j j0 j1 => h j j0 (by omega)⟩
theorem c_allIntsE (H : ∀ k ∈ kids, TyS ds fs k) (hp : Prg v x y ds fs) (hz : Read v z vars) (hv : nonneg vars) (hk : Read v kx kids) {m : Nat} (hm : m ≤ 3) (hb : vars.length + 4 * nodesL kids ≤ 10000) :
  Fn Try.prog 48 #[.agg #[x.val, y.val], z.val, kx.val, .int .i64 (m : Int)] v (.bool (pB (kids.map (fun k => tyX ds (fs.map sgE) k vars) = (List.replicate m 0).map some))) := by
 refine of48 _ _ _ _ _ _ _ ?_
 unfold vc48
 have hkn := hk.n
 have hkl := hk.le
 have h0 : ∀ i : Int, 0 ≤ i → i < m → nth (List.replicate m (0 : Int)) i = 0 := fun i i0 i1 => nth_of (by rw [List.getElem?_replicate, if_pos (by omega)])
 refine ⟨fun hc => ⟨?_, .refl v⟩, fun hc => ?_⟩
 ·simp only [bls] at hc
  rw [pB_f]
  intro h
  have := (mapEq.1 h).1
  simp at this
  omega
 simp only [bls] at hc
 refine ⟨fun i w => v = w ∧ 0 ≤ i ∧ i ≤ kids.length ∧ ∀ j : Int, 0 ≤ j → j < i → tyX ds (fs.map sgE) (nth kids j) vars = some 0, fun i _ => (kids.length - i).toNat, ⟨rfl, by omega, by omega, fun j j0 j1 => by omega⟩, ?_⟩
 rintro i _ ⟨rfl, i0, i1, h⟩
 dsimp only
 refine ⟨fun hi => ?_, fun hi => ?_⟩
 ·simp only [bls] at hi
  have hil : i < kids.length := by omega
  have hm := nth_mem (l := kids) i0 hil
  have hnm := nodes_mem hm
  obtain ⟨g, e1, e2, e3, j1, j2, rg⟩ := (hk.src (.refl v)).ofExprD i0 hil
  refine go_ix hk i0 hil ?_
  refine ⟨_, _, g, ⟨e1, e2, e3⟩, _, H _ hm v x y z g vars hp hz hv rg j2 (by omega), ?_⟩
  refine ⟨fun hq => ⟨?_, .refl v⟩, fun hq => ?_⟩
  ·simp only [bls] at hq
   rw [pB_f]
   intro hh
   have h2 := (mapEq.1 hh).2 i i0 hil
   rw [h0 i i0 (by omega)] at h2
   exact hq ((gD_iff (Int.le_refl 0)).2 h2)
  ·simp only [bls] at hq
   refine go_wr (by omega) (by omega) ?_
   refine ⟨rfl, rfl, ⟨rfl, by omega, by omega, fun j j0 j1 => ?_⟩, by omega⟩
   by_cases e : j = i
   ·subst e; exact (gD_iff (Int.le_refl 0)).1 hq
   ·exact h j j0 (by omega)
 ·simp only [bls] at hi
  refine ⟨?_, .refl v⟩
  rw [pB_t]
  exact mapEq.2 ⟨by simp; omega, fun j j0 j1 => by rw [h0 j j0 (by omega)]; exact h j j0 (by omega)⟩
/-- the type of a node whose kids are all typed in the same scope -/
theorem ndT_sim (ho : op ≠ 12 ∧ op ≠ 13 ∧ op ≠ 7 ∧ op ≠ 8) {ks : List (List Int → Option Int)} : ndT ds ss op num ks vars = (allT (ks.map fun k => k vars)).bind (simB ds ss op num) := by
 unfold ndT
 rw [if_neg ho.1, if_neg ho.2.1, if_neg ho.2.2.1, if_neg ho.2.2.2]
theorem mapMap : (kids.map (tyX ds ss)).map (fun k => k vars) = kids.map fun k => tyX ds ss k vars := by rw [List.map_map]; rfl
theorem ndT_want (ho : op ≠ 12 ∧ op ≠ 13 ∧ op ≠ 7 ∧ op ≠ 8) (h : ∀ t0, wantB ds ss op num t0 = some (W, n)) : ndT ds ss op num (kids.map (tyX ds ss)) vars = if kids.map (fun k => tyX ds ss k vars) = W.map some then some n else none := by
 rw [ndT_sim ho, mapMap, sim_want h]
theorem ndT_none (ho : op ≠ 12 ∧ op ≠ 13 ∧ op ≠ 7 ∧ op ≠ 8) (h : ∀ t0, wantB ds ss op num t0 = none) : ndT ds ss op num (kids.map (tyX ds ss)) vars = none := by
 rw [ndT_sim ho, sim_none h]
theorem arrI_cs (a b : Int) (hl : ds.length ≤ 4) : arrI ds a b = -1 ∨ 0 < arrI ds a b := by
 rcases arrI_bd (f := a) (t := b) hl with h | h
 ·exact .inl h
 ·exact .inr (by omega)
open Classical in
theorem c_callTypeE (H : ∀ k ∈ e.kids, TyS ds fs k) (hp : Prg v x y ds fs) (hz : Read v z vars) (hv : nonneg vars) (hf : Read v f e.kids) (hop : e.op = 9 ∨ e.op = 10) (hb : vars.length + 4 * nodesL e.kids ≤ 10000) :
  Fn Try.prog 53 #[.agg #[x.val, y.val], z.val, .agg #[.int .i64 e.op, .int .i64 e.num, f.val]] v (.int .i64 (gD (tyX ds (fs.map sgE) e vars))) := by
 refine of53 _ _ _ _ _ _ _ _ ?_
 unfold vc53
 have hyn := hp.hy.n
 have hyl := hp.hy.le
 have hml : (fs.map sgE).length = fs.length := by simp
 rw [tyX_eq]
 refine go_wr (by omega) (by omega) ?_
 refine ⟨_, c_inRange, fun hc => ⟨?_, .refl v⟩, fun hc => ?_⟩
 ·simp only [bls] at hc
  rw [ndT_none (by omega)]
  ·rfl
  intro t0
  unfold wantB
  rw [if_neg (by omega), if_neg (by omega), if_neg (by omega), if_neg (by omega)]
  rcases hop with hop | hop
  ·rw [if_pos hop, if_neg (by omega)]
  ·rw [if_neg (by omega), if_pos hop, if_neg (by rintro ⟨h1, h2, _⟩; omega)]
 ·simp only [bls] at hc
  have i0 : 0 ≤ e.num := by omega
  have i1 : e.num < fs.length := by omega
  have hsg := hp.sg.2.2.2.2.2 e.num i0 (by omega)
  rw [nth_sgE] at hsg
  obtain ⟨⟨s1, s2, s3⟩, _⟩ := hsg
  have s1 : (nth fs e.num).params.length ≤ 3 := s1
  have s2 : (nth fs e.num).params.all (typeB ds.length) = true := s2
  have hds := hp.sm.len
  have hpn : nonneg (nth fs e.num).params := fun t ht => by
   have := List.all_eq_true.1 s2 t ht
   unfold typeB at this
   simp only [Bool.and_eq_true, decide_eq_true_eq] at this
   omega
  obtain ⟨px, k1, e1, e2, e3, e4, e5, j1, j2, j3, r1, r2⟩ := (hp.hy.src (.refl v)).ofFunD i0 i1
  have hpx := r1.n
  refine go_ix hp.hy i0 i1 ?_
  refine ⟨px, _, _, _, k1, ⟨e1, e2, e3, e4, e5⟩, fun h9 => ?_, fun h9 => ?_⟩
  ·simp only [bls] at h9
   rw [ndT_want (by omega) (W := (nth fs e.num).params) (n := (nth fs e.num).result) (fun t0 => by
    unfold wantB
    rw [if_neg (by omega), if_neg (by omega), if_neg (by omega), if_neg (by omega), if_pos h9, if_pos ⟨i0, by omega⟩, nth_sgE]
    rfl)]
   refine ⟨_, c_allOfE H hp hz hv hf r1 hpn hb, fun hq => ⟨?_, .refl v⟩, fun hq => ⟨?_, .refl v⟩⟩
   ·simp only [bls] at hq
    rw [if_neg (fun h => by rw [pB_t h] at hq; cases hq)]
    rfl
   ·simp only [bls] at hq
    have hh := pB_iff.1 hq
    rw [if_pos hh]
    rfl
  ·simp only [bls] at h9
   have h10 : e.op = 10 := by omega
   have hsplit : ∀ (hn1 : 1 ≤ (nth fs e.num).params.length), gD (ndT ds (fs.map sgE) e.op e.num (e.kids.map (tyX ds (fs.map sgE))) vars) = if e.kids.map (fun k => tyX ds (fs.map sgE) k vars) = ((nth fs e.num).params.take ((nth fs e.num).params.length - 1)).map some then arrI ds (nth (nth fs e.num).params (((nth fs e.num).params.length : Int) - 1)) (nth fs e.num).result else -1 := by
    intro hn1
    rcases arrI_cs (ds := ds) (nth (nth fs e.num).params (((nth fs e.num).params.length : Int) - 1)) (nth fs e.num).result hds with ha | ha
    ·rw [ndT_none (by omega), ha, ite_self]
     ·rfl
     intro t0
     unfold wantB
     rw [if_neg (by omega), if_neg (by omega), if_neg (by omega), if_neg (by omega), if_neg (by omega), if_pos h10, nth_sgE, if_neg]
     rintro ⟨_, _, _, _, h5⟩
     have h5 : 0 < arrI ds (nth (nth fs e.num).params (((nth fs e.num).params.length : Int) - 1)) (nth fs e.num).result := h5
     omega
    ·rw [ndT_want (by omega) (W := (nth fs e.num).params.take ((nth fs e.num).params.length - 1)) (n := arrI ds (nth (nth fs e.num).params (((nth fs e.num).params.length : Int) - 1)) (nth fs e.num).result) (fun t0 => by
      unfold wantB
      rw [if_neg (by omega), if_neg (by omega), if_neg (by omega), if_neg (by omega), if_neg (by omega), if_pos h10, nth_sgE, if_pos ⟨i0, by omega, hn1, rfl, ha⟩]
      rfl)]
     split <;> rfl
   have hcut : (decide ((px.n : Int) = 0)) = false → 1 ≤ (nth fs e.num).params.length := fun h => by simp only [bls] at h; omega
   refine go_wrg (fun h => by omega) ?_
   refine ⟨fun h => cutOkR r1 (by have := hcut h; omega) (by omega), ?_⟩
   refine ⟨_, fun h => c_allOfE H hp hz hv hf (T := (nth fs e.num).params.take ((nth fs e.num).params.length - 1)) ?_ (fun t ht => hpn t (List.mem_of_mem_take ht)) hb, fun hq => ⟨?_, .refl v⟩, fun hq => ?_⟩
   ·have hc := hcut h
    have := ReadB.cut r1 (lo := 0) (hi := (px.n : Int) - 1) (Int.le_refl 0) (by omega) (by omega)
    rw [show ((px.n : Int) - 1).toNat = (nth fs e.num).params.length - 1 from by omega] at this
    exact this
   ·simp only [bls] at hq
    rcases hq with hq | hq
    ·rw [ndT_none (by omega)]
     ·rfl
     intro t0
     unfold wantB
     rw [if_neg (by omega), if_neg (by omega), if_neg (by omega), if_neg (by omega), if_neg (by omega), if_pos h10, nth_sgE, if_neg]
     rintro ⟨_, _, h3, _⟩
     have h3 : 1 ≤ (nth fs e.num).params.length := h3
     omega
    ·by_cases hn1 : 1 ≤ (nth fs e.num).params.length
     ·rw [hsplit hn1, if_neg (fun h => by rw [pB_t h] at hq; cases hq)]
     ·rw [ndT_none (by omega)]
      ·rfl
      intro t0
      unfold wantB
      rw [if_neg (by omega), if_neg (by omega), if_neg (by omega), if_neg (by omega), if_neg (by omega), if_pos h10, nth_sgE, if_neg]
      rintro ⟨_, _, h3, _⟩
      have h3 : 1 ≤ (nth fs e.num).params.length := h3
      omega
   ·simp only [bls] at hq
    have hn1 : 1 ≤ (nth fs e.num).params.length := by omega
    refine go_wr (by omega) (by omega) ?_
    refine go_ix r1 (by omega) (by omega) ?_
    refine ld_int r1 (by omega) (by omega) ?_
    intro c0 c1
    refine ⟨_, c_arrowOf hp.hx hds, ?_, .refl v⟩
    rw [hsplit hn1, if_pos (pB_iff.1 hq.2), hpx]
theorem same_arms {L : List (Option Int)} {A : Int → Option Int} {m : Nat} (hlen : L.length = m) (hget : ∀ i : Nat, i < m → L[i]? = some (A i)) (hm : 0 < m) (h : ∀ i : Int, 0 ≤ i → i < m → A i = A 0) : same1 L = A 0 := by
 have hall : ∀ q ∈ L, q = A 0 := by
  intro q hq
  obtain ⟨i, hi, rfl⟩ := List.getElem_of_mem hq
  have := hget i (by omega)
  rw [List.getElem?_eq_getElem hi] at this
  rw [Option.some.inj this]
  exact h i (by omega) (by omega)
 cases L with
 | nil => simp at hlen; omega
 | cons a r =>
  have ha := hall a (by simp)
  cases hA : A 0 with
  | none => rw [ha, hA]; rfl
  | some t => exact same1_of (fun q hq => by rw [hall q hq, hA]) (by simp)
theorem same_armsN {L : List (Option Int)} {A : Int → Option Int} {m : Nat} (hget : ∀ i : Nat, i < m → L[i]? = some (A i)) {i j : Int} (h0 : 0 ≤ i) (h1 : i < m) (g0 : 0 ≤ j) (g1 : j < m) (h : A i ≠ A j ∨ A i = none) : same1 L = none := by
 cases hs : same1 L with
 | none => rfl
 | some t =>
  exfalso
  have e1 := hget i.toNat (by omega)
  have e2 := hget j.toNat (by omega)
  rw [show ((i.toNat : Nat) : Int) = i from by omega] at e1
  rw [show ((j.toNat : Nat) : Int) = j from by omega] at e2
  have k1 := same1_some hs _ (List.mem_of_getElem? e1)
  have k2 := same1_some hs _ (List.mem_of_getElem? e2)
  rcases h with h | h
  ·exact h (k1.trans k2.symm)
  ·rw [h] at k1; cases k1
theorem gD_inj {a b : Option Int} (ha : ∀ t, a = some t → 0 ≤ t) (hb : ∀ t, b = some t → 0 ≤ t) : gD a = gD b ↔ a = b := by
 refine ⟨fun h => ?_, fun h => by rw [h]⟩
 cases a with
 | none => cases b with
  | none => rfl
  | some t => have := hb t rfl; rw [gD_none, gD_some] at h; omega
 | some s => cases b with
  | none => have := ha s rfl; rw [gD_none, gD_some] at h; omega
  | some t => rw [gD_some, gD_some] at h; rw [h]
theorem arm_get {i : Nat} (hl : kids.length = 1 + (consL ds num).length) (hi : i < (consL ds num).length) : (armT vars (armF ds num) ((kids.map (tyX ds ss)).drop 1))[i]? = some (tyX ds ss (nth kids (1 + (i : Int))) (vars ++ conF ds (nth (consL ds num) i))) := by
 unfold armT armF
 rw [List.getElem?_zipWith]
 have h1 : ((consL ds num).map (conF ds))[i]? = some (conF ds (nth (consL ds num) i)) := by
  rw [List.getElem?_map]
  have := nth_get (l := consL ds num) (i := (i : Int)) (by omega) (by omega)
  simp only [Int.toNat_natCast] at this
  rw [this]; rfl
 have h2 : ((kids.map (tyX ds ss)).drop 1)[i]? = some (tyX ds ss (nth kids (1 + (i : Int)))) := by
  rw [List.getElem?_drop, List.getElem?_map]
  have := nth_get (l := kids) (i := 1 + (i : Int)) (by omega) (by omega)
  rw [show (1 + (i : Int)).toNat = 1 + i from by omega] at this
  rw [this]; rfl
 rw [h1, h2]
theorem arm_len (hl : kids.length = 1 + (consL ds num).length) : (armT vars (armF ds num) ((kids.map (tyX ds ss)).drop 1)).length = (consL ds num).length := by
 unfold armT armF
 simp
 omega
theorem consL_len3 (hd : SmDs ds) : (consL ds n).length ≤ 3 := by
 unfold consL
 split
 ·simp only [List.length_map, List.length_range]
  exact hd.cons _ (nth_mem (by omega) (by omega))
 ·simp
theorem armF_len : (armF ds n).length = (consL ds n).length := by unfold armF; simp
open Classical in
theorem c_matchTypeE (H : ∀ k ∈ e.kids, TyS ds fs k) (hp : Prg v x y ds fs) (hz : Read v z vars) (hv : nonneg vars) (hf : Read v f e.kids) (hn : InI e.num) (hop : e.op = 8) (hb : vars.length + 3 + 4 * nodesL e.kids ≤ 10000) :
  Fn Try.prog 52 #[.agg #[x.val, y.val], z.val, .agg #[.int .i64 e.op, .int .i64 e.num, f.val]] v (.int .i64 (gD (tyX ds (fs.map sgE) e vars))) := by
 refine of52 _ _ _ _ _ _ _ _ ?_
 unfold vc52
 have hfn := hf.n
 have hfl := hf.le
 have hsm := hp.sm
 have hcl := consL_len3 (n := e.num) hsm
 have hty : tyX ds (fs.map sgE) e vars = if 0 < (consL ds e.num).length ∧ e.kids.length = 1 + (consL ds e.num).length ∧ kf (e.kids.map (tyX ds (fs.map sgE))) 0 vars = some e.num then same1 (armT vars (armF ds e.num) ((e.kids.map (tyX ds (fs.map sgE))).drop 1)) else none := by
  rw [tyX_eq]
  unfold ndT
  rw [if_neg (by omega), if_neg (by omega), if_neg (by omega), if_pos hop, armF_len, List.length_map]
 refine Mk.use (c_consOf hp.hx hn (by have := hsm.len; omega) (fun d h => by have := hsm.cons d h; omega) hsm.hb) (.refl v) ?_
 rintro _ w2 J1 ⟨x3, rfl, hO⟩ hS hs2
 have hr := hO.read hS
 have hrn := hr.n
 refine ⟨_, rfl, ?_⟩
 refine go_wrg (fun _ => by omega) ?_
 have hg0 : ((decide ((x3.n : Int) = 0)) || (!decide ((f.n : Int) = 1 + (x3.n : Int)))) = false → 0 < (consL ds e.num).length ∧ e.kids.length = 1 + (consL ds e.num).length := fun h => by simp only [bls] at h; omega
 refine go_ixg hf (fun h => by have := hg0 h; omega) ?_
 have hk0 : ∀ i : Int, 0 ≤ i → i < e.kids.length → ∀ w', Sub v w' → ∃ g : Sl, w'.cell? ((elA f i 3).add 0) = some (.int .i64 (nth e.kids i).op) ∧ w'.cell? ((elA f i 3).add 1) = some (.int .i64 (nth e.kids i).num) ∧ w'.cell? ((elA f i 3).add 2) = some g.val ∧ InI (nth e.kids i).op ∧ InI (nth e.kids i).num ∧ Read v g (nth e.kids i).kids := fun i i0 i1 w' hs => (hf.src hs).ofExprD i0 i1
 have hty0 : ∀ (hl : 0 < e.kids.length) (w' : World), Sub v w' → ∀ g : Sl, Read v g (nth e.kids 0).kids → InI (nth e.kids 0).num → Fn Try.prog 26 #[.agg #[x.val, y.val], z.val, .agg #[.int .i64 (nth e.kids 0).op, .int .i64 (nth e.kids 0).num, g.val]] w' (.int .i64 (gD (tyX ds (fs.map sgE) (nth e.kids 0) vars))) := fun hl w' hs g rg hi => by
  have hm := nth_mem (l := e.kids) (i := 0) (by omega) (by omega)
  have := nodes_mem hm
  exact H _ hm w' x y z g vars (hp.mono hs) (hz.mono hs) hv (rg.mono hs) hi (by omega)
 by_cases hlen : 0 < (consL ds e.num).length ∧ e.kids.length = 1 + (consL ds e.num).length
 ·obtain ⟨g0, a1, a2, a3, a4, a5, rg0⟩ := hk0 0 (by omega) (by omega) w2 hs2
  refine ⟨_, _, g0, fun _ => ⟨a1, a2, a3⟩, _, fun _ => hty0 (by omega) w2 hs2 g0 rg0 a5, fun hq => ⟨?_, hS.sub⟩, fun hq => ?_⟩
  ·rw [hty, if_neg]
   ·rfl
   rintro ⟨_, _, h3⟩
   rw [kf_map (by omega)] at h3
   simp only [bls] at hq
   rcases hq with hq | hq
   ·omega
   ·rw [show ((0 : Nat) : Int) = 0 from rfl] at h3
    rw [h3] at hq
    exact hq rfl
  ·simp only [bls] at hq
   have hnum0 : 0 ≤ e.num := by
    have : consL ds e.num ≠ [] := fun h => by rw [h] at hlen; simp at hlen
    unfold consL at this
    split at this
    ·omega
    ·exact absurd rfl this
   have hk3 : kf (e.kids.map (tyX ds (fs.map sgE))) 0 vars = some e.num := by
    rw [kf_map (by omega)]
    exact (gD_iff hnum0).1 hq.2
   rw [hty, if_pos ⟨hlen.1, hlen.2, hk3⟩]
   clear hty hq hg0 hty0
   -- the type of the arm i
   obtain ⟨A, hA⟩ : ∃ A : Int → Option Int, A = fun i => tyX ds (fs.map sgE) (nth e.kids (1 + i)) (vars ++ conF ds (nth (consL ds e.num) i)) := ⟨_, rfl⟩
   have hget : ∀ i : Nat, i < (consL ds e.num).length → (armT vars (armF ds e.num) ((e.kids.map (tyX ds (fs.map sgE))).drop 1))[i]? = some (A i) := fun i hi => by rw [arm_get hlen.2 hi, hA]
   have hAnn : ∀ i : Int, ∀ t, A i = some t → 0 ≤ t := fun i t h => by
    rw [hA] at h
    exact (tyX_nn hp.sg _ _ _ (hv.app (conF_nn hp.sg.1 _)) h).1
   have harm : ∀ (i : Int) (h0 : 0 ≤ i) (h1 : i < (consL ds e.num).length) (w' : World) (g z2 : Sl), Sub v w' → Read v g (nth e.kids (1 + i)).kids → InI (nth e.kids (1 + i)).num → Read w' z2 (vars ++ conF ds (nth (consL ds e.num) i)) → Fn Try.prog 26 #[.agg #[x.val, y.val], z2.val, .agg #[.int .i64 (nth e.kids (1 + i)).op, .int .i64 (nth e.kids (1 + i)).num, g.val]] w' (.int .i64 (gD (A i))) := fun i h0 h1 w' g z2 hs rg hi hz2 => by
    have hm := nth_mem (l := e.kids) (i := 1 + i) (by omega) (by omega)
    have := nodes_mem hm
    have hl3 := conF_len3 hp.sg.1 (nth (consL ds e.num) i)
    rw [hA]
    exact H _ hm w' x y z2 g _ (hp.mono hs) hz2 (hv.app (conF_nn hp.sg.1 _)) (rg.mono hs) hi (by rw [List.length_append]; omega)
   refine go_ix hr (by omega) (by omega) ?_
   refine ld_int hr (by omega) (by omega) ?_
   intro c0 c1
   obtain ⟨g1, b1, b2, b3, b4, b5, rg1⟩ := hk0 1 (by omega) (by omega) w2 hs2
   refine go_ix hf (by omega) (by omega) ?_
   refine ⟨_, _, g1, ⟨b1, b2, b3⟩, ?_⟩
   refine Mk.use (c_conFieldsR hp.hx hsm ⟨c0, c1⟩) hS ?_
   rintro _ w3 J2 ⟨x4, rfl, hr4⟩ hS3 hs3
   have hr4 := hr4 w3 hS3.left
   refine ⟨_, rfl, hs3, ?_⟩
   have hl4 := conF_len3 hp.sg.1 (nth (consL ds e.num) 0)
   refine Mk.usew (c_extend (hz.mono hS3.sub) hr4 (by omega)) hS3 ?_
   rintro _ w4 J3 ⟨x5, rfl, hO5⟩ hS4 hs4
   have hr5 := (hO5.ofInts (u' := v)).read hS4
   refine ⟨_, rfl, hs4, _, harm 0 (by omega) (by omega) w4 g1 x5 hS4.sub rg1 b5 hr5, ?_⟩
   replace hS4 : St v w4 (J1 ++ []) := hS4.to
   refine ⟨fun i w => St v w (J1 ++ []) ∧ 1 ≤ i ∧ i ≤ (consL ds e.num).length ∧ ∀ j : Int, 0 ≤ j → j < i → A j = A 0, fun i _ => ((consL ds e.num).length - i).toNat, ⟨hS4, by omega, by omega, fun j j0 j1 => by rw [show j = 0 from by omega]⟩, ?_⟩
   rintro i w5 ⟨hS5, i0, i1, hall⟩
   dsimp only
   have hr5 := hO.read hS5
   refine ⟨fun hi => ?_, fun hi => ?_⟩
   ·simp only [bls] at hi
    refine go_ix hr5 (by omega) (by omega) ?_
    refine ld_int hr5 (by omega) (by omega) ?_
    intro c2 c3
    refine go_wr (by omega) (by omega) ?_
    obtain ⟨g2, d1, d2, d3, d4, d5, rg2⟩ := hk0 (1 + i) (by omega) (by omega) w5 hS5.sub
    refine go_ix hf (by omega) (by omega) ?_
    refine ⟨_, _, g2, ⟨d1, d2, d3⟩, ?_⟩
    refine Mk.use (c_conFieldsR hp.hx hsm ⟨c2, c3⟩) hS5 ?_
    rintro _ w6 J4 ⟨x6, rfl, hr6⟩ hS6 hs6
    have hr6 := hr6 w6 hS6.left
    refine ⟨_, rfl, hs6, ?_⟩
    have hl6 := conF_len3 hp.sg.1 (nth (consL ds e.num) i)
    refine Mk.usew (c_extend (hz.mono hS6.sub) hr6 (by omega)) hS6 ?_
    rintro _ w7 J5 ⟨x7, rfl, hO7⟩ hS7 hs7
    have hr7 := (hO7.ofInts (u' := v)).read hS7
    refine ⟨_, rfl, hs7, _, harm i (by omega) (by omega) w7 g2 x7 hS7.sub rg2 d5 hr7, fun hq => ⟨?_, hS7.sub⟩, fun hq => ?_⟩
    ·simp only [bls] at hq
     rw [same_armsN hget (i := i) (j := 0) (by omega) (by omega) (by omega) (by omega) (.inl fun h => hq (by rw [h]))]
     rfl
    ·simp only [bls] at hq
     refine go_wr (by omega) (by omega) ?_
     refine ⟨rfl, rfl, rfl, rfl, rfl, ⟨hS7.to, by omega, by omega, fun j j0 j1 => ?_⟩, by omega⟩
     by_cases ej : j = i
     ·subst ej; exact (gD_inj (hAnn j) (hAnn 0)).1 hq
     ·exact hall j j0 (by omega)
   ·simp only [bls] at hi
    rw [same_arms (arm_len hlen.2) hget hlen.1 fun j j0 j1 => hall j j0 (by omega)]
    exact ⟨rfl, hS5.sub⟩
 ·have hbad : ((decide ((x3.n : Int) = 0)) || (!decide ((f.n : Int) = 1 + (x3.n : Int)))) = true := by
   simp only [bls]; omega
  refine ⟨0, 0, ⟨none, 0, 0⟩, fun h => (by rw [hbad] at h; cases h), 0, fun h => (by rw [hbad] at h; cases h), fun hq => ⟨?_, hS.sub⟩, fun hq => ?_⟩
  ·rw [hty, if_neg (fun h => hlen ⟨h.1, h.2.1⟩)]
   rfl
  ·rw [hbad] at hq; simp at hq
end
end Go.Vc

namespace Go.Vc
open Go Go.Proofs Go.RowKit
set_option linter.all false
section
variable {u v w : World} {x y z f kx tx : Sl} {vars T W : List Int} {ds : List DeclD} {fs : List FunD} {ss : List SigD} {e : ExprD} {kids : List ExprD} {n num op : Int}
theorem typesOk.frm_nn (h : typesOk ds) {i : Int} (h0 : 0 ≤ i) (h1 : i < ds.length) : 0 ≤ (nth ds i).frm := by
 have h2 := h.2 i h0 h1
 unfold declOk at h2
 split at h2
 ·rw [h2.2.1]; exact Int.le_refl 0
 ·have h3 := h2.2.1
  unfold typeB at h3
  simp only [Bool.and_eq_true, decide_eq_true_eq] at h3
  exact h3.1
theorem kids2 (h : kids.length = 2) : kids = [nth kids 0, nth kids 1] := by
 match kids, h with
 | [a, b], _ => rfl
open Classical in
theorem ndT_11 (ho : op = 11) (hn : num = 0) (hl : kids.length = 2) : ndT ds ss op num (kids.map (tyX ds ss)) vars = (tyX ds ss (nth kids 0) vars).bind fun t => if isArr ds t ∧ tyX ds ss (nth kids 1) vars = some (nth ds (t - 1)).frm then some (nth ds (t - 1)).to_ else none := by
 rw [ndT_sim (by omega), mapMap, kids2 hl]
 simp only [List.map_cons, List.map_nil]
 have e0 : nth [nth kids 0, nth kids 1] 0 = nth kids 0 := rfl
 have e1 : nth [nth kids 0, nth kids 1] 1 = nth kids 1 := rfl
 rw [e0, e1]
 cases h0 : tyX ds ss (nth kids 0) vars with
 | none => simp [allT]
 | some t =>
  cases h1 : tyX ds ss (nth kids 1) vars with
  | none => simp [allT]
  | some s =>
   have hw : ∀ t0, wantB ds ss op num t0 = if isArr ds t0 then some ([t0, (nth ds (t0 - 1)).frm], (nth ds (t0 - 1)).to_) else none := by
    intro t0
    unfold wantB
    rw [if_neg (by omega), if_neg (by omega), if_neg (by omega), if_neg (by omega), if_neg (by omega), if_neg (by omega), if_pos ho]
    by_cases ha : isArr ds t0
    ·rw [if_pos ⟨hn, ha⟩, if_pos ha]
    ·rw [if_neg fun h => ha h.2, if_neg ha]
   simp only [allT, Option.bind_some]
   unfold simB
   rw [hw, show nth [t, s] 0 = t from rfl]
   by_cases ha : isArr ds t
   ·rw [if_pos ha]
    dsimp only
    by_cases hs : s = (nth ds (t - 1)).frm
    ·rw [if_pos (by rw [hs]), if_pos ⟨ha, by rw [hs]⟩]
    ·rw [if_neg (by simpa using hs), if_neg (fun h => hs (Option.some.inj h.2))]
   ·rw [if_neg ha, if_neg fun h => ha h.1]
theorem ndT_11n (ho : op = 11) (h : ¬ (num = 0 ∧ kids.length = 2)) : ndT ds ss op num (kids.map (tyX ds ss)) vars = none := by
 classical
 rw [ndT_sim (by omega), mapMap]
 cases hT : allT (kids.map fun k => tyX ds ss k vars) with
 | none => rfl
 | some T =>
  have hl := congrArg List.length (allT_some.1 hT)
  simp only [List.length_map] at hl
  show simB ds ss op num T = none
  unfold simB wantB
  rw [if_neg (by omega), if_neg (by omega), if_neg (by omega), if_neg (by omega), if_neg (by omega), if_neg (by omega), if_pos ho]
  by_cases hn : num = 0
  ·by_cases ha : isArr ds (nth T 0)
   ·rw [if_pos ⟨hn, ha⟩]
    dsimp only
    rw [if_neg]
    intro hh
    have := congrArg List.length hh
    simp at this
    omega
   ·rw [if_neg fun h => ha h.2]
  ·rw [if_neg fun h => hn h.1]
theorem kmap_nil : kids.map (fun k => tyX ds ss k vars) = ([] : List Int).map some ↔ kids.length = 0 := by
 rw [List.map_nil, List.map_eq_nil_iff, List.length_eq_zero_iff]
theorem c_typeOfE (e : ExprD) : TyS ds fs e := by
 classical
 refine ex_ind (P := TyS ds fs) (fun e H => ?_) e
 intro v x y z f vars hp hz hv hf hi hb
 rw [nodesE_eq] at hb
 have hfn := hf.n
 have hfl := hf.le
 have hzn := hz.n
 have hzl := hz.le
 have hsm := hp.sm
 have hdl := hsm.len
 have kid : ∀ (i : Int), 0 ≤ i → i < e.kids.length → ∀ w', Sub v w' → ∃ g : Sl, (w'.cell? ((elA f i 3).add 0) = some (.int .i64 (nth e.kids i).op) ∧ w'.cell? ((elA f i 3).add 1) = some (.int .i64 (nth e.kids i).num) ∧ w'.cell? ((elA f i 3).add 2) = some g.val) ∧
   ∀ (w2 : World) (z2 : Sl) (vars2 : List Int), Sub v w2 → Read w2 z2 vars2 → nonneg vars2 → vars2.length ≤ vars.length + 1 → Fn Try.prog 26 #[.agg #[x.val, y.val], z2.val, .agg #[.int .i64 (nth e.kids i).op, .int .i64 (nth e.kids i).num, g.val]] w2 (.int .i64 (gD (tyX ds (fs.map sgE) (nth e.kids i) vars2))) := by
  intro i i0 i1 w' hs
  obtain ⟨g, a1, a2, a3, a4, a5, rg⟩ := (hf.src hs).ofExprD i0 i1
  refine ⟨g, ⟨a1, a2, a3⟩, fun w2 z2 vars2 h1 h2 h3 h4 => ?_⟩
  have hm := nth_mem (l := e.kids) i0 i1
  have := nodes_mem hm
  exact H _ hm w2 x y z2 g vars2 (hp.mono h1) h2 h3 (rg.mono h1) a5 (by omega)
 by_cases o0 : e.op = 0
 ·rw [tyX_eq]
  refine of26 _ _ _ _ _ _ _ _ ?_
  unfold vc26
  repeat (first | refine ⟨fun h => absurd (of_decide_eq_true h) (by omega), fun _ => ?_⟩ | refine ⟨fun _ => ?_, fun h => absurd (of_decide_eq_false h) (by omega)⟩)
  have hw : -999 ≤ e.num ∧ e.num ≤ 999 → ∀ t0, wantB ds (fs.map sgE) e.op e.num t0 = some ([], 0) := fun h t0 => by unfold wantB; rw [if_pos o0, if_pos h]
  have hwn : ¬ (-999 ≤ e.num ∧ e.num ≤ 999) → ∀ t0, wantB ds (fs.map sgE) e.op e.num t0 = none := fun h t0 => by unfold wantB; rw [if_pos o0, if_neg h]
  refine ⟨_, fun _ => c_inRange, fun hq => ⟨?_, .refl v⟩, fun hq => ⟨?_, .refl v⟩⟩
  ·simp only [bls] at hq
   rw [ndT_want (by omega) (hw (by omega)), if_pos (kmap_nil.2 (by omega))]
   rfl
  ·simp only [bls] at hq
   by_cases hr : -999 ≤ e.num ∧ e.num ≤ 999
   ·rw [ndT_want (by omega) (hw hr), if_neg (fun h => by have := kmap_nil.1 h; omega)]
    rfl
   ·rw [ndT_none (by omega) (hwn hr)]
    rfl
 by_cases o12 : e.op = 12
 ·rw [tyX_eq]
  refine of26 _ _ _ _ _ _ _ _ ?_
  unfold vc26
  repeat (first | refine ⟨fun h => absurd (of_decide_eq_true h) (by omega), fun _ => ?_⟩ | refine ⟨fun _ => ?_, fun h => absurd (of_decide_eq_false h) (by omega)⟩)
  have hnd : ndT ds (fs.map sgE) e.op e.num (e.kids.map (tyX ds (fs.map sgE))) vars = if e.kids.length = 0 ∧ 0 ≤ e.num ∧ e.num < vars.length then some (nth vars e.num) else none := by
   unfold ndT
   rw [if_pos o12, List.length_map]
  rw [hnd]
  refine go_wrg (fun _ => by omega) ?_
  refine ⟨_, fun _ => c_inRange, fun hq => ?_, fun hq => ⟨?_, .refl v⟩⟩
  ·simp only [bls] at hq
   refine go_ix hz (by omega) (by omega) ?_
   refine ld_int hz (by omega) (by omega) ?_
   intro c0 c1
   rw [if_pos (by omega)]
   exact ⟨rfl, .refl v⟩
  ·simp only [bls] at hq
   rw [if_neg (by omega)]
   rfl
 by_cases o14 : e.op = 1 ∨ e.op = 2 ∨ e.op = 3 ∨ e.op = 4
 ·rw [tyX_eq]
  refine of26 _ _ _ _ _ _ _ _ ?_
  unfold vc26
  have hw : e.num = 0 → ∀ t0, wantB ds (fs.map sgE) e.op e.num t0 = some ([0, 0], 0) := fun h t0 => by unfold wantB; rw [if_neg o0, if_pos o14, if_pos h]
  have hwn : e.num ≠ 0 → ∀ t0, wantB ds (fs.map sgE) e.op e.num t0 = none := fun h t0 => by unfold wantB; rw [if_neg o0, if_pos o14, if_neg h]
  have hall := c_allIntsE (m := 2) H hp hz hv hf (by omega) (by omega)
  have hres : ∀ q : Bool, (decide (e.num = 0) && pB (e.kids.map (fun k => tyX ds (fs.map sgE) k vars) = (List.replicate 2 (0 : Int)).map some)) = q → gD (ndT ds (fs.map sgE) e.op e.num (e.kids.map (tyX ds (fs.map sgE))) vars) = if q then 0 else -1 := by
   rintro _ rfl
   by_cases hn : e.num = 0
   ·rw [ndT_want (by omega) (hw hn), decide_eq_true hn, Bool.true_and]
    by_cases hh : e.kids.map (fun k => tyX ds (fs.map sgE) k vars) = (List.replicate 2 (0 : Int)).map some
    ·rw [pB_t hh]; exact congrArg gD (if_pos hh)
    ·rw [pB_f hh]; exact congrArg gD (if_neg hh)
   ·rw [ndT_none (by omega) (hwn hn), decide_eq_false hn, Bool.false_and]
    rfl
  rcases o14 with o14 | o14 | o14 | o14
  all_goals
   repeat (first | refine ⟨fun h => absurd (of_decide_eq_true h) (by omega), fun _ => ?_⟩ | refine ⟨fun _ => ?_, fun h => absurd (of_decide_eq_false h) (by omega)⟩)
   exact ⟨_, fun _ => hall, fun hq => ⟨by rw [hres _ hq]; rfl, .refl v⟩, fun hq => ⟨by rw [hres _ hq]; rfl, .refl v⟩⟩
 by_cases o5 : e.op = 5
 ·rw [tyX_eq]
  refine of26 _ _ _ _ _ _ _ _ ?_
  unfold vc26
  have hw : e.num = 0 → ∀ t0, wantB ds (fs.map sgE) e.op e.num t0 = some ([0], 0) := fun h t0 => by unfold wantB; rw [if_neg o0, if_neg o14, if_pos o5, if_pos h]
  have hwn : e.num ≠ 0 → ∀ t0, wantB ds (fs.map sgE) e.op e.num t0 = none := fun h t0 => by unfold wantB; rw [if_neg o0, if_neg o14, if_pos o5, if_neg h]
  have hall := c_allIntsE (m := 1) H hp hz hv hf (by omega) (by omega)
  have hres : ∀ q : Bool, (decide (e.num = 0) && pB (e.kids.map (fun k => tyX ds (fs.map sgE) k vars) = (List.replicate 1 (0 : Int)).map some)) = q → gD (ndT ds (fs.map sgE) e.op e.num (e.kids.map (tyX ds (fs.map sgE))) vars) = if q then 0 else -1 := by
   rintro _ rfl
   by_cases hn : e.num = 0
   ·rw [ndT_want (by omega) (hw hn), decide_eq_true hn, Bool.true_and]
    by_cases hh : e.kids.map (fun k => tyX ds (fs.map sgE) k vars) = (List.replicate 1 (0 : Int)).map some
    ·rw [pB_t hh]; exact congrArg gD (if_pos hh)
    ·rw [pB_f hh]; exact congrArg gD (if_neg hh)
   ·rw [ndT_none (by omega) (hwn hn), decide_eq_false hn, Bool.false_and]
    rfl
  repeat (first | refine ⟨fun h => absurd (of_decide_eq_true h) (by omega), fun _ => ?_⟩ | refine ⟨fun _ => ?_, fun h => absurd (of_decide_eq_false h) (by omega)⟩)
  exact ⟨_, fun _ => hall, fun hq => ⟨by rw [hres _ hq]; rfl, .refl v⟩, fun hq => ⟨by rw [hres _ hq]; rfl, .refl v⟩⟩
 by_cases o6 : e.op = 6
 ·rw [tyX_eq]
  refine of26 _ _ _ _ _ _ _ _ ?_
  unfold vc26
  repeat (first | refine ⟨fun h => absurd (of_decide_eq_true h) (by omega), fun _ => ?_⟩ | refine ⟨fun _ => ?_, fun h => absurd (of_decide_eq_false h) (by omega)⟩)
  have hw : 0 < conTyV ds e.num → ∀ t0, wantB ds (fs.map sgE) e.op e.num t0 = some (conF ds e.num, conTyV ds e.num) := fun h t0 => by unfold wantB; rw [if_neg o0, if_neg o14, if_neg o5, if_pos o6, if_pos h]
  have hwn : ¬ 0 < conTyV ds e.num → ∀ t0, wantB ds (fs.map sgE) e.op e.num t0 = none := fun h t0 => by unfold wantB; rw [if_neg o0, if_neg o14, if_neg o5, if_pos o6, if_neg h]
  refine ⟨_, c_specConType hp.hx hsm, fun hq => ?_, fun hq => ⟨.refl v, ?_, .refl v⟩⟩
  ·simp only [bls] at hq
   refine Mk.use (c_conFieldsR hp.hx hsm hi) (.refl v) ?_
   rintro _ w1 J ⟨x1, rfl, hr⟩ hS hs
   have hr := hr w1 (by simpa using hS)
   refine ⟨_, rfl, hs, _, c_allOfE H (hp.mono hs) (hz.mono hs) hv (hf.mono hs) hr (conF_nn hp.sg.1 _) (by omega), fun h => ⟨_, c_specConType (hp.hx.mono hs) hsm, ?_, hs⟩, fun h => ⟨?_, hs⟩⟩
   ·rw [ndT_want (by omega) (hw hq), if_pos (pB_iff.1 h)]
    rfl
   ·rw [ndT_want (by omega) (hw hq), if_neg (fun hh => by rw [pB_t hh] at h; cases h)]
    rfl
  ·simp only [bls] at hq
   rw [ndT_none (by omega) (hwn (by omega))]
   rfl
 by_cases o13 : e.op = 13
 ·rw [tyX_eq]
  refine of26 _ _ _ _ _ _ _ _ ?_
  unfold vc26
  repeat (first | refine ⟨fun h => absurd (of_decide_eq_true h) (by omega), fun _ => ?_⟩ | refine ⟨fun _ => ?_, fun h => absurd (of_decide_eq_false h) (by omega)⟩)
  have hnd : ndT ds (fs.map sgE) e.op e.num (e.kids.map (tyX ds (fs.map sgE))) vars = if e.kids.length = 2 ∧ e.num = 0 then (kf (e.kids.map (tyX ds (fs.map sgE))) 0 vars).bind fun t => kf (e.kids.map (tyX ds (fs.map sgE))) 1 (vars ++ [t]) else none := by
   unfold ndT
   rw [if_neg o12, if_pos o13, List.length_map]
  rw [hnd]
  refine ⟨fun hq => ?_, fun hq => ⟨?_, .refl v⟩⟩
  ·simp only [bls] at hq
   rw [if_pos (by omega), kf_map (by omega), kf_map (by omega)]
   obtain ⟨g0, hc0, ht0⟩ := kid 0 (by omega) (by omega) v (.refl v)
   refine go_ix hf (by omega) (by omega) ?_
   refine ⟨_, _, g0, hc0, _, ht0 v z vars (.refl v) hz hv (by omega), fun hq2 => ?_, fun hq2 => ⟨?_, .refl v⟩⟩
   ·simp only [bls] at hq2
    obtain ⟨t, ht⟩ : ∃ t, tyX ds (fs.map sgE) (nth e.kids 0) vars = some t := ⟨_, gD_eq hq2⟩
    have htn := tyX_nn hp.sg _ _ _ hv ht
    obtain ⟨g1, hc1, ht1⟩ := kid 1 (by omega) (by omega) v (.refl v)
    refine go_ix hf (by omega) (by omega) ?_
    refine ⟨_, _, g1, hc1, ?_⟩
    rw [show gD (tyX ds (fs.map sgE) (nth e.kids 0) vars) = t from by rw [ht]; rfl]
    refine St.build (α := Int) (l := [t]) (.refl v) (.cons (.int ⟨by omega, by omega⟩) .nil) rfl (by decide) ?_
    intro x1 w1 I1 hO1 hS1 hs1
    refine ⟨_, rfl, hs1, ?_⟩
    refine Mk.usew (c_extend (hz.mono hS1.sub) (hO1.read hS1) (by simp; omega)) hS1 ?_
    rintro _ w2 J2 ⟨x2, rfl, hO2⟩ hS2 hs2
    refine ⟨_, rfl, hs2, _, ht1 w2 x2 (vars ++ [t]) hS2.sub ((hO2.ofInts (u' := v)).read hS2) (hv.app fun q hq => by rw [List.mem_singleton.1 hq]; exact htn) (by simp), ?_, hS2.sub⟩
    rw [show ((0 : Nat) : Int) = 0 from rfl, ht]
    rfl
   ·simp only [bls] at hq2
    have : tyX ds (fs.map sgE) (nth e.kids 0) vars = none := by
     cases ht : tyX ds (fs.map sgE) (nth e.kids 0) vars with
     | none => rfl
     | some t => have := tyX_nn hp.sg _ _ _ hv ht; rw [ht, gD_some] at hq2; omega
    rw [show ((0 : Nat) : Int) = 0 from rfl, this]
    rfl
  ·simp only [bls] at hq
   rw [if_neg (by omega)]
   rfl
 by_cases o7 : e.op = 7
 ·rw [tyX_eq]
  refine of26 _ _ _ _ _ _ _ _ ?_
  unfold vc26
  repeat (first | refine ⟨fun h => absurd (of_decide_eq_true h) (by omega), fun _ => ?_⟩ | refine ⟨fun _ => ?_, fun h => absurd (of_decide_eq_false h) (by omega)⟩)
  have hnd : ndT ds (fs.map sgE) e.op e.num (e.kids.map (tyX ds (fs.map sgE))) vars = if e.kids.length = 3 ∧ e.num = 0 ∧ kf (e.kids.map (tyX ds (fs.map sgE))) 0 vars = some 0 then same1 (armT vars [[], []] ((e.kids.map (tyX ds (fs.map sgE))).drop 1)) else none := by
   unfold ndT
   rw [if_neg o12, if_neg o13, if_pos o7, List.length_map]
  rw [hnd]
  by_cases hl : e.kids.length = 3 ∧ e.num = 0
  ·obtain ⟨g0, hc0, ht0⟩ := kid 0 (by omega) (by omega) v (.refl v)
   obtain ⟨g1, hc1, ht1⟩ := kid 1 (by omega) (by omega) v (.refl v)
   obtain ⟨g2, hc2, ht2⟩ := kid 2 (by omega) (by omega) v (.refl v)
   have hkids : e.kids = [nth e.kids 0, nth e.kids 1, nth e.kids 2] := by
    match e.kids, hl.1 with
    | [a, b, c], _ => rfl
   have harm : armT vars [[], []] ((e.kids.map (tyX ds (fs.map sgE))).drop 1) = [tyX ds (fs.map sgE) (nth e.kids 1) vars, tyX ds (fs.map sgE) (nth e.kids 2) vars] := by
    conv => lhs; rw [hkids]
    simp [armT]
   rw [kf_map (by omega), harm]
   refine go_ixg hf (fun _ => by omega) ?_
   refine ⟨_, _, g0, fun _ => hc0, _, fun _ => ht0 v z vars (.refl v) hz hv (by omega), fun hq => ?_, fun hq => ⟨?_, .refl v⟩⟩
   ·simp only [bls] at hq
    have h0 := (gD_iff (Int.le_refl 0)).1 hq.2
    rw [if_pos ⟨hl.1, hl.2, h0⟩]
    refine go_ix hf (by omega) (by omega) ?_
    refine ⟨_, _, g1, hc1, _, ht1 v z vars (.refl v) hz hv (by omega), ?_⟩
    refine go_ix hf (by omega) (by omega) ?_
    refine ⟨_, _, g2, hc2, _, ht2 v z vars (.refl v) hz hv (by omega), fun hq2 => ⟨?_, .refl v⟩, fun hq2 => ⟨?_, .refl v⟩⟩
    ·simp only [bls] at hq2
     have h2 := (gD_inj (fun t h => (tyX_nn hp.sg _ _ _ hv h).1) (fun t h => (tyX_nn hp.sg _ _ _ hv h).1)).1 hq2
     rw [h2]
     cases tyX ds (fs.map sgE) (nth e.kids 1) vars with
     | none => rfl
     | some t => rw [same1_of (t := t) (by simp) (by simp)]
    ·simp only [bls] at hq2
     cases hs : same1 [tyX ds (fs.map sgE) (nth e.kids 1) vars, tyX ds (fs.map sgE) (nth e.kids 2) vars] with
     | none => rfl
     | some t =>
      have k1 := same1_some hs _ (List.mem_cons_self ..)
      have k2 := same1_some hs (tyX ds (fs.map sgE) (nth e.kids 2) vars) (by simp)
      exact absurd (by rw [k1, k2]) hq2
   ·simp only [bls] at hq
    rw [if_neg]
    ·rfl
    rintro ⟨_, _, h3⟩
    rw [show ((0 : Nat) : Int) = 0 from rfl] at h3
    rw [h3, gD_some] at hq
    omega
  ·have hbad : ((decide (e.num = 0)) && (decide ((f.n : Int) = 3))) = false := by
    rw [← Bool.not_eq_true]
    simp only [bls]
    omega
   rw [if_neg (fun h => hl ⟨h.1, h.2.1⟩)]
   refine ⟨fun h => (by rw [hbad] at h; cases h), 0, 0, ⟨none, 0, 0⟩, fun h => (by rw [hbad] at h; cases h), 0, fun h => (by rw [hbad] at h; cases h), fun hq => ?_, fun hq => ⟨rfl, .refl v⟩⟩
   rw [hbad] at hq
   simp at hq
 by_cases o8 : e.op = 8
 ·refine of26 _ _ _ _ _ _ _ _ ?_
  unfold vc26
  repeat (first | refine ⟨fun h => absurd (of_decide_eq_true h) (by omega), fun _ => ?_⟩ | refine ⟨fun _ => ?_, fun h => absurd (of_decide_eq_false h) (by omega)⟩)
  exact ⟨_, c_matchTypeE H hp hz hv hf hi o8 (by omega), rfl, .refl v⟩
 by_cases o9 : e.op = 9
 ·refine of26 _ _ _ _ _ _ _ _ ?_
  unfold vc26
  repeat (first | refine ⟨fun h => absurd (of_decide_eq_true h) (by omega), fun _ => ?_⟩ | refine ⟨fun _ => ?_, fun h => absurd (of_decide_eq_false h) (by omega)⟩)
  exact ⟨_, c_callTypeE H hp hz hv hf (by omega) (by omega), rfl, .refl v⟩
 by_cases o10 : e.op = 10
 ·refine of26 _ _ _ _ _ _ _ _ ?_
  unfold vc26
  repeat (first | refine ⟨fun h => absurd (of_decide_eq_true h) (by omega), fun _ => ?_⟩ | refine ⟨fun _ => ?_, fun h => absurd (of_decide_eq_false h) (by omega)⟩)
  exact ⟨_, c_callTypeE H hp hz hv hf (by omega) (by omega), rfl, .refl v⟩
 by_cases o11 : e.op = 11
 ·rw [tyX_eq]
  refine of26 _ _ _ _ _ _ _ _ ?_
  unfold vc26
  repeat (first | refine ⟨fun h => absurd (of_decide_eq_true h) (by omega), fun _ => ?_⟩ | refine ⟨fun _ => ?_, fun h => absurd (of_decide_eq_false h) (by omega)⟩)
  refine ⟨fun hq => ?_, fun hq => ⟨?_, .refl v⟩⟩
  ·simp only [bls] at hq
   obtain ⟨g0, hc0, ht0⟩ := kid 0 (by omega) (by omega) v (.refl v)
   obtain ⟨g1, hc1, ht1⟩ := kid 1 (by omega) (by omega) v (.refl v)
   rw [ndT_11 o11 hq.1 (by omega)]
   refine go_ix hf (by omega) (by omega) ?_
   refine ⟨_, _, g0, hc0, _, ht0 v z vars (.refl v) hz hv (by omega), ?_⟩
   obtain ⟨q, hq1, hT⟩ := c_isArrow (n := gD (tyX ds (fs.map sgE) (nth e.kids 0) vars)) hp.hx hdl
   have harr : q = true → ∃ t, tyX ds (fs.map sgE) (nth e.kids 0) vars = some t ∧ isArr ds t := fun h => by
    have h1 := hq1.1 h
    cases ht : tyX ds (fs.map sgE) (nth e.kids 0) vars with
    | none => rw [ht, gD_none] at h1; have := h1.1; omega
    | some t => rw [ht, gD_some] at h1; exact ⟨t, rfl, h1⟩
   have hix : q = true → 0 ≤ gD (tyX ds (fs.map sgE) (nth e.kids 0) vars) - 1 ∧ gD (tyX ds (fs.map sgE) (nth e.kids 0) vars) - 1 < ds.length := fun h => by have := hq1.1 h; have h1 := this.1; have h2 := this.2.1; omega
   refine ⟨q, hT, fun h => (hf.ix (by omega) (by omega)), _, _, g1, fun _ => hc1, _, fun _ => ht1 v z vars (.refl v) hz hv (by omega), ?_⟩
   refine go_wrg (fun h => by have := hix h; omega) ?_
   refine go_ixg hp.hx hix ?_
   by_cases hqt : q = true
   ·obtain ⟨t, ht, ha⟩ := harr hqt
    have ht' : gD (tyX ds (fs.map sgE) (nth e.kids 0) vars) = t := by rw [ht]; rfl
    rw [ht'] at hix ⊢
    obtain ⟨fc, a1, a2, a3, a4, a5, a6⟩ := (hp.hx.src (.refl v)).ofDeclD (hix hqt).1 (hix hqt).2
    refine ⟨_, fun _ => a1, fun hq2 => ?_, fun hq2 => ⟨?_, .refl v⟩⟩
    ·simp only [bls] at hq2
     have hfrm := typesOk.frm_nn hp.sg.1 (hix hqt).1 (hix hqt).2
     have hb3 := hix hqt
     refine go_wr (by omega) (by omega) ?_
     refine go_ix hp.hx (hix hqt).1 (hix hqt).2 ?_
     refine ⟨_, a2, ?_, .refl v⟩
     rw [ht, Option.bind_some, if_pos ⟨ha, (gD_iff hfrm).1 hq2.2⟩]
     rfl
    ·simp only [bls, hqt] at hq2
     rw [ht, Option.bind_some, if_neg]
     ·rfl
     rintro ⟨_, h2⟩
     rw [h2, gD_some] at hq2
     simp at hq2
   ·have hqf : q = false := by simpa using hqt
    refine ⟨0, fun h => (by rw [hqf] at h; cases h), fun hq2 => (by rw [hqf] at hq2; simp at hq2), fun _ => ⟨?_, .refl v⟩⟩
    cases ht : tyX ds (fs.map sgE) (nth e.kids 0) vars with
    | none => rfl
    | some t =>
     rw [Option.bind_some, if_neg]
     ·rfl
     rintro ⟨ha, _⟩
     exact hqt (hq1.2 (by rw [ht, gD_some]; exact ha))
  ·simp only [bls] at hq
   rw [ndT_11n o11 (by omega)]
   rfl
 ·rw [tyX_eq]
  refine of26 _ _ _ _ _ _ _ _ ?_
  unfold vc26
  repeat (first | refine ⟨fun h => absurd (of_decide_eq_true h) (by omega), fun _ => ?_⟩ | refine ⟨fun _ => ?_, fun h => absurd (of_decide_eq_false h) (by omega)⟩)
  rw [ndT_none (by omega) (fun t0 => by
   unfold wantB
   rw [if_neg o0, if_neg o14, if_neg o5, if_neg o6, if_neg o9, if_neg o10, if_neg o11])]
  exact ⟨rfl, .refl v⟩
end
end Go.Vc

namespace Go.Vc
open Go Go.Proofs Go.RowKit
set_option linter.all false
/-- declarations and signatures in memory, all valid, nothing lent -/
structure SgI (v : World) (x s : Sl) (ds : List DeclD) (ss : List SigD) : Prop where
 hx : Read v x ds
 hs : Read v s ss
 sg : sigSigs ds ss
 le : ∀ i : Int, (nth ss i).lent.length = 0
theorem SgI.mono {v w : World} {x s : Sl} {ds : List DeclD} {ss : List SigD} (h : SgI v x s ds ss) (hs : Sub v w) : SgI w x s ds ss := ⟨h.hx.mono hs, h.hs.mono hs, h.sg, h.le⟩
theorem SgI.sm {v : World} {x s : Sl} {ds : List DeclD} {ss : List SigD} (h : SgI v x s ds ss) : SmDs ds := h.sg.1.sm
def TyI (ds : List DeclD) (ss : List SigD) (e : ExprD) : Prop := ∀ (u w : World) (x s z f : Sl) (vars : List Int) (I R : Items), SgI u x s ds ss → Own u z vars I → St u w (I ++ R) → nonneg vars → Read u f e.kids → InI e.num → vars.length + 4 * nodesE e ≤ 10000 →
 Trip Try.prog 21 #[.agg #[x.val, s.val], z.val, .agg #[.int .i64 e.op, .int .i64 e.num, f.val]] w fun r w' => r = .int .i64 (gD (tyX ds ss e vars)) ∧ ∃ I', Own u z vars I' ∧ St u w' (I' ++ R)
section
variable {u v w : World} {x y z s f kx fx tx : Sl} {vars T W : List Int} {ds : List DeclD} {fs : List FunD} {ss : List SigD} {e : ExprD} {kids : List ExprD} {ff : List (List Int)} {n num op t : Int} {I J L R : Items}
theorem c_fieldsOfE (hx : Read v x ds) (hd : SmDs ds) (hn : InI n) : ∃ z : Sl, Read v z (conF ds n) ∧ Fn Try.prog 43 #[x.val, .int .i64 n] v z.val := by
 obtain ⟨z, hz, h⟩ := c_conAtA hx hd hn
 refine ⟨z, hz, ?_⟩
 refine of43 _ _ _ _ ?_
 unfold vc43
 exact ⟨_, z, h, rfl, .refl v⟩
theorem arm_nth {i : Int} (h0 : 0 ≤ i) (h1 : i < kids.length) (hl : kids.length = ff.length) : (armT vars ff (kids.map (tyX ds ss)))[i.toNat]? = some (tyX ds ss (nth kids i) (vars ++ nth ff i)) := by
 unfold armT
 rw [List.getElem?_zipWith, nth_get h0 (by omega), List.getElem?_map, nth_get h0 h1]
 rfl
theorem c_oneTypeI (H : ∀ k ∈ kids, TyI ds ss k) (hg : SgI u x s ds ss) (hO : Own u z vars I) (hF : Own u fx ff J) (hS : St u w (J ++ (I ++ R))) (hv : nonneg vars) (hk : Read u kx kids) (hfl : kids.length = ff.length) (hfn : ∀ i : Int, nonneg (nth ff i) ∧ (nth ff i).length ≤ 3) (hb : vars.length + 3 + 4 * nodesL kids ≤ 10000) :
  Trip Try.prog 41 #[.agg #[x.val, s.val], z.val, kx.val, fx.val] w fun r w' => r = .int .i64 (gD (same1 (armT vars ff (kids.map (tyX ds ss))))) ∧ ∃ I', Own u z vars I' ∧ St u w' (J ++ (I' ++ R)) := by
 refine of41 _ _ _ _ _ _ _ ?_
 unfold vc41
 have hkn := hk.n
 have hkl := hk.le
 refine ⟨fun t i w => (∃ I', Own u z vars I' ∧ St u w (J ++ (I' ++ R))) ∧ 0 ≤ i ∧ i ≤ kids.length ∧ (i = 0 → t = -1) ∧ ∀ j : Int, 0 ≤ j → j < i → tyX ds ss (nth kids j) (vars ++ nth ff j) = some t, fun _ i _ => (kids.length - i).toNat, ⟨⟨I, hO, hS⟩, by omega, by omega, fun _ => rfl, fun j j0 j1 => by omega⟩, ?_⟩
 clear hO hS
 rintro t i w ⟨⟨I, hO, hS⟩, i0, i1, ht, hj⟩
 dsimp only
 refine ⟨fun hi => ?_, fun hi => ?_⟩
 ·simp only [bls] at hi
  have hil : i < kids.length := by omega
  have hmem := nth_mem (l := kids) i0 hil
  have hnm := nodes_mem hmem
  obtain ⟨g, e1, e2, e3, j1, j2, rg⟩ := (hk.src hS.sub).ofExprD i0 hil
  have hfr := hF.read hS
  obtain ⟨row, ⟨gf, rfl, hgf⟩, hc⟩ := hfr.row (i := i) i0 (by omega)
  have hfi := hfn i
  have hvn : nonneg (vars ++ nth ff i) := hv.app hfi.1
  refine go_ix hk i0 hil ?_
  refine ⟨_, _, g, ⟨e1, e2, e3⟩, ?_⟩
  refine go_ix hfr i0 (by omega) ?_
  refine ⟨gf, hc 0 _ rfl, ?_⟩
  refine St.build (α := List Int) (l := [vars, nth ff i]) (St.refl w) (.cons (.list (hO.read hS)) (.cons (.list hgf) .nil)) rfl (by decide) ?_
  intro z2 w2 I2 hO2 hS2 hs2
  refine ⟨_, rfl, hs2, ?_⟩
  have hSj := hS.join hS2.left
  refine Mk.usew (c_concat2 (hO2.read hS2) (by omega) (by omega)) hSj ?_
  rintro _ w3 J3 ⟨z3, rfl, hO3⟩ hS3 hs3
  refine ⟨_, rfl, hs3, ?_⟩
  refine (H _ hmem u w3 x s z3 g _ J3 _ hg (hO3.ofInts (u' := u)) hS3 hvn rg j2 (by rw [List.length_append]; omega)).mono' ?_
  rintro _ w4 ⟨rfl, I4, hO4, hS4⟩
  have hS5 : St u w4 (J ++ (I ++ R)) := hS4.to
  refine ⟨_, rfl, fun hq => ⟨?_, I, hO, hS5⟩, fun hq => ?_⟩
  ·simp only [bls] at hq
   cases hs : same1 (armT vars ff (kids.map (tyX ds ss))) with
   | none => rfl
   | some t' =>
    exfalso
    have h1 := same1_some hs _ (List.mem_of_getElem? (arm_nth (i := i) i0 hil hfl))
    rw [h1, gD_some] at hq
    have hnn := tyX_nn hg.sg _ _ _ hvn h1
    rcases hq with hq | ⟨hq, hq2⟩
    ·omega
    ·have h2 := hj 0 (by omega) (by omega)
     have h3 := same1_some hs _ (List.mem_of_getElem? (arm_nth (i := 0) (by omega) (by omega) hfl))
     rw [h2] at h3
     cases h3
     exact hq2 rfl
  ·simp only [bls] at hq
   refine go_wr (by omega) (by omega) ?_
   refine ⟨rfl, rfl, ⟨⟨I, hO, hS5⟩, by omega, by omega, fun h => by omega, fun j j0 j1 => ?_⟩, by omega⟩
   by_cases e : j = i
   ·subst e; exact gD_eq (by omega)
   ·have h2 := hj j j0 (by omega)
    rcases hq.2 with h3 | h3
    ·omega
    ·rw [h3]; exact h2
 ·simp only [bls] at hi
  refine ⟨?_, I, hO, hS⟩
  congr 1
  by_cases hk0 : kids.length = 0
  ·have hke : kids = [] := List.eq_nil_of_length_eq_zero hk0
   subst hke
   rw [ht (by omega)]
   unfold armT
   simp
   rfl
  ·have hlen : (armT vars ff (kids.map (tyX ds ss))).length = kids.length := by unfold armT; simp; omega
   rw [same1_of (t := t) ?_ ?_]
   ·rfl
   ·intro q hq
    obtain ⟨k, hk1, rfl⟩ := List.getElem_of_mem hq
    have h1 := arm_nth (ds := ds) (ss := ss) (vars := vars) (i := (k : Int)) (by omega) (by omega) hfl
    rw [Int.toNat_natCast, List.getElem?_eq_getElem hk1] at h1
    rw [Option.some.inj h1]
    exact hj k (by omega) (by omega)
   ·intro h
    rw [h] at hlen
    simp at hlen
    omega
end
end Go.Vc

namespace Go.Vc
open Go Go.Proofs Go.RowKit
set_option linter.all false
section
variable {u v w : World} {x y z s f kx fx tx : Sl} {vars T W : List Int} {ds : List DeclD} {fs : List FunD} {ss : List SigD} {e : ExprD} {kids : List ExprD} {ff : List (List Int)} {n num op t : Int} {I J L R : Items}
/-- append(vars, t), with the way back -/
theorem app_back {x10 : Sl} {K : Value → World → Prop} {ty : TypeId} (hO : Own u z vars I) (hO1 : Own u x10 [t] J) (hS : St u w (J ++ (I ++ R))) (hb : vars.length ≤ 1000000)
  (k : ∀ x13 w12 I2 R2, Own u x13 (vars ++ [t]) I2 → St u w12 (I2 ++ R2) → (∀ w' I', Own u x13 (vars ++ [t]) I' → St u w' (I' ++ R2) → ∃ I'', Own u z vars I'' ∧ St u w' (I'' ++ R)) → K x13.val w12) :
  StepT Try.prog (Builtin.append_ #[27, 27] ty #[z.val, x10.val]) w K := by
 have hz := (hO.read hS).n
 refine hO.appendK hS (Own.src hO1 hS) (by simp; omega) (by decide) ?_ ?_
 ·intro w' I' hO' hS'
  refine k _ w' I' (J ++ R) hO' hS'.to fun w2 I2 h1 h2 => ⟨I2, ?_, h2.to⟩
  have h3 := h1.front
  rwa [← hz] at h3
 ·intro x' w' I' hO' hS'
  exact k _ w' I' (J ++ (I ++ R)) hO' hS' fun w2 I2 h1 h2 => ⟨I, hO, h2.to⟩
theorem c_typeOfI (e : ExprD) : TyI ds ss e := by
 classical
 refine ex_ind (P := TyI ds ss) (fun e H => ?_) e
 intro u v x s z f vars I R hg hO hS hv hf hi hb
 have hi' := hi
 rw [nodesE_eq] at hb
 have hfn := hf.n
 have hfl := hf.le
 have hz := hO.read hS
 have hzn := hz.n
 have hzl := hz.le
 have hsm := hg.sm
 have hdl := hsm.len
 have kid : ∀ (i : Int), 0 ≤ i → i < e.kids.length → ∃ g : Sl, (∀ w', Sub u w' → w'.cell? ((elA f i 3).add 0) = some (.int .i64 (nth e.kids i).op) ∧ w'.cell? ((elA f i 3).add 1) = some (.int .i64 (nth e.kids i).num) ∧ w'.cell? ((elA f i 3).add 2) = some g.val) ∧
   ∀ (w2 : World) (z2 : Sl) (vars2 : List Int) (I2 R2 : Items), Own u z2 vars2 I2 → St u w2 (I2 ++ R2) → nonneg vars2 → vars2.length ≤ vars.length + 1 → Trip Try.prog 21 #[.agg #[x.val, s.val], z2.val, .agg #[.int .i64 (nth e.kids i).op, .int .i64 (nth e.kids i).num, g.val]] w2 fun r w' => r = .int .i64 (gD (tyX ds ss (nth e.kids i) vars2)) ∧ ∃ I', Own u z2 vars2 I' ∧ St u w' (I' ++ R2) := by
  intro i i0 i1
  obtain ⟨g, a1, a2, a3, a4, a5, rg⟩ := (hf.src (.refl u)).ofExprD i0 i1
  refine ⟨g, fun w' hs => ⟨cell_sub hs a1, cell_sub hs a2, cell_sub hs a3⟩, fun w2 z2 vars2 I2 R2 h1 h2 h3 h4 => ?_⟩
  have hm := nth_mem (l := e.kids) i0 i1
  have := nodes_mem hm
  exact H _ hm u w2 x s z2 g vars2 I2 R2 hg h1 h2 h3 rg a5 (by omega)
 by_cases o12 : e.op = 12
 ·rw [tyX_eq]
  refine of21 _ _ _ _ _ _ _ _ ?_
  unfold vc21
  repeat (first | refine ⟨fun h => absurd (of_decide_eq_true h) (by omega), fun _ => ?_⟩ | refine ⟨fun _ => ?_, fun h => absurd (of_decide_eq_false h) (by omega)⟩)
  have hnd : ndT ds ss e.op e.num (e.kids.map (tyX ds ss)) vars = if e.kids.length = 0 ∧ 0 ≤ e.num ∧ e.num < vars.length then some (nth vars e.num) else none := by
   unfold ndT
   rw [if_pos o12, List.length_map]
  rw [hnd]
  refine ⟨fun hq => ⟨?_, I, hO, hS⟩, fun hq => ?_⟩
  ·simp only [bls] at hq
   rw [if_neg (by omega)]
   rfl
  ·simp only [bls] at hq
   refine go_ix hz (by omega) (by omega) ?_
   refine ld_int hz (by omega) (by omega) ?_
   intro c0 c1
   rw [if_pos (by omega)]
   exact ⟨rfl, I, hO, hS⟩
 by_cases o13 : e.op = 13
 ·rw [tyX_eq]
  refine of21 _ _ _ _ _ _ _ _ ?_
  unfold vc21
  repeat (first | refine ⟨fun h => absurd (of_decide_eq_true h) (by omega), fun _ => ?_⟩ | refine ⟨fun _ => ?_, fun h => absurd (of_decide_eq_false h) (by omega)⟩)
  have hnd : ndT ds ss e.op e.num (e.kids.map (tyX ds ss)) vars = if e.kids.length = 2 ∧ e.num = 0 then (kf (e.kids.map (tyX ds ss)) 0 vars).bind fun t => kf (e.kids.map (tyX ds ss)) 1 (vars ++ [t]) else none := by
   unfold ndT
   rw [if_neg o12, if_pos o13, List.length_map]
  rw [hnd]
  refine ⟨fun hq => ⟨?_, I, hO, hS⟩, fun hq => ?_⟩
  ·simp only [bls] at hq
   rw [if_neg (by omega)]
   rfl
  simp only [bls] at hq
  rw [if_pos (by omega), kf_map (by omega), kf_map (by omega)]
  obtain ⟨g0, hc0, ht0⟩ := kid 0 (by omega) (by omega)
  obtain ⟨g1, hc1, ht1⟩ := kid 1 (by omega) (by omega)
  refine go_ix hf (by omega) (by omega) ?_
  refine ⟨_, _, g0, hc0 v hS.sub, ?_⟩
  refine (ht0 v z vars I R hO hS hv (by omega)).mono' ?_
  clear hO hS hz
  rintro _ w6 ⟨rfl, I, hO, hS⟩
  refine ⟨_, rfl, fun hq2 => ⟨?_, I, hO, hS⟩, fun hq2 => ?_⟩
  ·simp only [bls] at hq2
   have : tyX ds ss (nth e.kids 0) vars = none := by
    cases ht : tyX ds ss (nth e.kids 0) vars with
    | none => rfl
    | some t => have := tyX_nn hg.sg _ _ _ hv ht; rw [ht, gD_some] at hq2; omega
   rw [show ((0 : Nat) : Int) = 0 from rfl, this]
   rfl
  simp only [bls] at hq2
  obtain ⟨t, ht⟩ : ∃ t, tyX ds ss (nth e.kids 0) vars = some t := ⟨_, gD_eq (by omega)⟩
  have htn := tyX_nn hg.sg _ _ _ hv ht
  have hvt : nonneg (vars ++ [t]) := hv.app fun q hq => by rw [List.mem_singleton.1 hq]; exact htn
  have hgd : gD (tyX ds ss (nth e.kids 0) vars) = t := by rw [ht]; rfl
  have hres : ∀ r : Value, r = .int .i64 (gD (tyX ds ss (nth e.kids 1) (vars ++ [t]))) → r = .int .i64 (gD ((tyX ds ss (nth e.kids ((0 : Nat) : Int)) vars).bind fun t => tyX ds ss (nth e.kids ((1 : Nat) : Int)) (vars ++ [t]))) := by
   rintro _ rfl
   rw [show ((0 : Nat) : Int) = 0 from rfl, ht]
   rfl
  rw [hgd]
  -- the last call
  have fin : ∀ (x13 : Sl) (w12 : World) (I2 R2 : Items), Own u x13 (vars ++ [t]) I2 → St u w12 (I2 ++ R2) → (∀ w' I', Own u x13 (vars ++ [t]) I' → St u w' (I' ++ R2) → ∃ I'', Own u z vars I'' ∧ St u w' (I'' ++ R)) →
    Trip Try.prog 21 #[.agg #[x.val, s.val], x13.val, .agg #[.int .i64 (nth e.kids 1).op, .int .i64 (nth e.kids 1).num, g1.val]] w12 fun r w18 => ∃ n19 : Int, r = .int .i64 n19 ∧ (Value.int .i64 n19 = .int .i64 (gD ((tyX ds ss (nth e.kids ((0 : Nat) : Int)) vars).bind fun t => tyX ds ss (nth e.kids ((1 : Nat) : Int)) (vars ++ [t]))) ∧ ∃ I', Own u z vars I' ∧ St u w18 (I' ++ R)) := by
   intro x13 w12 I2 R2 h1 h2 h3
   refine (ht1 w12 x13 (vars ++ [t]) I2 R2 h1 h2 hvt (by simp)).mono' ?_
   rintro _ w18 ⟨rfl, I5, h5, h6⟩
   exact ⟨_, rfl, hres _ rfl, h3 w18 I5 h5 h6⟩
  have ix1 : IxOk f 1 := hf.ix (by omega) (by omega)
  have bld : ∀ {w : World} {K : Value → World → Prop}, St u w (I ++ R) → (∀ (x10 : Sl) (w9 : World) (J : Items), Own u x10 [t] J → St u w9 (J ++ (I ++ R)) → K x10.val w9) → StepT Try.prog (Instr.buildSlice 27 1 #[(0, (.int .i64 t))]) w K := by
   intro w K hS k
   exact St.build (α := Int) (l := [t]) hS (.cons (.int ⟨by omega, by omega⟩) .nil) rfl (by decide) fun x1 w1 I1 h1 h2 _ => k x1 w1 I1 h1 h2
  refine ⟨?_, ix1, ?_, _, _, g1, hc1 w6 hS.sub, ?_⟩
  ·refine bld hS fun x10 w9 J h1 h2 => ⟨x10, rfl, ?_, ix1, ?_, _, _, g1, hc1 w9 h2.sub, ?_⟩
   ·exact app_back hO h1 h2 (by omega) fun x13 w12 I2 R2 k1 k2 k3 => ⟨x13, rfl, ix1, _, _, g1, hc1 w12 k2.sub, fin _ _ _ _ k1 k2 k3⟩
   ·exact app_back hO h1 h2 (by omega) fun x13 w12 I2 R2 k1 k2 k3 => ⟨x13, rfl, _, _, g1, hc1 w12 k2.sub, fin _ _ _ _ k1 k2 k3⟩
   ·exact app_back hO h1 h2 (by omega) fun x13 w12 I2 R2 k1 k2 k3 => ⟨x13, rfl, fin _ _ _ _ k1 k2 k3⟩
  ·refine bld hS fun x10 w9 J h1 h2 => ⟨x10, rfl, ?_, _, _, g1, hc1 w9 h2.sub, ?_⟩
   ·exact app_back hO h1 h2 (by omega) fun x13 w12 I2 R2 k1 k2 k3 => ⟨x13, rfl, _, _, g1, hc1 w12 k2.sub, fin _ _ _ _ k1 k2 k3⟩
   ·exact app_back hO h1 h2 (by omega) fun x13 w12 I2 R2 k1 k2 k3 => ⟨x13, rfl, fin _ _ _ _ k1 k2 k3⟩
  ·refine bld hS fun x10 w9 J h1 h2 => ⟨x10, rfl, ?_⟩
   exact app_back hO h1 h2 (by omega) fun x13 w12 I2 R2 k1 k2 k3 => ⟨x13, rfl, fin _ _ _ _ k1 k2 k3⟩
 have hdrop : nodesL (e.kids.drop 1) ≤ nodesL e.kids := by have := nodesL_take e.kids 1; omega
 have hcutk : ∀ (_ : 1 ≤ e.kids.length), Read u (f.cut 1 (f.n : Int) 3) (e.kids.drop 1) := fun h1 => by
  have := ReadB.cut hf (lo := 1) (hi := (f.n : Int)) (by omega) (by omega) (by omega)
  rwa [show ((f.n : Int)).toNat = e.kids.length from by omega, List.take_length] at this
 by_cases o7 : e.op = 7
 ·rw [tyX_eq]
  refine of21 _ _ _ _ _ _ _ _ ?_
  unfold vc21
  repeat (first | refine ⟨fun h => absurd (of_decide_eq_true h) (by omega), fun _ => ?_⟩ | refine ⟨fun _ => ?_, fun h => absurd (of_decide_eq_false h) (by omega)⟩)
  have hnd : ndT ds ss e.op e.num (e.kids.map (tyX ds ss)) vars = if e.kids.length = 3 ∧ e.num = 0 ∧ kf (e.kids.map (tyX ds ss)) 0 vars = some 0 then same1 (armT vars [[], []] ((e.kids.map (tyX ds ss)).drop 1)) else none := by
   unfold ndT
   rw [if_neg o12, if_neg o13, if_pos o7, List.length_map]
  rw [hnd]
  by_cases hl : e.kids.length = 3 ∧ e.num = 0
  ·obtain ⟨g0, hc0, ht0⟩ := kid 0 (by omega) (by omega)
   rw [kf_map (by omega)]
   refine ⟨fun _ => hf.ix (by omega) (by omega), _, _, g0, fun _ => hc0 v hS.sub, fun _ => ?_, fun hq => ?_⟩
   ·refine (ht0 v z vars I R hO hS hv (by omega)).mono' ?_
    clear hO hS hz
    rintro _ w6 ⟨rfl, I, hO, hS⟩
    refine ⟨_, rfl, fun hq => ⟨?_, I, hO, hS⟩, fun hq => ⟨⟨by omega, by omega⟩, ?_⟩⟩
    ·simp only [bls] at hq
     rw [if_neg]
     ·rfl
     rintro ⟨_, _, h3⟩
     rw [show ((0 : Nat) : Int) = 0 from rfl] at h3
     rw [h3, gD_some] at hq
     omega
    ·simp only [bls] at hq
     have h0 := (gD_iff (Int.le_refl 0)).1 hq
     rw [if_pos ⟨hl.1, hl.2, h0⟩]
     refine St.make (α := List Int) ([] : List Int) hS ⟨⟨none, 0, 0⟩, rfl, ReadB.nil⟩ (by omega) (by omega) (by decide) ?_
     intro x1 w7 J hO1 hS1 hs1
     refine ⟨_, rfl, hs1, ?_⟩
     refine (c_oneTypeI (kids := e.kids.drop 1) (ff := List.replicate 2 []) (fun k hk => H k (List.mem_of_mem_drop hk)) hg hO hO1 hS1 hv (hcutk (by omega)) (by simp; omega) (fun i => ?_) (by omega)).mono' ?_
     ·have : nth (List.replicate 2 ([] : List Int)) i = [] := by
       unfold nth List.getD
       rw [List.getElem?_replicate]
       split <;> rfl
      rw [this]
      exact ⟨fun q hq => (by cases hq), Nat.zero_le _⟩
     rintro _ w8 ⟨rfl, I2, hO2, hS2⟩
     refine ⟨_, rfl, ?_, I2, hO2, hS2.to⟩
     rw [List.map_drop]
     rfl
   ·simp only [bls] at hq
    omega
  ·have hbad : ((!decide ((f.n : Int) = 3)) || (!decide (e.num = 0))) = true := by
    simp only [bls]
    omega
   rw [if_neg (fun h => hl ⟨h.1, h.2.1⟩)]
   exact ⟨fun h => (by rw [hbad] at h; cases h), 0, 0, ⟨none, 0, 0⟩, fun h => (by rw [hbad] at h; cases h), fun h => (by rw [hbad] at h; cases h), fun _ => ⟨rfl, I, hO, hS⟩⟩
 by_cases o8 : e.op = 8
 ·refine of21 _ _ _ _ _ _ _ _ ?_
  unfold vc21
  repeat (first | refine ⟨fun h => absurd (of_decide_eq_true h) (by omega), fun _ => ?_⟩ | refine ⟨fun _ => ?_, fun h => absurd (of_decide_eq_false h) (by omega)⟩)
  have hcl := consL_len3 (n := e.num) hsm
  have hty : tyX ds ss e vars = if 0 < (consL ds e.num).length ∧ e.kids.length = 1 + (consL ds e.num).length ∧ kf (e.kids.map (tyX ds ss)) 0 vars = some e.num then same1 (armT vars (armF ds e.num) ((e.kids.map (tyX ds ss)).drop 1)) else none := by
   rw [tyX_eq]
   unfold ndT
   rw [if_neg o12, if_neg o13, if_neg o7, if_pos o8, armF_len, List.length_map]
  refine Mk.use (c_implConsOf hg.hx hsm hi) hS ?_
  rintro _ w2 J1 ⟨x3, rfl, hO1⟩ hS2 hs2
  have hr := hO1.read hS2
  have hrn := hr.n
  refine ⟨_, rfl, ?_⟩
  refine go_wrg (fun _ => by omega) ?_
  by_cases hlen : 0 < (consL ds e.num).length ∧ e.kids.length = 1 + (consL ds e.num).length
  ·obtain ⟨g0, hc0, ht0⟩ := kid 0 (by omega) (by omega)
   have hk0 : kf (e.kids.map (tyX ds ss)) 0 = tyX ds ss (nth e.kids 0) := kf_map (by omega)
   refine ⟨fun _ => hf.ix (by omega) (by omega), _, _, g0, fun _ => hc0 w2 hS2.sub, ?_⟩
   refine (fun (h : _ ∧ _) => And.intro h (And.intro h (And.intro h.1 h.2))) ?_
   refine ⟨fun _ => ?_, fun hq => ?_⟩
   ·refine (ht0 w2 z vars I (J1 ++ R) hO hS2.to hv (by omega)).mono' ?_
    rintro _ w3 ⟨rfl, I3, hO3, hS3⟩
    refine ⟨_, rfl, fun hq => ⟨?_, I3, hO3, hS3.to⟩, fun hq => ?_⟩
    ·simp only [bls] at hq
     rw [hty, if_neg]
     ·rfl
     rintro ⟨_, _, h3⟩
     rw [hk0] at h3
     rw [h3, gD_some] at hq
     exact hq rfl
    simp only [bls] at hq
    have hnum0 : 0 ≤ e.num := by
     have : consL ds e.num ≠ [] := fun h => by rw [h] at hlen; simp at hlen
     unfold consL at this
     split at this
     ·omega
     ·exact absurd rfl this
    have hk3 : kf (e.kids.map (tyX ds ss)) 0 vars = some e.num := by
     rw [hk0]
     exact (gD_iff hnum0).1 hq
    rw [hty, if_pos ⟨hlen.1, hlen.2, hk3⟩]
    refine St.make (α := List Int) ([] : List Int) hS3 ⟨⟨none, 0, 0⟩, rfl, ReadB.nil⟩ (by omega) (by omega) (by decide) ?_
    intro x4 w4 J4 hO4 hS4 hs4
    refine ⟨_, rfl, ?_⟩
    refine ⟨fun i w => (∃ J L, Own u x4 L J ∧ St u w (J ++ (I3 ++ (J1 ++ R))) ∧ L.length = (consL ds e.num).length ∧ ∀ j : Int, 0 ≤ j → j < i → nth L j = conF ds (nth (consL ds e.num) j)) ∧ 0 ≤ i ∧ i ≤ (consL ds e.num).length, fun i _ => ((consL ds e.num).length - i).toNat, ⟨⟨J4, _, hO4, hS4, by simp; omega, fun j j0 j1 => by omega⟩, by omega, by omega⟩, ?_⟩
    clear hO4 hS4 hs4
    rintro i w5 ⟨⟨J, L, hO5, hS5, hL, hj⟩, i0, i1⟩
    dsimp only
    have hr5 := hO1.read hS5
    refine ⟨fun hi => ?_, fun hi => ?_⟩
    ·simp only [bls] at hi
     refine go_ix hr5 i0 (by omega) ?_
     refine ld_int hr5 i0 (by omega) ?_
     intro c0 c1
     obtain ⟨z6, r6, hf6⟩ := c_fieldsOfE (n := nth (consL ds e.num) i) hg.hx hsm ⟨c0, c1⟩
     refine ⟨z6, Trip.fr hf6 hS5 (fun r u' w' ⟨h1, h2⟩ _ h4 => ⟨h1, h4 h2⟩), (hO5.read hS5).ix i0 (by omega), ?_⟩
     refine Own.store (α := List Int) hO5 hS5 i0 (by omega) (conF ds (nth (consL ds e.num) i)) (Nat.le_refl _) (fun r hr => ?_) ?_
     ·obtain ⟨q, rfl, _⟩ := hr
      exact ⟨z6, rfl, r6⟩
     intro w6 J6 hO6 hS6
     refine go_wr (by omega) (by omega) ?_
     refine ⟨rfl, rfl, rfl, rfl, rfl, ⟨⟨J6, _, hO6, hS6.to, by rw [List.length_set]; exact hL, fun j j0 j1 => ?_⟩, by omega, by omega⟩, by omega⟩
     by_cases ej : j = i
     ·subst ej
      exact nth_of (by rw [List.getElem?_set, if_pos rfl, if_pos (by omega)])
     ·rw [← hj j j0 (by omega)]
      unfold nth List.getD
      rw [List.getElem?_set, if_neg (by omega)]
    ·simp only [bls] at hi
     have hLe : L = armF ds e.num := by
      refine List.ext_getElem (by rw [hL, armF_len]) fun k h1 h2 => ?_
      have h3 := hj (k : Int) (by omega) (by omega)
      rw [nth_of (a := L[k]) (by simp [h1])] at h3
      have h4 : (armF ds e.num)[k]? = some (conF ds (nth (consL ds e.num) (k : Int))) := by
       unfold armF
       rw [List.getElem?_map]
       have := nth_get (l := consL ds e.num) (i := (k : Int)) (by omega) (by omega)
       simp only [Int.toNat_natCast] at this
       rw [this]; rfl
      rw [List.getElem?_eq_getElem h2] at h4
      rw [h3, Option.some.inj h4]
     subst hLe
     refine ⟨⟨by omega, by omega⟩, ?_⟩
     refine (c_oneTypeI (kids := e.kids.drop 1) (ff := armF ds e.num) (R := J1 ++ R) (fun k hk => H k (List.mem_of_mem_drop hk)) hg hO3 hO5 hS5 hv (hcutk (by omega)) (by rw [armF_len]; simp; omega) (fun i => ?_) (by omega)).mono' ?_
     ·by_cases hin : i.toNat < (armF ds e.num).length
      ·have hm : nth (armF ds e.num) i ∈ armF ds e.num := by
        have e1 : nth (armF ds e.num) i = (armF ds e.num)[i.toNat] := nth_of (List.getElem?_eq_getElem hin)
        rw [e1]; exact List.getElem_mem hin
       exact armF_nnM hg.sg.1 hm
      ·have : nth (armF ds e.num) i = [] := by
        unfold nth List.getD
        rw [List.getElem?_eq_none (by omega)]; rfl
       rw [this]
       exact ⟨fun q hq => (by cases hq), Nat.zero_le _⟩
     rintro _ w8 ⟨rfl, I2, hO2, hS2⟩
     refine ⟨_, rfl, ?_, I2, hO2, hS2.to⟩
     rw [List.map_drop]
   ·simp only [bls] at hq
    omega
  ·have hbad : ((decide ((x3.n : Int) = 0)) || (!decide ((f.n : Int) = 1 + (x3.n : Int)))) = true := by
    simp only [bls]; omega
   have hfin : Value.int .i64 (-1) = .int .i64 (gD (tyX ds ss e vars)) ∧ ∃ I', Own u z vars I' ∧ St u w2 (I' ++ R) := by
    refine ⟨?_, I, hO, hS2.to⟩
    rw [hty, if_neg (fun h => hlen ⟨h.1, h.2.1⟩)]
    rfl
   refine ⟨fun h => (by rw [hbad] at h; cases h), 0, 0, ⟨none, 0, 0⟩, fun h => (by rw [hbad] at h; cases h), ?_⟩
   refine (fun (h : _ ∧ _) => And.intro h (And.intro h (And.intro h.1 h.2))) ?_
   exact ⟨fun h => (by rw [hbad] at h; cases h), fun _ => hfin⟩
 ·rw [tyX_eq, ndT_sim ⟨o12, o13, o7, o8⟩, mapMap]
  refine of21 _ _ _ _ _ _ _ _ ?_
  unfold vc21
  repeat (first | refine ⟨fun h => absurd (of_decide_eq_true h) (by omega), fun _ => ?_⟩ | refine ⟨fun _ => ?_, fun h => absurd (of_decide_eq_false h) (by omega)⟩)
  refine St.makeInts hS (by omega) (by omega) (by decide) ?_
  intro x1 w1 J1 hO1 hS1 hs1
  refine ⟨_, rfl, ?_⟩
  refine ⟨fun i w => (∃ I J L, Own u z vars I ∧ Own u x1 L J ∧ St u w (I ++ (J ++ R)) ∧ L.length = e.kids.length ∧ ∀ j : Int, 0 ≤ j → j < i → tyX ds ss (nth e.kids j) vars = some (nth L j)) ∧ 0 ≤ i ∧ i ≤ e.kids.length, fun i _ => (e.kids.length - i).toNat, ⟨⟨I, J1, _, hO, hO1, hS1.to, by simp; omega, fun j j0 j1 => by omega⟩, by omega, by omega⟩, ?_⟩
  clear hO hS hz hO1 hS1 hs1
  rintro i w2 ⟨⟨I, J, L, hO, hO1, hS, hL, hj⟩, i0, i1⟩
  dsimp only
  refine ⟨fun hi => ?_, fun hi => ?_⟩
  ·simp only [bls] at hi
   have hil : i < e.kids.length := by omega
   obtain ⟨g0, hc0, ht0⟩ := kid i i0 hil
   refine go_ix hf i0 hil ?_
   refine ⟨_, _, g0, hc0 w2 hS.sub, ?_⟩
   refine (ht0 w2 z vars I (J ++ R) hO hS hv (by omega)).mono' ?_
   clear hO hS
   rintro _ w3 ⟨rfl, I, hO, hS⟩
   have hbd : InI (gD (tyX ds ss (nth e.kids i) vars)) := by
    cases ht : tyX ds ss (nth e.kids i) vars with
    | none => exact ⟨by decide, by decide⟩
    | some t => have := tyX_nn hg.sg _ _ _ hv ht; rw [gD_some]; exact ⟨by omega, by omega⟩
   refine ⟨_, rfl, (hO1.read hS).ix i0 (by omega), ?_⟩
   refine st_int hO1 hS i0 (by omega) hbd ?_
   intro w4 J4 hO4 hS4
   have hr4 := hO4.read hS4
   have hset : nth (L.set i.toNat (gD (tyX ds ss (nth e.kids i) vars))) i = gD (tyX ds ss (nth e.kids i) vars) := nth_of (by rw [List.getElem?_set, if_pos rfl, if_pos (by omega)])
   refine go_ix hr4 i0 (by rw [List.length_set]; omega) ?_
   refine ld_int hr4 i0 (by rw [List.length_set]; omega) ?_
   intro c0 c1
   rw [hset]
   refine ⟨fun hq => ⟨?_, I, hO, hS4.to⟩, fun hq => ?_⟩
   ·simp only [bls] at hq
    have hn : tyX ds ss (nth e.kids i) vars = none := by
     cases ht : tyX ds ss (nth e.kids i) vars with
     | none => rfl
     | some t => have := tyX_nn hg.sg _ _ _ hv ht; rw [ht, gD_some] at hq; omega
    have : allT (e.kids.map fun k => tyX ds ss k vars) = none := by
     cases hT : allT (e.kids.map fun k => tyX ds ss k vars) with
     | none => rfl
     | some T =>
      have := (mapEq.1 (allT_some.1 hT)).2 i i0 hil
      rw [hn] at this; cases this
    rw [this]
    rfl
   ·simp only [bls] at hq
    refine go_wr (by omega) (by omega) ?_
    refine ⟨rfl, rfl, rfl, rfl, rfl, ⟨⟨I, J4, _, hO, hO4, hS4.to, by rw [List.length_set]; exact hL, fun j j0 j1 => ?_⟩, by omega, by omega⟩, by omega⟩
    by_cases ej : j = i
    ·subst ej
     rw [hset]
     exact gD_eq (by omega)
    ·rw [hj j j0 (by omega)]
     congr 1
     unfold nth List.getD
     rw [List.getElem?_set, if_neg (by omega)]
  ·simp only [bls] at hi
   have hall : allT (e.kids.map fun k => tyX ds ss k vars) = some L := allT_some.2 (mapEq.2 ⟨hL.symm, fun j j0 j1 => hj j j0 (by omega)⟩)
   have hr := hO1.read hS
   obtain ⟨n, q, hF, hR⟩ := c_simpleTypeA (op := e.op) (num := e.num) (hg.hx.mono hS.sub) (hg.hs.mono hS.sub) hr hg.sg hi' (fun _ _ _ => hg.le _)
   rw [hall, Option.bind_some]
   refine ⟨n, q, hF, fun hq => ⟨?_, I, hO, hS.to⟩, fun hq => ⟨?_, I, hO, hS.to⟩⟩
   ·rw [hR.2 (by simpa using hq)]
    rfl
   ·rw [hR.1 (by simpa using hq)]
    rfl
end
end Go.Vc

namespace Go.Vc
open Go Go.Proofs Go.RowKit
set_option linter.all false
section
variable {u v w : World} {x y z s f kx fx tx : Sl} {vars T W : List Int} {ds : List DeclD} {fs : List FunD} {ss : List SigD} {e : ExprD} {n num op t : Int} {I J L R : Items}
theorem all_nn {N : Nat} (hN : N ≤ 4) (h : vars.all (typeB N) = true) : nonneg vars := fun t ht => by
 have := List.all_eq_true.1 h t ht
 unfold typeB at this
 simp only [Bool.and_eq_true, decide_eq_true_eq] at this
 omega
open Classical in
theorem c_TypeOfI (hx : Read v x ds) (hy : Read v y fs) (hz : Read v z vars) (hb : vars.length ≤ 1000) (hf : Read v f e.kids) (hi : InI e.num) :
  Fn Try.prog 5 #[.agg #[x.val, y.val], z.val, .agg #[.int .i64 e.op, .int .i64 e.num, f.val]] v (.int .i64 (if sigSigs ds (fs.map sgE) ∧ nodesE e ≤ 30 ∧ vars.all (typeB ds.length) = true then gD (tyX ds (fs.map sgE) e vars) else -1)) := by
 refine of5 _ _ _ _ _ _ _ _ ?_
 unfold vc5
 have hxn := hx.n
 have hxl := hx.le
 refine ⟨_, c_implValidSigsF hx hy, _, fun _ => c_NodesOf hf, _, fun _ => c_implAllTypes hxn hz, fun hq => ⟨?_, .refl v⟩, fun hq => ?_⟩
 ·rw [if_neg]
  rintro ⟨h1, h2, h3⟩
  rw [pB_t h1, if_pos h2, h3] at hq
  simp at hq
  omega
 ·simp only [Bool.or_eq_false_iff, Bool.not_eq_false', decide_eq_false_iff_not] at hq
  obtain ⟨⟨h1, h2⟩, h3⟩ := hq
  have hsg := pB_iff.1 h1
  have hnd : nodesE e ≤ 30 := Classical.byContradiction fun hh => by rw [if_neg hh] at h2; omega
  rw [if_pos ⟨hsg, hnd, h3⟩]
  refine Mk.use (c_sigsOf hx hy) (.refl v) ?_
  rintro _ w1 J1 ⟨s1, rfl, hO1⟩ hS1 hs1
  refine ⟨_, _, rfl, hs1, ?_⟩
  refine Mk.use (c_cloneInts hz) hS1 ?_
  rintro _ w2 J2 ⟨z2, rfl, hO2⟩ hS2 hs2
  refine ⟨_, rfl, hs2, ?_⟩
  obtain ⟨u2, hu, hSu, hSJ⟩ := (hS2.to : St v w2 (J1 ++ (J2 ++ []))).freeze J1
  refine (c_typeOfI e u2 w2 x s1 z2 f vars J2 [] ⟨hx.mono hu, hO1.read (by simpa using hSJ : St v u2 (J1 ++ [])), hsg, fun i => ?_⟩ (hO2.ofInts (u' := u2)) hSu (all_nn hsg.1.1 h3) (hf.mono hu) hi (by omega)).mono' ?_
  ·rw [nth_sgE]; rfl
  rintro _ w3 ⟨rfl, I3, _, hS3⟩
  exact ⟨_, rfl, rfl, hu.trans hS3.sub⟩
end
end Go.Vc

namespace Go.Vc
open Go Go.Proofs Go.RowKit
set_option linter.all false
mutual
/-- an expression in which variables from one on have greater numbers -/
def shE (t b : Int) : ExprD → ExprD
 | ⟨op, num, kids⟩ => ⟨op, if op = 12 ∧ t ≤ num then num + b else num, shL t b kids⟩
def shL (t b : Int) : List ExprD → List ExprD
 | [] => []
 | k :: r => shE t b k :: shL t b r
end
mutual
/-- all variables have numbers in a range -/
def vfE : ExprD → Bool
 | ⟨op, num, kids⟩ => (!decide (op = 12) || (decide (0 ≤ num) && decide (num ≤ 99))) && vfL kids
def vfL : List ExprD → Bool
 | [] => true
 | k :: r => vfE k && vfL r
end
section
variable {ds : List DeclD} {ss : List SigD} {vars W T : List Int} {e : ExprD} {a t b n : Int} {kids : List ExprD} {L : List (Option Int)}
theorem shL_map : ∀ l : List ExprD, shL t b l = l.map (shE t b)
 | [] => by rw [shL]; rfl
 | k :: r => by rw [shL, shL_map r]; rfl
theorem shE_eq (e : ExprD) : shE t b e = ⟨e.op, if e.op = 12 ∧ t ≤ e.num then e.num + b else e.num, e.kids.map (shE t b)⟩ := by
 cases e
 rw [shE, shL_map]
 rfl
theorem vfE_eq (e : ExprD) : vfE e = ((!decide (e.op = 12) || (decide (0 ≤ e.num) && decide (e.num ≤ 99))) && vfL e.kids) := by cases e; rw [vfE]; rfl
theorem vfL_cons (k : ExprD) (r : List ExprD) : vfL (k :: r) = (vfE k && vfL r) := by rw [vfL]
theorem vfL_nil : vfL [] = true := by rw [vfL]
theorem vfL_all : ∀ {l : List ExprD}, (∀ k ∈ l, vfE k = true) → vfL l = true
 | [], _ => vfL_nil
 | k :: r, h => by rw [vfL_cons, h k List.mem_cons_self, vfL_all fun q hq => h q (List.mem_cons_of_mem _ hq)]; rfl
theorem nodesL_sh (h : ∀ k ∈ kids, nodesE (shE t b k) = nodesE k) : nodesL (kids.map (shE t b)) = nodesL kids := by
 induction kids with
 | nil => rfl
 | cons k r ih => rw [List.map_cons, nodesL_cons, nodesL_cons, h k List.mem_cons_self, ih fun q hq => h q (List.mem_cons_of_mem _ hq)]
theorem nodesE_sh (e : ExprD) : nodesE (shE t b e) = nodesE e := by
 refine ex_ind (P := fun e => nodesE (shE t b e) = nodesE e) (fun e H => ?_) e
 rw [shE_eq, nodesE_eq, nodesE_eq e]
 show 1 + nodesL (e.kids.map (shE t b)) = 1 + nodesL e.kids
 rw [nodesL_sh H]
theorem nth_consI (h0 : 0 ≤ n) : nth (a :: vars) (n + 1) = nth vars n := by
 unfold nth List.getD
 rw [show (n + 1).toNat = n.toNat + 1 by omega, List.getElem?_cons_succ]
theorem kf_sh (H : ∀ k ∈ kids, ∀ vars, tyX ds ss (shE 0 1 k) (a :: vars) = tyX ds ss k vars) (i : Nat) (vars : List Int) : kf ((kids.map (shE 0 1)).map (tyX ds ss)) i (a :: vars) = kf (kids.map (tyX ds ss)) i vars := by
 unfold kf List.getD
 rw [List.getElem?_map, List.getElem?_map, List.getElem?_map]
 cases h : kids[i]? with
 | none => rfl
 | some k => exact H k (List.mem_of_getElem? h) vars
theorem armT_sh (H : ∀ k ∈ kids, ∀ vars, tyX ds ss (shE 0 1 k) (a :: vars) = tyX ds ss k vars) (fs : List (List Int)) (vars : List Int) :
  armT (a :: vars) fs ((kids.map (shE 0 1)).map (tyX ds ss)) = armT vars fs (kids.map (tyX ds ss)) := by
 unfold armT
 induction kids generalizing fs with
 | nil => cases fs <;> rfl
 | cons k r ih =>
  cases fs with
  | nil => rfl
  | cons f q =>
   simp only [List.map_cons, List.zipWith_cons_cons]
   rw [ih (fun k hk => H k (List.mem_cons_of_mem _ hk)), List.cons_append, H k List.mem_cons_self]
/-- types are kept when a variable comes before -/
theorem tyX_sh (e : ExprD) : ∀ vars, tyX ds ss (shE 0 1 e) (a :: vars) = tyX ds ss e vars := by
 refine ex_ind (P := fun e => ∀ vars, tyX ds ss (shE 0 1 e) (a :: vars) = tyX ds ss e vars) (fun e H vars => ?_) e
 rw [tyX_eq, tyX_eq (e := e), shE_eq]
 show ndT ds ss e.op (if e.op = 12 ∧ 0 ≤ e.num then e.num + 1 else e.num) ((e.kids.map (shE 0 1)).map (tyX ds ss)) (a :: vars) = _
 have hk := fun i vars => kf_sh H i vars
 have hl : ((e.kids.map (shE 0 1)).map (tyX ds ss)).length = (e.kids.map (tyX ds ss)).length := by simp
 have hd : ((e.kids.map (shE 0 1)).map (tyX ds ss)).drop 1 = ((e.kids.drop 1).map (shE 0 1)).map (tyX ds ss) := by rw [← List.map_drop, ← List.map_drop]
 have hd2 : (e.kids.map (tyX ds ss)).drop 1 = (e.kids.drop 1).map (tyX ds ss) := by rw [← List.map_drop]
 have ha := fun fs => armT_sh (kids := e.kids.drop 1) (fun k hk => H k (List.mem_of_mem_drop hk)) fs vars
 have hall : ((e.kids.map (shE 0 1)).map (tyX ds ss)).map (fun k => k (a :: vars)) = (e.kids.map (tyX ds ss)).map (fun k => k vars) := by
  rw [List.map_map, List.map_map, List.map_map]
  exact List.map_congr_left fun k hk => H k hk vars
 have hk1 : (fun t => kf ((e.kids.map (shE 0 1)).map (tyX ds ss)) 1 (a :: vars ++ [t])) = fun t => kf (e.kids.map (tyX ds ss)) 1 (vars ++ [t]) := by
  funext t
  rw [List.cons_append, hk]
 generalize hN : (if e.op = 12 ∧ 0 ≤ e.num then e.num + 1 else e.num) = N
 unfold ndT
 rw [hl, hd, hd2]
 by_cases o12 : e.op = 12
 ·rw [if_pos o12, if_pos o12]
  by_cases h0 : 0 ≤ e.num
  ·rw [if_pos (⟨o12, h0⟩ : e.op = 12 ∧ 0 ≤ e.num)] at hN
   subst hN
   by_cases h1 : (e.kids.map (tyX ds ss)).length = 0 ∧ 0 ≤ e.num ∧ e.num < vars.length
   ·rw [if_pos h1, if_pos ⟨h1.1, by omega, by simp; omega⟩, nth_consI h0]
   ·rw [if_neg h1, if_neg]
    rintro ⟨h2, h3, h4⟩
    exact h1 ⟨h2, h0, by simp at h4; omega⟩
  ·rw [if_neg (fun h => h0 h.2)] at hN
   subst hN
   rw [if_neg (fun h => h0 h.2.1), if_neg (fun h => h0 h.2.1)]
 rw [if_neg (fun h => o12 h.1)] at hN
 subst hN
 rw [if_neg o12, if_neg o12, hk1, hk, ha, ha, hall]
theorem same1_all (h : same1 L = some n) : ∀ q ∈ L, q = some n := by
 unfold same1 at h
 split at h
 ·rename_i t r
  split at h
  ·rename_i hr
   injection h with h
   subst h
   intro q hq
   rcases List.mem_cons.1 hq with rfl | hq
   ·rfl
   ·exact hr q hq
  ·cases h
 ·cases h
theorem armT_mem3 {k : ExprD} (hk : k ∈ kids) {fs : List (List Int)} (hl : kids.length = fs.length) : ∃ f ∈ fs, tyX ds ss k (vars ++ f) ∈ armT vars fs (kids.map (tyX ds ss)) := by
 unfold armT
 induction kids generalizing fs with
 | nil => cases hk
 | cons q r ih =>
  cases fs with
  | nil => cases hl
  | cons f g =>
   simp only [List.map_cons, List.zipWith_cons_cons]
   rcases List.mem_cons.1 hk with rfl | hk
   ·exact ⟨f, List.mem_cons_self, List.mem_cons_self⟩
   ·obtain ⟨f', h1, h2⟩ := ih hk (by simpa using hl)
    exact ⟨f', List.mem_cons_of_mem _ h1, List.mem_cons_of_mem _ h2⟩
theorem kf_of {i : Nat} {k : ExprD} (h : kids[i]? = some k) : kf (kids.map (tyX ds ss)) i = tyX ds ss k := by
 unfold kf List.getD
 rw [List.getElem?_map, h]
 rfl
/-- what has a type has kids that have types, with at most three variables more -/
theorem ty_kids (hF : ∀ n, ∀ f ∈ armF ds n, f.length ≤ 3) (h : tyX ds ss e vars = some n) : ∀ k ∈ e.kids, ∃ f t', f.length ≤ 3 ∧ tyX ds ss k (vars ++ f) = some t' := by
 rw [tyX_eq] at h
 unfold ndT at h
 by_cases o12 : e.op = 12
 ·rw [if_pos o12] at h
  split at h
  ·rename_i hh
   have : e.kids = [] := List.eq_nil_of_length_eq_zero (by simpa using hh.1)
   rw [this]
   intro k hk
   cases hk
  ·cases h
 rw [if_neg o12] at h
 by_cases o13 : e.op = 13
 ·rw [if_pos o13] at h
  split at h
  ·rename_i hh
   have hlen : e.kids.length = 2 := by simpa using hh.1
   obtain ⟨k0, k1, hks⟩ : ∃ k0 k1, e.kids = [k0, k1] := by
    cases hx : e.kids with
    | nil => rw [hx] at hlen; cases hlen
    | cons a r => cases r with
     | nil => rw [hx] at hlen; cases hlen
     | cons b r => cases r with
      | nil => exact ⟨_, _, rfl⟩
      | cons c r => rw [hx] at hlen; simp at hlen
   rw [kf_of (k := k0) (by rw [hks]; rfl)] at h
   cases h0 : tyX ds ss k0 vars with
   | none => rw [h0] at h; cases h
   | some t0 =>
    rw [h0] at h
    rw [Option.bind_some, kf_of (k := k1) (by rw [hks]; rfl)] at h
    intro k hk
    rw [hks] at hk
    rcases List.mem_cons.1 hk with rfl | hk
    ·exact ⟨[], t0, by simp, by rw [List.append_nil]; exact h0⟩
    ·rcases List.mem_cons.1 hk with rfl | hk
     ·exact ⟨[t0], n, by simp, h⟩
     ·cases hk
  ·cases h
 rw [if_neg o13] at h
 have harm : ∀ {fs : List (List Int)} {x : Int}, (∀ f ∈ fs, f.length ≤ 3) → e.kids.length = 1 + fs.length → kf (e.kids.map (tyX ds ss)) 0 vars = some x → same1 (armT vars fs ((e.kids.map (tyX ds ss)).drop 1)) = some n →
   ∀ k ∈ e.kids, ∃ f t', f.length ≤ 3 ∧ tyX ds ss k (vars ++ f) = some t' := by
  intro fs x hf hl h0 hs k hk
  cases hx : e.kids with
  | nil => rw [hx] at hk; cases hk
  | cons a r =>
   rw [hx] at hk hl h0 hs
   rcases List.mem_cons.1 hk with rfl | hk
   ·exact ⟨[], x, by simp, by rw [List.append_nil]; exact h0⟩
   ·obtain ⟨f, h1, h2⟩ := armT_mem3 (ds := ds) (ss := ss) (vars := vars) hk (fs := fs) (by simp at hl; omega)
    exact ⟨f, n, hf f h1, same1_all hs _ h2⟩
 by_cases o7 : e.op = 7
 ·rw [if_pos o7] at h
  split at h
  ·rename_i hh
   exact harm (fs := [[], []]) (by simp) (by simpa using hh.1) hh.2.2 h
  ·cases h
 rw [if_neg o7] at h
 by_cases o8 : e.op = 8
 ·rw [if_pos o8] at h
  split at h
  ·rename_i hh
   exact harm (hF _) (by simpa using hh.2.1) hh.2.2 h
  ·cases h
 rw [if_neg o8] at h
 cases hA : allT ((e.kids.map (tyX ds ss)).map fun k => k vars) with
 | none => rw [hA] at h; cases h
 | some T =>
  have := allT_some.1 hA
  intro k hk
  have hm : tyX ds ss k vars ∈ T.map some := by
   rw [← this, List.map_map]
   exact List.mem_map.2 ⟨k, hk, rfl⟩
  obtain ⟨t, _, ht⟩ := List.mem_map.1 hm
  exact ⟨[], t, by simp, by rw [List.append_nil]; exact ht.symm⟩
/-- the variables of what has a type have small numbers -/
theorem vf_ty (hF : ∀ n, ∀ f ∈ armF ds n, f.length ≤ 3) (e : ExprD) : ∀ vars n, vars.length + 3 * nodesE e ≤ 100 → tyX ds ss e vars = some n → vfE e = true := by
 refine ex_ind (P := fun e => ∀ vars n, vars.length + 3 * nodesE e ≤ 100 → tyX ds ss e vars = some n → vfE e = true) (fun e H vars n hb h => ?_) e
 rw [vfE_eq, Bool.and_eq_true]
 constructor
 ·by_cases o12 : e.op = 12
  ·rw [tyX_eq] at h
   unfold ndT at h
   rw [if_pos o12] at h
   split at h
   ·rename_i hh
    simp
    right
    omega
   ·cases h
  ·simp [o12]
 ·refine vfL_all fun k hk => ?_
  obtain ⟨f, t', hf, ht⟩ := ty_kids hF h k hk
  refine H k hk _ _ ?_ ht
  have := nodes_mem hk
  rw [nodesE_eq] at hb
  rw [List.length_append]
  omega
end
end Go.Vc
