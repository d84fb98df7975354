/- Part of the proofs about the heaps and memories: a law is joined in the text whose name ends in W and the law. -/
import Derived.Test.YtelgbndeeccblaaGreatDoorEP1
namespace Go.Vc
open Go Go.Proofs Go.RowKit
set_option linter.all false
/-- a program in memory, its signatures valid -/
structure Prg (v : World) (x y : Sl) (ds : List DeclD) (fs : List FunD) : Prop where
  hx : Read v x ds
  hy : Read v y fs
  sg : sigSigs ds (fs.map sgE)
theorem Prg.mono {v w : World} {x y : Sl} {ds : List DeclD} {fs : List FunD} (h : Prg v x y ds fs) (hs : Sub v w) : Prg w x y ds fs := ⟨h.hx.mono hs, h.hy.mono hs, h.sg⟩
theorem Prg.sm {v : World} {x y : Sl} {ds : List DeclD} {fs : List FunD} (h : Prg v x y ds fs) : SmDs ds := h.sg.1.sm
def TyS (ds : List DeclD) (fs : List FunD) (e : ExprD) : Prop := ∀ (v : World) (x y z f : Sl) (vars : List Int), Prg v x y ds fs → Read v z vars → nonneg vars → Read v f e.kids → InI e.num → vars.length + 4 * nodesE e ≤ 10000 →
  Fn Tryz.prog 74 #[.agg #[x.val, y.val], z.val, .agg #[.int .i64 e.op, .int .i64 e.num, f.val]] v (.int .i64 (gD (tyX ds (fs.map sgE) e vars)))
section
variable {u v w : World} {x y z f kx tx : Sl} {vars T W : List Int} {ds : List DeclD} {fs : List FunD} {ss : List SigD} {e : ExprD} {kids : List ExprD} {n num op : Int}
theorem gD_iff (h : 0 ≤ n) {o : Option Int} : gD o = n ↔ o = some n := by
  cases o with
  | none => rw [gD_none]; refine ⟨fun h => ?_, fun h => (by cases h)⟩; omega
  | some t => rw [gD_some, Option.some.injEq]
theorem cutOkR {x : Sl} {l : List Int} {n : Int} (h : Read w x l) (h0 : 0 ≤ n) (h1 : n ≤ l.length) : CutOk x 0 n := ⟨by omega, h0, by have h3 := h.n; obtain ⟨_, hr, _⟩ := h; have h2 := hr.2.1; omega⟩
theorem mapEq {g : ExprD → Option Int} : kids.map g = T.map some ↔ kids.length = T.length ∧ ∀ i : Int, 0 ≤ i → i < kids.length → g (nth kids i) = some (nth T i) := by
  constructor
  · intro h
    have hl : kids.length = T.length := by simpa using congrArg List.length h
    refine ⟨hl, fun i h0 h1 => ?_⟩
    have h2 := congrArg (fun l => l[i.toNat]?) h
    simp only [List.getElem?_map] at h2
    rw [nth_get h0 h1, nth_get h0 (by omega)] at h2
    simpa using h2
  · rintro ⟨hl, h⟩
    refine List.ext_getElem (by simpa using hl) fun i h1 h2 => ?_
    simp only [List.length_map] at h1 h2
    rw [List.getElem_map, List.getElem_map]
    have := h i (by omega) (by omega)
    rwa [nth_of (a := kids[i]) (by simp [h1]), nth_of (a := T[i]) (by simp [h2])] at this
theorem c_allOfE (H : ∀ k ∈ kids, TyS ds fs k) (hp : Prg v x y ds fs) (hz : Read v z vars) (hv : nonneg vars) (hk : Read v kx kids) (ht : Read v tx T) (hT : nonneg T) (hb : vars.length + 4 * nodesL kids ≤ 10000) :
    Fn Tryz.prog 134 #[.agg #[x.val, y.val], z.val, kx.val, tx.val] v (.bool (pB (kids.map (fun k => tyX ds (fs.map sgE) k vars) = T.map some))) := by
  refine of134 _ _ _ _ _ _ _ ?_
  unfold vc134
  have hkn := hk.n
  have hkl := hk.le
  have htn := ht.n
  refine ⟨fun hc => ⟨?_, .refl v⟩, fun hc => ?_⟩
  · simp only [bls] at hc
    rw [pB_f]
    intro h
    have := (mapEq.1 h).1
    omega
  simp only [bls] at hc
  refine ⟨fun i w => v = w ∧ 0 ≤ i ∧ i ≤ kids.length ∧ ∀ j : Int, 0 ≤ j → j < i → tyX ds (fs.map sgE) (nth kids j) vars = some (nth T j), fun i _ => (kids.length - i).toNat, ⟨rfl, by omega, by omega, fun j j0 j1 => by omega⟩, ?_⟩
  rintro i _ ⟨rfl, i0, i1, h⟩
  dsimp only
  refine ⟨fun hi => ?_, fun hi => ?_⟩
  · simp only [bls] at hi
    have hil : i < kids.length := by omega
    have hm := nth_mem (l := kids) i0 hil
    have hnm := nodes_mem hm
    obtain ⟨g, e1, e2, e3, j1, j2, rg⟩ := (hk.src (.refl v)).ofExprD i0 hil
    refine go_ix hk i0 hil ?_
    refine ⟨_, _, g, ⟨e1, e2, e3⟩, _, H _ hm v x y z g vars hp hz hv rg j2 (by omega), ?_⟩
    refine go_ix ht i0 (by omega) ?_
    refine ld_int ht i0 (by omega) ?_
    intro c0 c1
    have hnn := hT.nth i0 (by omega)
    refine ⟨fun hq => ⟨?_, .refl v⟩, fun hq => ?_⟩
    · simp only [bls] at hq
      rw [pB_f]
      intro hh
      exact hq ((gD_iff hnn.1).2 ((mapEq.1 hh).2 i i0 hil))
    · simp only [bls] at hq
      refine go_wr (by omega) (by omega) ?_
      refine ⟨rfl, rfl, ⟨rfl, by omega, by omega, fun j j0 j1 => ?_⟩, by omega⟩
      by_cases e : j = i
      · subst e; exact (gD_iff hnn.1).1 hq
      · exact h j j0 (by omega)
  · simp only [bls] at hi
    refine ⟨?_, .refl v⟩
    rw [pB_t]
    exact mapEq.2 ⟨by omega, fun j j0 j1 => h j j0 (by omega)⟩
theorem c_allIntsE (H : ∀ k ∈ kids, TyS ds fs k) (hp : Prg v x y ds fs) (hz : Read v z vars) (hv : nonneg vars) (hk : Read v kx kids) {m : Nat} (hm : m ≤ 3) (hb : vars.length + 4 * nodesL kids ≤ 10000) :
    Fn Tryz.prog 132 #[.agg #[x.val, y.val], z.val, kx.val, .int .i64 (m : Int)] v (.bool (pB (kids.map (fun k => tyX ds (fs.map sgE) k vars) = (List.replicate m 0).map some))) := by
  refine of132 _ _ _ _ _ _ _ ?_
  unfold vc132
  have hkn := hk.n
  have hkl := hk.le
  have h0 : ∀ i : Int, 0 ≤ i → i < m → nth (List.replicate m (0 : Int)) i = 0 := fun i i0 i1 => nth_of (by rw [List.getElem?_replicate, if_pos (by omega)])
  refine ⟨fun hc => ⟨?_, .refl v⟩, fun hc => ?_⟩
  · simp only [bls] at hc
    rw [pB_f]
    intro h
    have := (mapEq.1 h).1
    simp at this
    omega
  simp only [bls] at hc
  refine ⟨fun i w => v = w ∧ 0 ≤ i ∧ i ≤ kids.length ∧ ∀ j : Int, 0 ≤ j → j < i → tyX ds (fs.map sgE) (nth kids j) vars = some 0, fun i _ => (kids.length - i).toNat, ⟨rfl, by omega, by omega, fun j j0 j1 => by omega⟩, ?_⟩
  rintro i _ ⟨rfl, i0, i1, h⟩
  dsimp only
  refine ⟨fun hi => ?_, fun hi => ?_⟩
  · simp only [bls] at hi
    have hil : i < kids.length := by omega
    have hm := nth_mem (l := kids) i0 hil
    have hnm := nodes_mem hm
    obtain ⟨g, e1, e2, e3, j1, j2, rg⟩ := (hk.src (.refl v)).ofExprD i0 hil
    refine go_ix hk i0 hil ?_
    refine ⟨_, _, g, ⟨e1, e2, e3⟩, _, H _ hm v x y z g vars hp hz hv rg j2 (by omega), ?_⟩
    refine ⟨fun hq => ⟨?_, .refl v⟩, fun hq => ?_⟩
    · simp only [bls] at hq
      rw [pB_f]
      intro hh
      have h2 := (mapEq.1 hh).2 i i0 hil
      rw [h0 i i0 (by omega)] at h2
      exact hq ((gD_iff (Int.le_refl 0)).2 h2)
    · simp only [bls] at hq
      refine go_wr (by omega) (by omega) ?_
      refine ⟨rfl, rfl, ⟨rfl, by omega, by omega, fun j j0 j1 => ?_⟩, by omega⟩
      by_cases e : j = i
      · subst e; exact (gD_iff (Int.le_refl 0)).1 hq
      · exact h j j0 (by omega)
  · simp only [bls] at hi
    refine ⟨?_, .refl v⟩
    rw [pB_t]
    exact mapEq.2 ⟨by simp; omega, fun j j0 j1 => by rw [h0 j j0 (by omega)]; exact h j j0 (by omega)⟩
/-- the type of a node whose kids are all typed in the same scope -/
theorem ndT_sim (ho : op ≠ 12 ∧ op ≠ 13 ∧ op ≠ 7 ∧ op ≠ 8) {ks : List (List Int → Option Int)} : ndT ds ss op num ks vars = (allT (ks.map fun k => k vars)).bind (simB ds ss op num) := by
  unfold ndT
  rw [if_neg ho.1, if_neg ho.2.1, if_neg ho.2.2.1, if_neg ho.2.2.2]
theorem mapMap : (kids.map (tyX ds ss)).map (fun k => k vars) = kids.map fun k => tyX ds ss k vars := by rw [List.map_map]; rfl
theorem ndT_want (ho : op ≠ 12 ∧ op ≠ 13 ∧ op ≠ 7 ∧ op ≠ 8) (h : ∀ t0, wantB ds ss op num t0 = some (W, n)) : ndT ds ss op num (kids.map (tyX ds ss)) vars = if kids.map (fun k => tyX ds ss k vars) = W.map some then some n else none := by
  rw [ndT_sim ho, mapMap, sim_want h]
theorem ndT_none (ho : op ≠ 12 ∧ op ≠ 13 ∧ op ≠ 7 ∧ op ≠ 8) (h : ∀ t0, wantB ds ss op num t0 = none) : ndT ds ss op num (kids.map (tyX ds ss)) vars = none := by
  rw [ndT_sim ho, sim_none h]
theorem arrI_cs (a b : Int) (hl : ds.length ≤ 4) : arrI ds a b = -1 ∨ 0 < arrI ds a b := by
  rcases arrI_bd (f := a) (t := b) hl with h | h
  · exact .inl h
  · exact .inr (by omega)
open Classical in
theorem c_callTypeE (H : ∀ k ∈ e.kids, TyS ds fs k) (hp : Prg v x y ds fs) (hz : Read v z vars) (hv : nonneg vars) (hf : Read v f e.kids) (hop : e.op = 9 ∨ e.op = 10) (hb : vars.length + 4 * nodesL e.kids ≤ 10000) :
    Fn Tryz.prog 138 #[.agg #[x.val, y.val], z.val, .agg #[.int .i64 e.op, .int .i64 e.num, f.val]] v (.int .i64 (gD (tyX ds (fs.map sgE) e vars))) := by
  refine of138 _ _ _ _ _ _ _ _ ?_
  unfold vc138
  have hyn := hp.hy.n
  have hyl := hp.hy.le
  have hml : (fs.map sgE).length = fs.length := by simp
  rw [tyX_eq]
  refine go_wr (by omega) (by omega) ?_
  refine ⟨_, c_inRange, fun hc => ⟨?_, .refl v⟩, fun hc => ?_⟩
  · simp only [bls] at hc
    rw [ndT_none (by omega)]
    · rfl
    intro t0
    unfold wantB
    rw [if_neg (by omega), if_neg (by omega), if_neg (by omega), if_neg (by omega)]
    rcases hop with hop | hop
    · rw [if_pos hop, if_neg (by omega)]
    · rw [if_neg (by omega), if_pos hop, if_neg (by rintro ⟨h1, h2, _⟩; omega)]
  · simp only [bls] at hc
    have i0 : 0 ≤ e.num := by omega
    have i1 : e.num < fs.length := by omega
    have hsg := hp.sg.2.2.2.2.2 e.num i0 (by omega)
    rw [nth_sgE] at hsg
    obtain ⟨⟨s1, s2, s3⟩, _⟩ := hsg
    have s1 : (nth fs e.num).params.length ≤ 3 := s1
    have s2 : (nth fs e.num).params.all (typeB ds.length) = true := s2
    have hds := hp.sm.len
    have hpn : nonneg (nth fs e.num).params := fun t ht => by
      have := List.all_eq_true.1 s2 t ht
      unfold typeB at this
      simp only [Bool.and_eq_true, decide_eq_true_eq] at this
      omega
    obtain ⟨px, k1, e1, e2, e3, e4, e5, j1, j2, j3, r1, r2⟩ := (hp.hy.src (.refl v)).ofFunD i0 i1
    have hpx := r1.n
    refine go_ix hp.hy i0 i1 ?_
    refine ⟨px, _, _, _, k1, ⟨e1, e2, e3, e4, e5⟩, fun h9 => ?_, fun h9 => ?_⟩
    · simp only [bls] at h9
      rw [ndT_want (by omega) (W := (nth fs e.num).params) (n := (nth fs e.num).result) (fun t0 => by
        unfold wantB
        rw [if_neg (by omega), if_neg (by omega), if_neg (by omega), if_neg (by omega), if_pos h9, if_pos ⟨i0, by omega⟩, nth_sgE]
        rfl)]
      refine ⟨_, c_allOfE H hp hz hv hf r1 hpn hb, fun hq => ⟨?_, .refl v⟩, fun hq => ⟨?_, .refl v⟩⟩
      · simp only [bls] at hq
        rw [if_neg (fun h => by rw [pB_t h] at hq; cases hq)]
        rfl
      · simp only [bls] at hq
        have hh := pB_iff.1 hq
        rw [if_pos hh]
        rfl
    · simp only [bls] at h9
      have h10 : e.op = 10 := by omega
      have hsplit : ∀ (hn1 : 1 ≤ (nth fs e.num).params.length), gD (ndT ds (fs.map sgE) e.op e.num (e.kids.map (tyX ds (fs.map sgE))) vars) = if e.kids.map (fun k => tyX ds (fs.map sgE) k vars) = ((nth fs e.num).params.take ((nth fs e.num).params.length - 1)).map some then arrI ds (nth (nth fs e.num).params (((nth fs e.num).params.length : Int) - 1)) (nth fs e.num).result else -1 := by
        intro hn1
        rcases arrI_cs (ds := ds) (nth (nth fs e.num).params (((nth fs e.num).params.length : Int) - 1)) (nth fs e.num).result hds with ha | ha
        · rw [ndT_none (by omega), ha, ite_self]
          · rfl
          intro t0
          unfold wantB
          rw [if_neg (by omega), if_neg (by omega), if_neg (by omega), if_neg (by omega), if_neg (by omega), if_pos h10, nth_sgE, if_neg]
          rintro ⟨_, _, _, _, h5⟩
          have h5 : 0 < arrI ds (nth (nth fs e.num).params (((nth fs e.num).params.length : Int) - 1)) (nth fs e.num).result := h5
          omega
        · rw [ndT_want (by omega) (W := (nth fs e.num).params.take ((nth fs e.num).params.length - 1)) (n := arrI ds (nth (nth fs e.num).params (((nth fs e.num).params.length : Int) - 1)) (nth fs e.num).result) (fun t0 => by
            unfold wantB
            rw [if_neg (by omega), if_neg (by omega), if_neg (by omega), if_neg (by omega), if_neg (by omega), if_pos h10, nth_sgE, if_pos ⟨i0, by omega, hn1, rfl, ha⟩]
            rfl)]
          split <;> rfl
      have hcut : (decide ((px.n : Int) = 0)) = false → 1 ≤ (nth fs e.num).params.length := fun h => by simp only [bls] at h; omega
      refine go_wrg (fun h => by omega) ?_
      refine ⟨fun h => cutOkR r1 (by have := hcut h; omega) (by omega), ?_⟩
      refine ⟨_, fun h => c_allOfE H hp hz hv hf (T := (nth fs e.num).params.take ((nth fs e.num).params.length - 1)) ?_ (fun t ht => hpn t (List.mem_of_mem_take ht)) hb, fun hq => ⟨?_, .refl v⟩, fun hq => ?_⟩
      · have hc := hcut h
        have := ReadB.cut r1 (lo := 0) (hi := (px.n : Int) - 1) (Int.le_refl 0) (by omega) (by omega)
        rw [show ((px.n : Int) - 1).toNat = (nth fs e.num).params.length - 1 from by omega] at this
        exact this
      · simp only [bls] at hq
        rcases hq with hq | hq
        · rw [ndT_none (by omega)]
          · rfl
          intro t0
          unfold wantB
          rw [if_neg (by omega), if_neg (by omega), if_neg (by omega), if_neg (by omega), if_neg (by omega), if_pos h10, nth_sgE, if_neg]
          rintro ⟨_, _, h3, _⟩
          have h3 : 1 ≤ (nth fs e.num).params.length := h3
          omega
        · by_cases hn1 : 1 ≤ (nth fs e.num).params.length
          · rw [hsplit hn1, if_neg (fun h => by rw [pB_t h] at hq; cases hq)]
          · rw [ndT_none (by omega)]
            · rfl
            intro t0
            unfold wantB
            rw [if_neg (by omega), if_neg (by omega), if_neg (by omega), if_neg (by omega), if_neg (by omega), if_pos h10, nth_sgE, if_neg]
            rintro ⟨_, _, h3, _⟩
            have h3 : 1 ≤ (nth fs e.num).params.length := h3
            omega
      · simp only [bls] at hq
        have hn1 : 1 ≤ (nth fs e.num).params.length := by omega
        refine go_wr (by omega) (by omega) ?_
        refine go_ix r1 (by omega) (by omega) ?_
        refine ld_int r1 (by omega) (by omega) ?_
        intro c0 c1
        refine ⟨_, c_arrowOf hp.hx hds, ?_, .refl v⟩
        rw [hsplit hn1, if_pos (pB_iff.1 hq.2), hpx]
theorem same_arms {L : List (Option Int)} {A : Int → Option Int} {m : Nat} (hlen : L.length = m) (hget : ∀ i : Nat, i < m → L[i]? = some (A i)) (hm : 0 < m) (h : ∀ i : Int, 0 ≤ i → i < m → A i = A 0) : same1 L = A 0 := by
  have hall : ∀ q ∈ L, q = A 0 := by
    intro q hq
    obtain ⟨i, hi, rfl⟩ := List.getElem_of_mem hq
    have := hget i (by omega)
    rw [List.getElem?_eq_getElem hi] at this
    rw [Option.some.inj this]
    exact h i (by omega) (by omega)
  cases L with
  | nil => simp at hlen; omega
  | cons a r =>
    have ha := hall a (by simp)
    cases hA : A 0 with
    | none => rw [ha, hA]; rfl
    | some t => exact same1_of (fun q hq => by rw [hall q hq, hA]) (by simp)
theorem same_armsN {L : List (Option Int)} {A : Int → Option Int} {m : Nat} (hget : ∀ i : Nat, i < m → L[i]? = some (A i)) {i j : Int} (h0 : 0 ≤ i) (h1 : i < m) (g0 : 0 ≤ j) (g1 : j < m) (h : A i ≠ A j ∨ A i = none) : same1 L = none := by
  cases hs : same1 L with
  | none => rfl
  | some t =>
    exfalso
    have e1 := hget i.toNat (by omega)
    have e2 := hget j.toNat (by omega)
    rw [show ((i.toNat : Nat) : Int) = i from by omega] at e1
    rw [show ((j.toNat : Nat) : Int) = j from by omega] at e2
    have k1 := same1_some hs _ (List.mem_of_getElem? e1)
    have k2 := same1_some hs _ (List.mem_of_getElem? e2)
    rcases h with h | h
    · exact h (k1.trans k2.symm)
    · rw [h] at k1; cases k1
theorem gD_inj {a b : Option Int} (ha : ∀ t, a = some t → 0 ≤ t) (hb : ∀ t, b = some t → 0 ≤ t) : gD a = gD b ↔ a = b := by
  refine ⟨fun h => ?_, fun h => by rw [h]⟩
  cases a with
  | none => cases b with
    | none => rfl
    | some t => have := hb t rfl; rw [gD_none, gD_some] at h; omega
  | some s => cases b with
    | none => have := ha s rfl; rw [gD_none, gD_some] at h; omega
    | some t => rw [gD_some, gD_some] at h; rw [h]
theorem arm_get {i : Nat} (hl : kids.length = 1 + (consL ds num).length) (hi : i < (consL ds num).length) : (armT vars (armF ds num) ((kids.map (tyX ds ss)).drop 1))[i]? = some (tyX ds ss (nth kids (1 + (i : Int))) (vars ++ conF ds (nth (consL ds num) i))) := by
  unfold armT armF
  rw [List.getElem?_zipWith]
  have h1 : ((consL ds num).map (conF ds))[i]? = some (conF ds (nth (consL ds num) i)) := by
    rw [List.getElem?_map]
    have := nth_get (l := consL ds num) (i := (i : Int)) (by omega) (by omega)
    simp only [Int.toNat_natCast] at this
    rw [this]; rfl
  have h2 : ((kids.map (tyX ds ss)).drop 1)[i]? = some (tyX ds ss (nth kids (1 + (i : Int)))) := by
    rw [List.getElem?_drop, List.getElem?_map]
    have := nth_get (l := kids) (i := 1 + (i : Int)) (by omega) (by omega)
    rw [show (1 + (i : Int)).toNat = 1 + i from by omega] at this
    rw [this]; rfl
  rw [h1, h2]
theorem arm_len (hl : kids.length = 1 + (consL ds num).length) : (armT vars (armF ds num) ((kids.map (tyX ds ss)).drop 1)).length = (consL ds num).length := by
  unfold armT armF
  simp
  omega
theorem consL_len3 (hd : SmDs ds) : (consL ds n).length ≤ 3 := by
  unfold consL
  split
  · simp only [List.length_map, List.length_range]
    exact hd.cons _ (nth_mem (by omega) (by omega))
  · simp
theorem armF_len : (armF ds n).length = (consL ds n).length := by unfold armF; simp
open Classical in
theorem c_matchTypeE (H : ∀ k ∈ e.kids, TyS ds fs k) (hp : Prg v x y ds fs) (hz : Read v z vars) (hv : nonneg vars) (hf : Read v f e.kids) (hn : InI e.num) (hop : e.op = 8) (hb : vars.length + 3 + 4 * nodesL e.kids ≤ 10000) :
    Fn Tryz.prog 137 #[.agg #[x.val, y.val], z.val, .agg #[.int .i64 e.op, .int .i64 e.num, f.val]] v (.int .i64 (gD (tyX ds (fs.map sgE) e vars))) := by
  refine of137 _ _ _ _ _ _ _ _ ?_
  unfold vc137
  have hfn := hf.n
  have hfl := hf.le
  have hsm := hp.sm
  have hcl := consL_len3 (n := e.num) hsm
  have hty : tyX ds (fs.map sgE) e vars = if 0 < (consL ds e.num).length ∧ e.kids.length = 1 + (consL ds e.num).length ∧ kf (e.kids.map (tyX ds (fs.map sgE))) 0 vars = some e.num then same1 (armT vars (armF ds e.num) ((e.kids.map (tyX ds (fs.map sgE))).drop 1)) else none := by
    rw [tyX_eq]
    unfold ndT
    rw [if_neg (by omega), if_neg (by omega), if_neg (by omega), if_pos hop, armF_len, List.length_map]
  refine Mk.use (c_consOf hp.hx hn (by have := hsm.len; omega) (fun d h => by have := hsm.cons d h; omega) hsm.hb) (.refl v) ?_
  rintro _ w2 J1 ⟨x3, rfl, hO⟩ hS hs2
  have hr := hO.read hS
  have hrn := hr.n
  refine ⟨_, rfl, ?_⟩
  refine go_wrg (fun _ => by omega) ?_
  have hg0 : ((decide ((x3.n : Int) = 0)) || (!decide ((f.n : Int) = 1 + (x3.n : Int)))) = false → 0 < (consL ds e.num).length ∧ e.kids.length = 1 + (consL ds e.num).length := fun h => by simp only [bls] at h; omega
  refine go_ixg hf (fun h => by have := hg0 h; omega) ?_
  have hk0 : ∀ i : Int, 0 ≤ i → i < e.kids.length → ∀ w', Sub v w' → ∃ g : Sl, w'.cell? ((elA f i 3).add 0) = some (.int .i64 (nth e.kids i).op) ∧ w'.cell? ((elA f i 3).add 1) = some (.int .i64 (nth e.kids i).num) ∧ w'.cell? ((elA f i 3).add 2) = some g.val ∧ InI (nth e.kids i).op ∧ InI (nth e.kids i).num ∧ Read v g (nth e.kids i).kids := fun i i0 i1 w' hs => (hf.src hs).ofExprD i0 i1
  have hty0 : ∀ (hl : 0 < e.kids.length) (w' : World), Sub v w' → ∀ g : Sl, Read v g (nth e.kids 0).kids → InI (nth e.kids 0).num → Fn Tryz.prog 74 #[.agg #[x.val, y.val], z.val, .agg #[.int .i64 (nth e.kids 0).op, .int .i64 (nth e.kids 0).num, g.val]] w' (.int .i64 (gD (tyX ds (fs.map sgE) (nth e.kids 0) vars))) := fun hl w' hs g rg hi => by
    have hm := nth_mem (l := e.kids) (i := 0) (by omega) (by omega)
    have := nodes_mem hm
    exact H _ hm w' x y z g vars (hp.mono hs) (hz.mono hs) hv (rg.mono hs) hi (by omega)
  by_cases hlen : 0 < (consL ds e.num).length ∧ e.kids.length = 1 + (consL ds e.num).length
  · obtain ⟨g0, a1, a2, a3, a4, a5, rg0⟩ := hk0 0 (by omega) (by omega) w2 hs2
    refine ⟨_, _, g0, fun _ => ⟨a1, a2, a3⟩, _, fun _ => hty0 (by omega) w2 hs2 g0 rg0 a5, fun hq => ⟨?_, hS.sub⟩, fun hq => ?_⟩
    · rw [hty, if_neg]
      · rfl
      rintro ⟨_, _, h3⟩
      rw [kf_map (by omega)] at h3
      simp only [bls] at hq
      rcases hq with hq | hq
      · omega
      · rw [show ((0 : Nat) : Int) = 0 from rfl] at h3
        rw [h3] at hq
        exact hq rfl
    · simp only [bls] at hq
      have hnum0 : 0 ≤ e.num := by
        have : consL ds e.num ≠ [] := fun h => by rw [h] at hlen; simp at hlen
        unfold consL at this
        split at this
        · omega
        · exact absurd rfl this
      have hk3 : kf (e.kids.map (tyX ds (fs.map sgE))) 0 vars = some e.num := by
        rw [kf_map (by omega)]
        exact (gD_iff hnum0).1 hq.2
      rw [hty, if_pos ⟨hlen.1, hlen.2, hk3⟩]
      clear hty hq hg0 hty0
      -- the type of the arm i
      obtain ⟨A, hA⟩ : ∃ A : Int → Option Int, A = fun i => tyX ds (fs.map sgE) (nth e.kids (1 + i)) (vars ++ conF ds (nth (consL ds e.num) i)) := ⟨_, rfl⟩
      have hget : ∀ i : Nat, i < (consL ds e.num).length → (armT vars (armF ds e.num) ((e.kids.map (tyX ds (fs.map sgE))).drop 1))[i]? = some (A i) := fun i hi => by rw [arm_get hlen.2 hi, hA]
      have hAnn : ∀ i : Int, ∀ t, A i = some t → 0 ≤ t := fun i t h => by
        rw [hA] at h
        exact (tyX_nn hp.sg _ _ _ (hv.app (conF_nn hp.sg.1 _)) h).1
      have harm : ∀ (i : Int) (h0 : 0 ≤ i) (h1 : i < (consL ds e.num).length) (w' : World) (g z2 : Sl), Sub v w' → Read v g (nth e.kids (1 + i)).kids → InI (nth e.kids (1 + i)).num → Read w' z2 (vars ++ conF ds (nth (consL ds e.num) i)) → Fn Tryz.prog 74 #[.agg #[x.val, y.val], z2.val, .agg #[.int .i64 (nth e.kids (1 + i)).op, .int .i64 (nth e.kids (1 + i)).num, g.val]] w' (.int .i64 (gD (A i))) := fun i h0 h1 w' g z2 hs rg hi hz2 => by
        have hm := nth_mem (l := e.kids) (i := 1 + i) (by omega) (by omega)
        have := nodes_mem hm
        have hl3 := conF_len3 hp.sg.1 (nth (consL ds e.num) i)
        rw [hA]
        exact H _ hm w' x y z2 g _ (hp.mono hs) hz2 (hv.app (conF_nn hp.sg.1 _)) (rg.mono hs) hi (by rw [List.length_append]; omega)
      refine go_ix hr (by omega) (by omega) ?_
      refine ld_int hr (by omega) (by omega) ?_
      intro c0 c1
      obtain ⟨g1, b1, b2, b3, b4, b5, rg1⟩ := hk0 1 (by omega) (by omega) w2 hs2
      refine go_ix hf (by omega) (by omega) ?_
      refine ⟨_, _, g1, ⟨b1, b2, b3⟩, ?_⟩
      refine Mk.use (c_conFieldsR hp.hx hsm ⟨c0, c1⟩) hS ?_
      rintro _ w3 J2 ⟨x4, rfl, hr4⟩ hS3 hs3
      have hr4 := hr4 w3 hS3.left
      refine ⟨_, rfl, hs3, ?_⟩
      have hl4 := conF_len3 hp.sg.1 (nth (consL ds e.num) 0)
      refine Mk.usew (c_extend (hz.mono hS3.sub) hr4 (by omega)) hS3 ?_
      rintro _ w4 J3 ⟨x5, rfl, hO5⟩ hS4 hs4
      have hr5 := (hO5.ofInts (u' := v)).read hS4
      refine ⟨_, rfl, hs4, _, harm 0 (by omega) (by omega) w4 g1 x5 hS4.sub rg1 b5 hr5, ?_⟩
      replace hS4 : St v w4 (J1 ++ []) := hS4.to
      refine ⟨fun i w => St v w (J1 ++ []) ∧ 1 ≤ i ∧ i ≤ (consL ds e.num).length ∧ ∀ j : Int, 0 ≤ j → j < i → A j = A 0, fun i _ => ((consL ds e.num).length - i).toNat, ⟨hS4, by omega, by omega, fun j j0 j1 => by rw [show j = 0 from by omega]⟩, ?_⟩
      rintro i w5 ⟨hS5, i0, i1, hall⟩
      dsimp only
      have hr5 := hO.read hS5
      refine ⟨fun hi => ?_, fun hi => ?_⟩
      · simp only [bls] at hi
        refine go_ix hr5 (by omega) (by omega) ?_
        refine ld_int hr5 (by omega) (by omega) ?_
        intro c2 c3
        refine go_wr (by omega) (by omega) ?_
        obtain ⟨g2, d1, d2, d3, d4, d5, rg2⟩ := hk0 (1 + i) (by omega) (by omega) w5 hS5.sub
        refine go_ix hf (by omega) (by omega) ?_
        refine ⟨_, _, g2, ⟨d1, d2, d3⟩, ?_⟩
        refine Mk.use (c_conFieldsR hp.hx hsm ⟨c2, c3⟩) hS5 ?_
        rintro _ w6 J4 ⟨x6, rfl, hr6⟩ hS6 hs6
        have hr6 := hr6 w6 hS6.left
        refine ⟨_, rfl, hs6, ?_⟩
        have hl6 := conF_len3 hp.sg.1 (nth (consL ds e.num) i)
        refine Mk.usew (c_extend (hz.mono hS6.sub) hr6 (by omega)) hS6 ?_
        rintro _ w7 J5 ⟨x7, rfl, hO7⟩ hS7 hs7
        have hr7 := (hO7.ofInts (u' := v)).read hS7
        refine ⟨_, rfl, hs7, _, harm i (by omega) (by omega) w7 g2 x7 hS7.sub rg2 d5 hr7, fun hq => ⟨?_, hS7.sub⟩, fun hq => ?_⟩
        · simp only [bls] at hq
          rw [same_armsN hget (i := i) (j := 0) (by omega) (by omega) (by omega) (by omega) (.inl fun h => hq (by rw [h]))]
          rfl
        · simp only [bls] at hq
          refine go_wr (by omega) (by omega) ?_
          refine ⟨rfl, rfl, rfl, rfl, rfl, ⟨hS7.to, by omega, by omega, fun j j0 j1 => ?_⟩, by omega⟩
          by_cases ej : j = i
          · subst ej; exact (gD_inj (hAnn j) (hAnn 0)).1 hq
          · exact hall j j0 (by omega)
      · simp only [bls] at hi
        rw [same_arms (arm_len hlen.2) hget hlen.1 fun j j0 j1 => hall j j0 (by omega)]
        exact ⟨rfl, hS5.sub⟩
  · have hbad : ((decide ((x3.n : Int) = 0)) || (!decide ((f.n : Int) = 1 + (x3.n : Int)))) = true := by
      simp only [bls]; omega
    refine ⟨0, 0, ⟨none, 0, 0⟩, fun h => (by rw [hbad] at h; cases h), 0, fun h => (by rw [hbad] at h; cases h), fun hq => ⟨?_, hS.sub⟩, fun hq => ?_⟩
    · rw [hty, if_neg (fun h => hlen ⟨h.1, h.2.1⟩)]
      rfl
    · rw [hbad] at hq; simp at hq
end
end Go.Vc

namespace Go.Vc
open Go Go.Proofs Go.RowKit
set_option linter.all false
section
variable {u v w : World} {x y z f kx tx : Sl} {vars T W : List Int} {ds : List DeclD} {fs : List FunD} {ss : List SigD} {e : ExprD} {kids : List ExprD} {n num op : Int}
theorem typesOk.frm_nn (h : typesOk ds) {i : Int} (h0 : 0 ≤ i) (h1 : i < ds.length) : 0 ≤ (nth ds i).frm := by
  have h2 := h.2 i h0 h1
  unfold declOk at h2
  split at h2
  · rw [h2.2.1]; exact Int.le_refl 0
  · have h3 := h2.2.1
    unfold typeB at h3
    simp only [Bool.and_eq_true, decide_eq_true_eq] at h3
    exact h3.1
theorem kids2 (h : kids.length = 2) : kids = [nth kids 0, nth kids 1] := by
  match kids, h with
  | [a, b], _ => rfl
open Classical in
theorem ndT_11 (ho : op = 11) (hn : num = 0) (hl : kids.length = 2) : ndT ds ss op num (kids.map (tyX ds ss)) vars = (tyX ds ss (nth kids 0) vars).bind fun t => if isArr ds t ∧ tyX ds ss (nth kids 1) vars = some (nth ds (t - 1)).frm then some (nth ds (t - 1)).to_ else none := by
  rw [ndT_sim (by omega), mapMap, kids2 hl]
  simp only [List.map_cons, List.map_nil]
  have e0 : nth [nth kids 0, nth kids 1] 0 = nth kids 0 := rfl
  have e1 : nth [nth kids 0, nth kids 1] 1 = nth kids 1 := rfl
  rw [e0, e1]
  cases h0 : tyX ds ss (nth kids 0) vars with
  | none => simp [allT]
  | some t =>
    cases h1 : tyX ds ss (nth kids 1) vars with
    | none => simp [allT]
    | some s =>
      have hw : ∀ t0, wantB ds ss op num t0 = if isArr ds t0 then some ([t0, (nth ds (t0 - 1)).frm], (nth ds (t0 - 1)).to_) else none := by
        intro t0
        unfold wantB
        rw [if_neg (by omega), if_neg (by omega), if_neg (by omega), if_neg (by omega), if_neg (by omega), if_neg (by omega), if_pos ho]
        by_cases ha : isArr ds t0
        · rw [if_pos ⟨hn, ha⟩, if_pos ha]
        · rw [if_neg fun h => ha h.2, if_neg ha]
      simp only [allT, Option.bind_some]
      unfold simB
      rw [hw, show nth [t, s] 0 = t from rfl]
      by_cases ha : isArr ds t
      · rw [if_pos ha]
        dsimp only
        by_cases hs : s = (nth ds (t - 1)).frm
        · rw [if_pos (by rw [hs]), if_pos ⟨ha, by rw [hs]⟩]
        · rw [if_neg (by simpa using hs), if_neg (fun h => hs (Option.some.inj h.2))]
      · rw [if_neg ha, if_neg fun h => ha h.1]
theorem ndT_11n (ho : op = 11) (h : ¬ (num = 0 ∧ kids.length = 2)) : ndT ds ss op num (kids.map (tyX ds ss)) vars = none := by
  classical
  rw [ndT_sim (by omega), mapMap]
  cases hT : allT (kids.map fun k => tyX ds ss k vars) with
  | none => rfl
  | some T =>
    have hl := congrArg List.length (allT_some.1 hT)
    simp only [List.length_map] at hl
    show simB ds ss op num T = none
    unfold simB wantB
    rw [if_neg (by omega), if_neg (by omega), if_neg (by omega), if_neg (by omega), if_neg (by omega), if_neg (by omega), if_pos ho]
    by_cases hn : num = 0
    · by_cases ha : isArr ds (nth T 0)
      · rw [if_pos ⟨hn, ha⟩]
        dsimp only
        rw [if_neg]
        intro hh
        have := congrArg List.length hh
        simp at this
        omega
      · rw [if_neg fun h => ha h.2]
    · rw [if_neg fun h => hn h.1]
theorem kmap_nil : kids.map (fun k => tyX ds ss k vars) = ([] : List Int).map some ↔ kids.length = 0 := by
  rw [List.map_nil, List.map_eq_nil_iff, List.length_eq_zero_iff]
theorem c_typeOfE (e : ExprD) : TyS ds fs e := by
  classical
  refine ex_ind (P := TyS ds fs) (fun e H => ?_) e
  intro v x y z f vars hp hz hv hf hi hb
  rw [nodesE_eq] at hb
  have hfn := hf.n
  have hfl := hf.le
  have hzn := hz.n
  have hzl := hz.le
  have hsm := hp.sm
  have hdl := hsm.len
  have kid : ∀ (i : Int), 0 ≤ i → i < e.kids.length → ∀ w', Sub v w' → ∃ g : Sl, (w'.cell? ((elA f i 3).add 0) = some (.int .i64 (nth e.kids i).op) ∧ w'.cell? ((elA f i 3).add 1) = some (.int .i64 (nth e.kids i).num) ∧ w'.cell? ((elA f i 3).add 2) = some g.val) ∧
      ∀ (w2 : World) (z2 : Sl) (vars2 : List Int), Sub v w2 → Read w2 z2 vars2 → nonneg vars2 → vars2.length ≤ vars.length + 1 → Fn Tryz.prog 74 #[.agg #[x.val, y.val], z2.val, .agg #[.int .i64 (nth e.kids i).op, .int .i64 (nth e.kids i).num, g.val]] w2 (.int .i64 (gD (tyX ds (fs.map sgE) (nth e.kids i) vars2))) := by
    intro i i0 i1 w' hs
    obtain ⟨g, a1, a2, a3, a4, a5, rg⟩ := (hf.src hs).ofExprD i0 i1
    refine ⟨g, ⟨a1, a2, a3⟩, fun w2 z2 vars2 h1 h2 h3 h4 => ?_⟩
    have hm := nth_mem (l := e.kids) i0 i1
    have := nodes_mem hm
    exact H _ hm w2 x y z2 g vars2 (hp.mono h1) h2 h3 (rg.mono h1) a5 (by omega)
  by_cases o0 : e.op = 0
  · rw [tyX_eq]
    refine of74 _ _ _ _ _ _ _ _ ?_
    unfold vc74
    repeat (first | refine ⟨fun h => absurd (of_decide_eq_true h) (by omega), fun _ => ?_⟩ | refine ⟨fun _ => ?_, fun h => absurd (of_decide_eq_false h) (by omega)⟩)
    have hw : -999 ≤ e.num ∧ e.num ≤ 999 → ∀ t0, wantB ds (fs.map sgE) e.op e.num t0 = some ([], 0) := fun h t0 => by unfold wantB; rw [if_pos o0, if_pos h]
    have hwn : ¬ (-999 ≤ e.num ∧ e.num ≤ 999) → ∀ t0, wantB ds (fs.map sgE) e.op e.num t0 = none := fun h t0 => by unfold wantB; rw [if_pos o0, if_neg h]
    refine ⟨_, fun _ => c_inRange, fun hq => ⟨?_, .refl v⟩, fun hq => ⟨?_, .refl v⟩⟩
    · simp only [bls] at hq
      rw [ndT_want (by omega) (hw (by omega)), if_pos (kmap_nil.2 (by omega))]
      rfl
    · simp only [bls] at hq
      by_cases hr : -999 ≤ e.num ∧ e.num ≤ 999
      · rw [ndT_want (by omega) (hw hr), if_neg (fun h => by have := kmap_nil.1 h; omega)]
        rfl
      · rw [ndT_none (by omega) (hwn hr)]
        rfl
  by_cases o12 : e.op = 12
  · rw [tyX_eq]
    refine of74 _ _ _ _ _ _ _ _ ?_
    unfold vc74
    repeat (first | refine ⟨fun h => absurd (of_decide_eq_true h) (by omega), fun _ => ?_⟩ | refine ⟨fun _ => ?_, fun h => absurd (of_decide_eq_false h) (by omega)⟩)
    have hnd : ndT ds (fs.map sgE) e.op e.num (e.kids.map (tyX ds (fs.map sgE))) vars = if e.kids.length = 0 ∧ 0 ≤ e.num ∧ e.num < vars.length then some (nth vars e.num) else none := by
      unfold ndT
      rw [if_pos o12, List.length_map]
    rw [hnd]
    refine go_wrg (fun _ => by omega) ?_
    refine ⟨_, fun _ => c_inRange, fun hq => ?_, fun hq => ⟨?_, .refl v⟩⟩
    · simp only [bls] at hq
      refine go_ix hz (by omega) (by omega) ?_
      refine ld_int hz (by omega) (by omega) ?_
      intro c0 c1
      rw [if_pos (by omega)]
      exact ⟨rfl, .refl v⟩
    · simp only [bls] at hq
      rw [if_neg (by omega)]
      rfl
  by_cases o14 : e.op = 1 ∨ e.op = 2 ∨ e.op = 3 ∨ e.op = 4
  · rw [tyX_eq]
    refine of74 _ _ _ _ _ _ _ _ ?_
    unfold vc74
    have hw : e.num = 0 → ∀ t0, wantB ds (fs.map sgE) e.op e.num t0 = some ([0, 0], 0) := fun h t0 => by unfold wantB; rw [if_neg o0, if_pos o14, if_pos h]
    have hwn : e.num ≠ 0 → ∀ t0, wantB ds (fs.map sgE) e.op e.num t0 = none := fun h t0 => by unfold wantB; rw [if_neg o0, if_pos o14, if_neg h]
    have hall := c_allIntsE (m := 2) H hp hz hv hf (by omega) (by omega)
    have hres : ∀ q : Bool, (decide (e.num = 0) && pB (e.kids.map (fun k => tyX ds (fs.map sgE) k vars) = (List.replicate 2 (0 : Int)).map some)) = q → gD (ndT ds (fs.map sgE) e.op e.num (e.kids.map (tyX ds (fs.map sgE))) vars) = if q then 0 else -1 := by
      rintro _ rfl
      by_cases hn : e.num = 0
      · rw [ndT_want (by omega) (hw hn), decide_eq_true hn, Bool.true_and]
        by_cases hh : e.kids.map (fun k => tyX ds (fs.map sgE) k vars) = (List.replicate 2 (0 : Int)).map some
        · rw [pB_t hh]; exact congrArg gD (if_pos hh)
        · rw [pB_f hh]; exact congrArg gD (if_neg hh)
      · rw [ndT_none (by omega) (hwn hn), decide_eq_false hn, Bool.false_and]
        rfl
    rcases o14 with o14 | o14 | o14 | o14
    all_goals
      repeat (first | refine ⟨fun h => absurd (of_decide_eq_true h) (by omega), fun _ => ?_⟩ | refine ⟨fun _ => ?_, fun h => absurd (of_decide_eq_false h) (by omega)⟩)
      exact ⟨_, fun _ => hall, fun hq => ⟨by rw [hres _ hq]; rfl, .refl v⟩, fun hq => ⟨by rw [hres _ hq]; rfl, .refl v⟩⟩
  by_cases o5 : e.op = 5
  · rw [tyX_eq]
    refine of74 _ _ _ _ _ _ _ _ ?_
    unfold vc74
    have hw : e.num = 0 → ∀ t0, wantB ds (fs.map sgE) e.op e.num t0 = some ([0], 0) := fun h t0 => by unfold wantB; rw [if_neg o0, if_neg o14, if_pos o5, if_pos h]
    have hwn : e.num ≠ 0 → ∀ t0, wantB ds (fs.map sgE) e.op e.num t0 = none := fun h t0 => by unfold wantB; rw [if_neg o0, if_neg o14, if_pos o5, if_neg h]
    have hall := c_allIntsE (m := 1) H hp hz hv hf (by omega) (by omega)
    have hres : ∀ q : Bool, (decide (e.num = 0) && pB (e.kids.map (fun k => tyX ds (fs.map sgE) k vars) = (List.replicate 1 (0 : Int)).map some)) = q → gD (ndT ds (fs.map sgE) e.op e.num (e.kids.map (tyX ds (fs.map sgE))) vars) = if q then 0 else -1 := by
      rintro _ rfl
      by_cases hn : e.num = 0
      · rw [ndT_want (by omega) (hw hn), decide_eq_true hn, Bool.true_and]
        by_cases hh : e.kids.map (fun k => tyX ds (fs.map sgE) k vars) = (List.replicate 1 (0 : Int)).map some
        · rw [pB_t hh]; exact congrArg gD (if_pos hh)
        · rw [pB_f hh]; exact congrArg gD (if_neg hh)
      · rw [ndT_none (by omega) (hwn hn), decide_eq_false hn, Bool.false_and]
        rfl
    repeat (first | refine ⟨fun h => absurd (of_decide_eq_true h) (by omega), fun _ => ?_⟩ | refine ⟨fun _ => ?_, fun h => absurd (of_decide_eq_false h) (by omega)⟩)
    exact ⟨_, fun _ => hall, fun hq => ⟨by rw [hres _ hq]; rfl, .refl v⟩, fun hq => ⟨by rw [hres _ hq]; rfl, .refl v⟩⟩
  by_cases o6 : e.op = 6
  · rw [tyX_eq]
    refine of74 _ _ _ _ _ _ _ _ ?_
    unfold vc74
    repeat (first | refine ⟨fun h => absurd (of_decide_eq_true h) (by omega), fun _ => ?_⟩ | refine ⟨fun _ => ?_, fun h => absurd (of_decide_eq_false h) (by omega)⟩)
    have hw : 0 < conTyV ds e.num → ∀ t0, wantB ds (fs.map sgE) e.op e.num t0 = some (conF ds e.num, conTyV ds e.num) := fun h t0 => by unfold wantB; rw [if_neg o0, if_neg o14, if_neg o5, if_pos o6, if_pos h]
    have hwn : ¬ 0 < conTyV ds e.num → ∀ t0, wantB ds (fs.map sgE) e.op e.num t0 = none := fun h t0 => by unfold wantB; rw [if_neg o0, if_neg o14, if_neg o5, if_pos o6, if_neg h]
    refine ⟨_, c_specConType hp.hx hsm, fun hq => ?_, fun hq => ⟨.refl v, ?_, .refl v⟩⟩
    · simp only [bls] at hq
      refine Mk.use (c_conFieldsR hp.hx hsm hi) (.refl v) ?_
      rintro _ w1 J ⟨x1, rfl, hr⟩ hS hs
      have hr := hr w1 (by simpa using hS)
      refine ⟨_, rfl, hs, _, c_allOfE H (hp.mono hs) (hz.mono hs) hv (hf.mono hs) hr (conF_nn hp.sg.1 _) (by omega), fun h => ⟨_, c_specConType (hp.hx.mono hs) hsm, ?_, hs⟩, fun h => ⟨?_, hs⟩⟩
      · rw [ndT_want (by omega) (hw hq), if_pos (pB_iff.1 h)]
        rfl
      · rw [ndT_want (by omega) (hw hq), if_neg (fun hh => by rw [pB_t hh] at h; cases h)]
        rfl
    · simp only [bls] at hq
      rw [ndT_none (by omega) (hwn (by omega))]
      rfl
  by_cases o13 : e.op = 13
  · rw [tyX_eq]
    refine of74 _ _ _ _ _ _ _ _ ?_
    unfold vc74
    repeat (first | refine ⟨fun h => absurd (of_decide_eq_true h) (by omega), fun _ => ?_⟩ | refine ⟨fun _ => ?_, fun h => absurd (of_decide_eq_false h) (by omega)⟩)
    have hnd : ndT ds (fs.map sgE) e.op e.num (e.kids.map (tyX ds (fs.map sgE))) vars = if e.kids.length = 2 ∧ e.num = 0 then (kf (e.kids.map (tyX ds (fs.map sgE))) 0 vars).bind fun t => kf (e.kids.map (tyX ds (fs.map sgE))) 1 (vars ++ [t]) else none := by
      unfold ndT
      rw [if_neg o12, if_pos o13, List.length_map]
    rw [hnd]
    refine ⟨fun hq => ?_, fun hq => ⟨?_, .refl v⟩⟩
    · simp only [bls] at hq
      rw [if_pos (by omega), kf_map (by omega), kf_map (by omega)]
      obtain ⟨g0, hc0, ht0⟩ := kid 0 (by omega) (by omega) v (.refl v)
      refine go_ix hf (by omega) (by omega) ?_
      refine ⟨_, _, g0, hc0, _, ht0 v z vars (.refl v) hz hv (by omega), fun hq2 => ?_, fun hq2 => ⟨?_, .refl v⟩⟩
      · simp only [bls] at hq2
        obtain ⟨t, ht⟩ : ∃ t, tyX ds (fs.map sgE) (nth e.kids 0) vars = some t := ⟨_, gD_eq hq2⟩
        have htn := tyX_nn hp.sg _ _ _ hv ht
        obtain ⟨g1, hc1, ht1⟩ := kid 1 (by omega) (by omega) v (.refl v)
        refine go_ix hf (by omega) (by omega) ?_
        refine ⟨_, _, g1, hc1, ?_⟩
        rw [show gD (tyX ds (fs.map sgE) (nth e.kids 0) vars) = t from by rw [ht]; rfl]
        refine St.build (α := Int) (l := [t]) (.refl v) (.cons (.int ⟨by omega, by omega⟩) .nil) rfl (by decide) ?_
        intro x1 w1 I1 hO1 hS1 hs1
        refine ⟨_, rfl, hs1, ?_⟩
        refine Mk.usew (c_extend (hz.mono hS1.sub) (hO1.read hS1) (by simp; omega)) hS1 ?_
        rintro _ w2 J2 ⟨x2, rfl, hO2⟩ hS2 hs2
        refine ⟨_, rfl, hs2, _, ht1 w2 x2 (vars ++ [t]) hS2.sub ((hO2.ofInts (u' := v)).read hS2) (hv.app fun q hq => by rw [List.mem_singleton.1 hq]; exact htn) (by simp), ?_, hS2.sub⟩
        rw [show ((0 : Nat) : Int) = 0 from rfl, ht]
        rfl
      · simp only [bls] at hq2
        have : tyX ds (fs.map sgE) (nth e.kids 0) vars = none := by
          cases ht : tyX ds (fs.map sgE) (nth e.kids 0) vars with
          | none => rfl
          | some t => have := tyX_nn hp.sg _ _ _ hv ht; rw [ht, gD_some] at hq2; omega
        rw [show ((0 : Nat) : Int) = 0 from rfl, this]
        rfl
    · simp only [bls] at hq
      rw [if_neg (by omega)]
      rfl
  by_cases o7 : e.op = 7
  · rw [tyX_eq]
    refine of74 _ _ _ _ _ _ _ _ ?_
    unfold vc74
    repeat (first | refine ⟨fun h => absurd (of_decide_eq_true h) (by omega), fun _ => ?_⟩ | refine ⟨fun _ => ?_, fun h => absurd (of_decide_eq_false h) (by omega)⟩)
    have hnd : ndT ds (fs.map sgE) e.op e.num (e.kids.map (tyX ds (fs.map sgE))) vars = if e.kids.length = 3 ∧ e.num = 0 ∧ kf (e.kids.map (tyX ds (fs.map sgE))) 0 vars = some 0 then same1 (armT vars [[], []] ((e.kids.map (tyX ds (fs.map sgE))).drop 1)) else none := by
      unfold ndT
      rw [if_neg o12, if_neg o13, if_pos o7, List.length_map]
    rw [hnd]
    by_cases hl : e.kids.length = 3 ∧ e.num = 0
    · obtain ⟨g0, hc0, ht0⟩ := kid 0 (by omega) (by omega) v (.refl v)
      obtain ⟨g1, hc1, ht1⟩ := kid 1 (by omega) (by omega) v (.refl v)
      obtain ⟨g2, hc2, ht2⟩ := kid 2 (by omega) (by omega) v (.refl v)
      have hkids : e.kids = [nth e.kids 0, nth e.kids 1, nth e.kids 2] := by
        match e.kids, hl.1 with
        | [a, b, c], _ => rfl
      have harm : armT vars [[], []] ((e.kids.map (tyX ds (fs.map sgE))).drop 1) = [tyX ds (fs.map sgE) (nth e.kids 1) vars, tyX ds (fs.map sgE) (nth e.kids 2) vars] := by
        conv => lhs; rw [hkids]
        simp [armT]
      rw [kf_map (by omega), harm]
      refine go_ixg hf (fun _ => by omega) ?_
      refine ⟨_, _, g0, fun _ => hc0, _, fun _ => ht0 v z vars (.refl v) hz hv (by omega), fun hq => ?_, fun hq => ⟨?_, .refl v⟩⟩
      · simp only [bls] at hq
        have h0 := (gD_iff (Int.le_refl 0)).1 hq.2
        rw [if_pos ⟨hl.1, hl.2, h0⟩]
        refine go_ix hf (by omega) (by omega) ?_
        refine ⟨_, _, g1, hc1, _, ht1 v z vars (.refl v) hz hv (by omega), ?_⟩
        refine go_ix hf (by omega) (by omega) ?_
        refine ⟨_, _, g2, hc2, _, ht2 v z vars (.refl v) hz hv (by omega), fun hq2 => ⟨?_, .refl v⟩, fun hq2 => ⟨?_, .refl v⟩⟩
        · simp only [bls] at hq2
          have h2 := (gD_inj (fun t h => (tyX_nn hp.sg _ _ _ hv h).1) (fun t h => (tyX_nn hp.sg _ _ _ hv h).1)).1 hq2
          rw [h2]
          cases tyX ds (fs.map sgE) (nth e.kids 1) vars with
          | none => rfl
          | some t => rw [same1_of (t := t) (by simp) (by simp)]
        · simp only [bls] at hq2
          cases hs : same1 [tyX ds (fs.map sgE) (nth e.kids 1) vars, tyX ds (fs.map sgE) (nth e.kids 2) vars] with
          | none => rfl
          | some t =>
            have k1 := same1_some hs _ (List.mem_cons_self ..)
            have k2 := same1_some hs (tyX ds (fs.map sgE) (nth e.kids 2) vars) (by simp)
            exact absurd (by rw [k1, k2]) hq2
      · simp only [bls] at hq
        rw [if_neg]
        · rfl
        rintro ⟨_, _, h3⟩
        rw [show ((0 : Nat) : Int) = 0 from rfl] at h3
        rw [h3, gD_some] at hq
        omega
    · have hbad : ((decide (e.num = 0)) && (decide ((f.n : Int) = 3))) = false := by
        rw [← Bool.not_eq_true]
        simp only [bls]
        omega
      rw [if_neg (fun h => hl ⟨h.1, h.2.1⟩)]
      refine ⟨fun h => (by rw [hbad] at h; cases h), 0, 0, ⟨none, 0, 0⟩, fun h => (by rw [hbad] at h; cases h), 0, fun h => (by rw [hbad] at h; cases h), fun hq => ?_, fun hq => ⟨rfl, .refl v⟩⟩
      rw [hbad] at hq
      simp at hq
  by_cases o8 : e.op = 8
  · refine of74 _ _ _ _ _ _ _ _ ?_
    unfold vc74
    repeat (first | refine ⟨fun h => absurd (of_decide_eq_true h) (by omega), fun _ => ?_⟩ | refine ⟨fun _ => ?_, fun h => absurd (of_decide_eq_false h) (by omega)⟩)
    exact ⟨_, c_matchTypeE H hp hz hv hf hi o8 (by omega), rfl, .refl v⟩
  by_cases o9 : e.op = 9
  · refine of74 _ _ _ _ _ _ _ _ ?_
    unfold vc74
    repeat (first | refine ⟨fun h => absurd (of_decide_eq_true h) (by omega), fun _ => ?_⟩ | refine ⟨fun _ => ?_, fun h => absurd (of_decide_eq_false h) (by omega)⟩)
    exact ⟨_, c_callTypeE H hp hz hv hf (by omega) (by omega), rfl, .refl v⟩
  by_cases o10 : e.op = 10
  · refine of74 _ _ _ _ _ _ _ _ ?_
    unfold vc74
    repeat (first | refine ⟨fun h => absurd (of_decide_eq_true h) (by omega), fun _ => ?_⟩ | refine ⟨fun _ => ?_, fun h => absurd (of_decide_eq_false h) (by omega)⟩)
    exact ⟨_, c_callTypeE H hp hz hv hf (by omega) (by omega), rfl, .refl v⟩
  by_cases o11 : e.op = 11
  · rw [tyX_eq]
    refine of74 _ _ _ _ _ _ _ _ ?_
    unfold vc74
    repeat (first | refine ⟨fun h => absurd (of_decide_eq_true h) (by omega), fun _ => ?_⟩ | refine ⟨fun _ => ?_, fun h => absurd (of_decide_eq_false h) (by omega)⟩)
    refine ⟨fun hq => ?_, fun hq => ⟨?_, .refl v⟩⟩
    · simp only [bls] at hq
      obtain ⟨g0, hc0, ht0⟩ := kid 0 (by omega) (by omega) v (.refl v)
      obtain ⟨g1, hc1, ht1⟩ := kid 1 (by omega) (by omega) v (.refl v)
      rw [ndT_11 o11 hq.1 (by omega)]
      refine go_ix hf (by omega) (by omega) ?_
      refine ⟨_, _, g0, hc0, _, ht0 v z vars (.refl v) hz hv (by omega), ?_⟩
      obtain ⟨q, hq1, hT⟩ := c_isArrow (n := gD (tyX ds (fs.map sgE) (nth e.kids 0) vars)) hp.hx hdl
      have harr : q = true → ∃ t, tyX ds (fs.map sgE) (nth e.kids 0) vars = some t ∧ isArr ds t := fun h => by
        have h1 := hq1.1 h
        cases ht : tyX ds (fs.map sgE) (nth e.kids 0) vars with
        | none => rw [ht, gD_none] at h1; have := h1.1; omega
        | some t => rw [ht, gD_some] at h1; exact ⟨t, rfl, h1⟩
      have hix : q = true → 0 ≤ gD (tyX ds (fs.map sgE) (nth e.kids 0) vars) - 1 ∧ gD (tyX ds (fs.map sgE) (nth e.kids 0) vars) - 1 < ds.length := fun h => by have := hq1.1 h; have h1 := this.1; have h2 := this.2.1; omega
      refine ⟨q, hT, fun h => (hf.ix (by omega) (by omega)), _, _, g1, fun _ => hc1, _, fun _ => ht1 v z vars (.refl v) hz hv (by omega), ?_⟩
      refine go_wrg (fun h => by have := hix h; omega) ?_
      refine go_ixg hp.hx hix ?_
      by_cases hqt : q = true
      · obtain ⟨t, ht, ha⟩ := harr hqt
        have ht' : gD (tyX ds (fs.map sgE) (nth e.kids 0) vars) = t := by rw [ht]; rfl
        rw [ht'] at hix ⊢
        obtain ⟨fc, a1, a2, a3, a4, a5, a6⟩ := (hp.hx.src (.refl v)).ofDeclD (hix hqt).1 (hix hqt).2
        refine ⟨_, fun _ => a1, fun hq2 => ?_, fun hq2 => ⟨?_, .refl v⟩⟩
        · simp only [bls] at hq2
          have hfrm := typesOk.frm_nn hp.sg.1 (hix hqt).1 (hix hqt).2
          have hb3 := hix hqt
          refine go_wr (by omega) (by omega) ?_
          refine go_ix hp.hx (hix hqt).1 (hix hqt).2 ?_
          refine ⟨_, a2, ?_, .refl v⟩
          rw [ht, Option.bind_some, if_pos ⟨ha, (gD_iff hfrm).1 hq2.2⟩]
          rfl
        · simp only [bls, hqt] at hq2
          rw [ht, Option.bind_some, if_neg]
          · rfl
          rintro ⟨_, h2⟩
          rw [h2, gD_some] at hq2
          simp at hq2
      · have hqf : q = false := by simpa using hqt
        refine ⟨0, fun h => (by rw [hqf] at h; cases h), fun hq2 => (by rw [hqf] at hq2; simp at hq2), fun _ => ⟨?_, .refl v⟩⟩
        cases ht : tyX ds (fs.map sgE) (nth e.kids 0) vars with
        | none => rfl
        | some t =>
          rw [Option.bind_some, if_neg]
          · rfl
          rintro ⟨ha, _⟩
          exact hqt (hq1.2 (by rw [ht, gD_some]; exact ha))
    · simp only [bls] at hq
      rw [ndT_11n o11 (by omega)]
      rfl
  · rw [tyX_eq]
    refine of74 _ _ _ _ _ _ _ _ ?_
    unfold vc74
    repeat (first | refine ⟨fun h => absurd (of_decide_eq_true h) (by omega), fun _ => ?_⟩ | refine ⟨fun _ => ?_, fun h => absurd (of_decide_eq_false h) (by omega)⟩)
    rw [ndT_none (by omega) (fun t0 => by
      unfold wantB
      rw [if_neg o0, if_neg o14, if_neg o5, if_neg o6, if_neg o9, if_neg o10, if_neg o11])]
    exact ⟨rfl, .refl v⟩
end
end Go.Vc
