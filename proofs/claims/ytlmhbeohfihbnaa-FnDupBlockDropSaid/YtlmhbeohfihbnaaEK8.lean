/- Part of the proofs about the heaps and memories: a law is joined in the text whose name ends in W and the law. -/
import Derived.Test.YtlmhbeohfihbnaaEK7
namespace Go.Vc
open Go Go.Proofs Go.RowKit
set_option linter.all false
section
variable {u v w : World} {x y xf xg z s t : Sl} {l ws fs ad list free todo t1 t2 pend : List Int} {h g : List CellD} {m m' : MemD} {b n k f e q c tag : Int} {N i : Nat} {a : Addr} {I J K L R R1 F : Items} {F1 : Items → Items}

/-- a reference more -/
theorem LZ.raise (L : LZ h pend todo) (h0 : 0 ≤ k) (h1 : k < h.length) (hc : 0 < (nth h k).count) (hm : (nth h k).count < 999999) : LZ (h.set k.toNat ⟨(nth h k).count + 1, (nth h k).tag, (nth h k).fields⟩) pend ((1000 + k) :: todo) := by
  have hset : ∀ j : Int, 0 ≤ j → nth (h.set k.toNat ⟨(nth h k).count + 1, (nth h k).tag, (nth h k).fields⟩) j = if j = k then ⟨(nth h k).count + 1, (nth h k).tag, (nth h k).fields⟩ else nth h j := fun j j0 => nth_set _ _ _ _ h0 h1 j0
  have hcl := L.cell _ (nth_mem (l := h) (i := k) h0 h1)
  have hfs : ∀ j : Int, 0 ≤ j → (nth (h.set k.toNat ⟨(nth h k).count + 1, (nth h k).tag, (nth h k).fields⟩) j).fields = (nth h j).fields := fun j j0 => by
    rw [hset j j0]; split
    · rename_i e; rw [e]
    · rfl
  have hwd : ∀ i, cntF (words (h.set k.toNat ⟨(nth h k).count + 1, (nth h k).tag, (nth h k).fields⟩)) i = cntF (words h) i := fun i => by
    have := words_set (c := ⟨(nth h k).count + 1, (nth h k).tag, (nth h k).fields⟩) (h := h) (k := k) h0 h1 i
    have e : (⟨(nth h k).count + 1, (nth h k).tag, (nth h k).fields⟩ : CellD).fields = (nth h k).fields := rfl
    rw [e] at this; omega
  have hlv : ∀ g, word h g = true → word (h.set k.toNat ⟨(nth h k).count + 1, (nth h k).tag, (nth h k).fields⟩) g = true := by
    intro g hw
    rcases word_iff.1 hw with hi | hl
    · exact word_iff.2 (.inl hi)
    · obtain ⟨g1, g2, g3⟩ := live_iff.1 hl
      refine word_iff.2 (.inr (live_iff.2 ⟨g1, by simpa using g2, ?_⟩))
      rw [hset _ (by omega)]
      split
      · show 0 < (nth h k).count + 1; omega
      · exact g3
  refine ⟨fun p hp => ?_, L.pn, fun d hd => ?_, fun j j0 j1 hj hn => ?_, fun d hd g hg => ?_, fun g hg => ?_, fun j j0 j1 hj => ?_, ?_⟩
  · obtain ⟨p0, p1, p2⟩ := L.pr p hp
    refine ⟨p0, by simpa using p1, ?_⟩
    rw [hset p p0, if_neg (fun e : p = k => by rw [e] at p2; omega)]; exact p2
  · rcases List.mem_or_eq_of_mem_set hd with hd | hd
    · exact L.cell d hd
    · rw [hd]; exact ⟨by show 0 ≤ (nth h k).count + 1; omega, by show (nth h k).count + 1 ≤ _; omega, hcl.2.2⟩
  · rw [hset j j0] at hj ⊢
    simp only [List.length_set] at j1
    by_cases e : j = k
    · exfalso
      rw [if_pos e] at hj
      have hj' : (nth h k).count + 1 = 0 := hj
      omega
    · rw [if_neg e] at hj ⊢
      exact L.free j j0 j1 hj hn
  · obtain ⟨j, j0, j1, rfl⟩ := mem_nthI hd
    simp only [List.length_set] at j1
    rw [hfs j j0] at hg
    exact hlv g (L.ptr _ (nth_mem j0 j1) g hg)
  · rcases List.mem_cons.1 hg with rfl | hg
    · refine word_iff.2 (.inr (live_iff.2 ⟨by omega, by simp; omega, ?_⟩))
      rw [hset _ (by omega), if_pos (by omega)]
      show 0 < (nth h k).count + 1; omega
    · exact hlv g (L.ptrT g hg)
  · simp only [List.length_set] at j1
    rw [hwd, cntF_cons]
    rw [hset j j0] at hj ⊢
    by_cases e : j = k
    · rw [if_pos (by omega), if_pos e]
      have := L.cnt k h0 h1 hc
      rw [e]
      show _ ≤ (nth h k).count + 1
      omega
    · rw [if_neg e] at hj ⊢
      rw [if_neg (by omega)]
      have := L.cnt j j0 j1 hj
      omega
  · obtain ⟨rk, hrk⟩ := L.acyc
    refine ⟨rk, fun j j0 j1 g hg h1000 => ?_⟩
    rw [hfs j j0] at hg
    exact hrk j j0 (by simpa using j1) g hg h1000

theorem MS.sub1 (S : MS m N t1) : MS m N [] :=
  ⟨S.blocks, S.four, S.fields, LZ.sub (t1 := []) (t2 := t1.map (mapW (adr m.words N))) S.lz, fun f hf => (by cases hf), S.chains⟩
/-- what can be dropped -/
theorem VM.db_of (V : VM m N) (hb : blkB m.words (adr m.words N) n = true) (S : MS m N [n]) : dbOk m n := by
  have ha := adrs_eq V.blocks
  obtain ⟨b1, b2, b3⟩ := blkB_iff.1 hb
  obtain ⟨p0, p1, p2⟩ := V.idx_lt hb
  have L := S.lz
  simp only [List.map_cons, List.map_nil] at L
  rw [mapW_ptr b1] at L
  have L2 : LZ (heapM m) [] [1000 + idxI (adr m.words N) (n - 1000)] := V.ext.lzT (z := ⟨heapM m, []⟩) L
  refine ⟨⟨N, V⟩, .inr (by rw [ha]; exact hb), fun _ => ?_⟩
  rw [ha]
  have hlive : 0 < (nth (heapM m) (idxI (adr m.words N) (n - 1000))).count := by rw [p2, cellA_count]; exact b3
  have h1 := L2.cnt _ p0 p1 hlive
  rw [p2, cellA_count, cntF_cons, if_pos (by omega)] at h1
  have h2 : cntF [] (idxI (adr m.words N) (n - 1000)) = 0 := by simp [cntF]
  have hw : word (heapM m) (1000 + idxI (adr m.words N) (n - 1000)) = true := L2.ptrT _ (by simp)
  rw [refL, nth_refsW (by omega) (by omega), cnt_cntF _ (by omega) (word_ptr hw (by omega))]
  omega

/-- the memory with a reference more -/
theorem VM.dup_ms (V : VM m N) (hd : dupOk m n) (hp : 1000 ≤ n) : MS (dupM m n) N [n] ∧ adr (dupM m n).words N = adr m.words N ∧
    cellsL (dupM m n).words (adr m.words N) = (cellsL m.words (adr m.words N)).set (idxI (adr m.words N) (n - 1000)).toNat ⟨nth m.words (n - 1000) + 1, (cellA m.words (adr m.words N) (n - 1000)).tag, (cellA m.words (adr m.words N) (n - 1000)).fields⟩ := by
  have S := vm_ms.1 V
  have hb := wd_blk hd.2.1 hp
  rw [adrs_eq V.blocks] at hb
  obtain ⟨b1, b2, b3⟩ := blkB_iff.1 hb
  obtain ⟨p0, p1, p2⟩ := idxI_mem b2
  have hnth : nth (cellsL m.words (adr m.words N)) (idxI (adr m.words N) (n - 1000)) = cellA m.words (adr m.words N) (n - 1000) := by rw [nth_cellsL p0 p1, p2]
  have hcnt : (nth (cellsL m.words (adr m.words N)) (idxI (adr m.words N) (n - 1000))).count = nth m.words (n - 1000) := by rw [hnth, cellA_count]
  have hmax := (S.lz.cell _ (nth_mem (l := cellsL m.words (adr m.words N)) (i := idxI (adr m.words N) (n - 1000)) p0 (by rw [cellsL_len]; exact p1))).2.1
  have hne := hd.2.2 hp
  have L := LZ.raise (k := idxI (adr m.words N) (n - 1000)) S.lz p0 (by rw [cellsL_len]; exact p1) (by omega) (by omega)
  rw [hcnt, hnth] at L
  have e : dupM m n = ⟨m.words.set (n - 1000).toNat (nth m.words (n - 1000) + 1), m.free⟩ := if_pos hp
  rw [e]
  exact S.count b2 b3 (by omega) [n] (fun f hf _ => by rw [List.mem_singleton.1 hf]; exact b2) (by
    simp only [List.map_cons, List.map_nil]
    rw [mapW_ptr hp]; exact L)
theorem dup_vmem (hd : dupOk m n) : vmem (dupM m n) := by
  obtain ⟨N, V⟩ := hd.1
  by_cases hp : 1000 ≤ n
  · exact ⟨N, vm_ms.2 (V.dup_ms hd hp).1.sub1⟩
  · have e : dupM m n = m := if_neg hp
    rw [e]; exact hd.1
theorem dup_blk (hd : dupOk m n) (hp : 1000 ≤ n) : ∃ N, VM (dupM m n) N ∧ VM m N ∧ MS (dupM m n) N [n] ∧ adr (dupM m n).words N = adr m.words N ∧ blkB m.words (adr m.words N) n = true ∧ blkB (dupM m n).words (adr (dupM m n).words N) n = true ∧ nth (dupM m n).words (n - 1000) = nth m.words (n - 1000) + 1 := by
  obtain ⟨N, V⟩ := hd.1
  obtain ⟨S, h1, h2⟩ := V.dup_ms hd hp
  have hb := wd_blk hd.2.1 hp
  rw [adrs_eq V.blocks] at hb
  obtain ⟨b1, b2, b3⟩ := blkB_iff.1 hb
  obtain ⟨q0, q1⟩ := V.words_in hb
  have e : dupM m n = ⟨m.words.set (n - 1000).toNat (nth m.words (n - 1000) + 1), m.free⟩ := if_pos hp
  have e1 : nth (dupM m n).words (n - 1000) = nth m.words (n - 1000) + 1 := by
    rw [e]
    show nth (m.words.set (n - 1000).toNat (nth m.words (n - 1000) + 1)) (n - 1000) = _
    rw [nth_set _ _ _ _ (by omega) q1 (by omega), if_pos rfl]
  exact ⟨N, vm_ms.2 S.sub1, V, S, h1, hb, blkB_iff.2 ⟨hp, by rw [h1]; exact b2, by rw [e1]; omega⟩, e1⟩
theorem dup_drop (hd : dupOk m n) : dbOk (dupM m n) n ∧ dbM (dupM m n) n = m := by
  by_cases hp : 1000 ≤ n
  · obtain ⟨N, V', V, S, h1, hb, hb', e1⟩ := dup_blk hd hp
    refine ⟨V'.db_of hb' S, ?_⟩
    obtain ⟨q0, q1⟩ := V.words_in hb
    have b3 := (blkB_iff.1 hb).2.2
    have e : dupM m n = ⟨m.words.set (n - 1000).toNat (nth m.words (n - 1000) + 1), m.free⟩ := if_pos hp
    show (if 1000 ≤ n then _ else dupM m n) = m
    rw [if_pos hp, if_pos (by rw [e1]; omega)]
    unfold lowM
    rw [e1, e]
    obtain ⟨ws, free⟩ := m
    show MemD.mk ((ws.set (n - 1000).toNat (nth ws (n - 1000) + 1)).set (n - 1000).toNat (nth ws (n - 1000) + 1 - 1)) free = ⟨ws, free⟩
    congr 1
    rw [List.set_set]
    refine nth_extI (by simp) fun j j0 j1 => ?_
    rw [nth_set _ _ _ _ (by omega) q1 j0]
    split
    · rename_i e; rw [e]; omega
    · rfl
  · have e : dupM m n = m := if_neg hp
    rw [e]
    refine ⟨⟨hd.1, hd.2.1, fun h => absurd h hp⟩, ?_⟩
    show (if 1000 ≤ n then _ else m) = m
    rw [if_neg hp]
end
end Go.Vc

namespace Go.Vc
open Go Go.Proofs Go.RowKit
set_option linter.all false
section
variable {u v w : World} {x y xf xg z s t : Sl} {l ws ws' fs ad list free todo t1 t2 pend : List Int} {h g : List CellD} {m m' : MemD} {b n k f e q c tag : Int} {N i : Nat} {a : Addr} {I J K L R R1 F : Items} {F1 : Items → Items}

/-- live cells are live blocks -/
theorem nlive_cells (ws ad' ad : List Int) : nlive (ad.map (cellA ws ad')) = ad.countP fun a => decide (0 < nth ws a) := by
  unfold nlive
  rw [List.countP_map]
  refine List.countP_congr fun a _ => ?_
  simp [cellA_count]
theorem nth_fillL (h0 : 0 ≤ k) (h1 : k + 2 + fs.length ≤ ws.length) (i0 : 0 ≤ e) : nth (fillL ws k tag fs) e = if k + 2 ≤ e ∧ e < k + 2 + fs.length then nth fs (e - (k + 2)) else if e = k + 1 then tag * 4 + fs.length else if e = k then 1 else nth ws e := by
  unfold fillL
  rw [nth_setL (by omega) (by simp; omega) i0]
  split
  · rfl
  · rw [nth_set _ _ _ _ (by omega) (by simp; omega) i0]
    split
    · rfl
    · rw [nth_set _ _ _ _ h0 (by omega) i0]
theorem fillL_len (h0 : 0 ≤ k) (h1 : k + 2 + fs.length ≤ ws.length) : (fillL ws k tag fs).length = ws.length := by
  unfold fillL
  rw [setL_len (by omega) (by simp; omega)]
  simp

/-- where a new block comes to lie -/
structure New (m : MemD) (N : Nat) (k : Nat) (o : MemD) (N' : Nat) (tag : Int) (fs : List Int) : Prop where
  nb : nB o.words N'
  mem : atM m k ∈ adr o.words N'
  one : nth o.words (atM m k) = 1
  head : nth o.words (atM m k + 1) = tag * 4 + k
  len : o.words.length = (baseM m k).length
  live : (adr o.words N').countP (fun a => decide (0 < nth o.words a)) = (adr m.words N).countP (fun a => decide (0 < nth m.words a)) + 1
  upd : 0 < nth m.free (k : Int) → N' = N ∧ adr o.words N' = adr m.words N ∧ UpdM m.words o.words (atM m k) ∧ atM m k ∈ freeA m.words (adr m.words N) k
  app : ¬ 0 < nth m.free (k : Int) → N' = N + 1 ∧ adr o.words N' = adr m.words N ++ [(m.words.length : Int)] ∧ ∀ i : Int, 0 ≤ i → i < m.words.length → nth o.words i = nth m.words i
theorem VM.new (V : VM m N) (hl : fs.length ≤ 3) (ht : 0 ≤ tag) : ∃ N', New m N fs.length (allocM m tag fs) N' tag fs := by
  obtain ⟨q0, q1, q2, q3⟩ := V.at_ hl
  have hn : ∀ e : Int, 0 ≤ e → nth (allocM m tag fs).words e = if atM m fs.length + 2 ≤ e ∧ e < atM m fs.length + 2 + fs.length then nth fs (e - (atM m fs.length + 2)) else if e = atM m fs.length + 1 then tag * 4 + fs.length else if e = atM m fs.length then 1 else nth (baseM m fs.length) e := fun e e0 => nth_fillL q0 q1 e0
  have hlen : (allocM m tag fs).words.length = (baseM m fs.length).length := fillL_len q0 q1
  have h1 : nth (allocM m tag fs).words (atM m fs.length) = 1 := by rw [hn _ q0, if_neg (by omega), if_neg (by omega), if_pos rfl]
  have h2 : nth (allocM m tag fs).words (atM m fs.length + 1) = tag * 4 + fs.length := by rw [hn _ (by omega), if_neg (by omega), if_pos rfl]
  have hsz : szA (allocM m tag fs).words (atM m fs.length) = fs.length := by unfold szA; rw [h2]; omega
  by_cases hp : 0 < nth m.free (fs.length : Int)
  · obtain ⟨e1, e2⟩ := q3 hp
    obtain ⟨f1, f2, f3⟩ := freeA_mem.1 e2
    have hbase : baseM m fs.length = m.words := if_pos hp
    have U : UpdM m.words (allocM m tag fs).words (atM m fs.length) := by
      refine ⟨by rw [hlen, hbase], fun i i0 hi => ?_⟩
      unfold nxtA at hi
      rw [hn i i0, if_neg (by omega), if_neg (by omega), if_neg (by omega), hbase]
    obtain ⟨hb, had⟩ := U.nB V.blocks f1 (by rw [hsz, f3]) (by rw [h1]; omega) (by rw [h2]; omega)
    refine ⟨N, hb, by rw [had]; exact f1, h1, h2, hlen, ?_, fun _ => ⟨rfl, had, U, e2⟩, fun h => absurd hp h⟩
    rw [had]
    have hc := U.cells f1
    obtain ⟨p0, p1, p2⟩ := idxI_mem f1
    have h3 := nlive_set (h := cellsL m.words (adr m.words N)) (k := idxI (adr m.words N) (atM m fs.length)) (c := cellA (allocM m tag fs).words (adr m.words N) (atM m fs.length)) p0 (by rw [cellsL_len]; exact p1)
    rw [nth_cellsL p0 p1, p2, cellA_count, cellA_count, h1, f2, if_neg (by omega), if_pos (by omega), ← hc] at h3
    have h4 := nlive_cells (allocM m tag fs).words (adr m.words N) (adr m.words N)
    have h5 := nlive_cells m.words (adr m.words N) (adr m.words N)
    unfold cellsL at h3
    omega
  · have hbase : baseM m fs.length = m.words ++ List.replicate (2 + fs.length) 0 := if_neg hp
    have hat : atM m fs.length = m.words.length := if_neg hp
    have hlen2 : ((allocM m tag fs).words.length : Int) = m.words.length + 2 + fs.length := by rw [hlen, hbase]; simp; omega
    have hold : ∀ i : Int, 0 ≤ i → i < m.words.length → nth (allocM m tag fs).words i = nth m.words i := fun i i0 i1 => by
      rw [hn i i0, if_neg (by omega), if_neg (by omega), if_neg (by omega), hbase, nth_left i0 i1]
    have hend := V.blocks.2
    have hpos : ∀ i, i ≤ N → posA (allocM m tag fs).words i = posA m.words i := posA_congr fun i hi => by
      have ho := V.blocks.1 i hi
      have h0 := posA_nn m.words i
      unfold szA
      rw [hold _ (by omega) (by have := ho.1; omega)]
    have hN : posA (allocM m tag fs).words N = m.words.length := by rw [hpos N (by omega), hend]
    have hadr : adr (allocM m tag fs).words (N + 1) = adr m.words N ++ [(m.words.length : Int)] := by
      rw [adr_succ, hN]
      congr 1
      unfold adr
      refine List.map_congr_left fun i hi => hpos i ?_
      have : i < N := by simpa using hi
      omega
    have hb : nB (allocM m tag fs).words (N + 1) := by
      refine ⟨fun i hi => ?_, ?_⟩
      · rcases Nat.lt_or_ge i N with h3 | h3
        · obtain ⟨o1, o2, o3, o4⟩ := V.blocks.1 i h3
          have h0 := posA_nn m.words i
          rw [hpos i (by omega)]
          unfold nxtA szA at o4
          unfold okA nxtA szA
          rw [hold _ (by omega) (by omega), hold _ (by omega) (by omega)]
          exact ⟨by omega, o2, o3, by omega⟩
        · rw [show i = N from by omega, hN, ← hat]
          unfold okA nxtA
          rw [h1, h2, hsz]
          exact ⟨by omega, by omega, by omega, by omega⟩
      · rw [posA_succ, hN, ← hat, hsz]; omega
    refine ⟨N + 1, hb, by rw [hadr, hat]; simp, h1, h2, hlen, ?_, fun h => absurd h hp, fun _ => ⟨rfl, hadr, hold⟩⟩
    rw [hadr, List.countP_append, ← hat]
    have h3 : ([atM m fs.length].countP fun a => decide (0 < nth (allocM m tag fs).words a)) = 1 := by
      rw [List.countP_singleton, h1]; rfl
    rw [h3]
    congr 1
    refine List.countP_congr fun a ha => ?_
    have h4 := adr_nn ha
    have h5 := (V.blocks.ok ha).1
    rw [hold a h4 (by omega)]
end
end Go.Vc

namespace Go.Vc
open Go Go.Proofs Go.RowKit
set_option linter.all false
section
variable {u v w : World} {x y xf xg z s t : Sl} {l ws ws' fs ad list free todo t1 t2 pend : List Int} {h g : List CellD} {m m' : MemD} {b n k f e q c tag : Int} {N N' i : Nat} {a : Addr} {I J K L R R1 F : Items} {F1 : Items → Items}

theorem idxI_app (hx : e ∈ ad) : idxI (ad ++ l) e = idxI ad e := by
  unfold idxI
  rw [if_pos hx, if_pos (List.mem_append_left _ hx), List.idxOf_append, if_pos hx]
theorem fieldsA_congr (hs : szA ws' b = szA ws b) (hf : ∀ j : Int, 0 ≤ j → j < szA ws b → nth ws' (b + 2 + j) = nth ws (b + 2 + j)) : fieldsA ws' b = fieldsA ws b := by
  unfold fieldsA
  rw [hs]
  refine List.map_congr_left fun i hi => ?_
  have : i < (szA ws b).toNat := by simpa using hi
  exact hf i (by omega) (by omega)
/-- the blocks that were there -/
theorem New.old {o : MemD} {k : Nat} (V : VM m N) (E : New m N k o N' tag fs) (hb : b ∈ adr o.words N') (hne : b ≠ atM m k) : b ∈ adr m.words N ∧ nth o.words b = nth m.words b ∧ nth o.words (b + 1) = nth m.words (b + 1) ∧ fieldsA o.words b = fieldsA m.words b := by
  by_cases hp : 0 < nth m.free (k : Int)
  · obtain ⟨rfl, had, U, hf⟩ := E.upd hp
    rw [had] at hb
    have ha := (freeA_mem.1 hf).1
    exact ⟨hb, U.same0 ha hb hne, U.same1 ha hb hne, U.fieldsA ha hb hne⟩
  · obtain ⟨rfl, had, hold⟩ := E.app hp
    have hat : atM m k = m.words.length := if_neg hp
    rw [had] at hb
    rcases List.mem_append.1 hb with hb | hb
    · obtain ⟨o1, o2, o3, o4⟩ := V.blocks.ok hb
      have h0 := adr_nn hb
      unfold nxtA at o4
      have e1 := hold (b + 1) (by omega) (by omega)
      have hs : szA o.words b = szA m.words b := by unfold szA; rw [e1]
      exact ⟨hb, hold b (by omega) (by omega), e1, fieldsA_congr hs fun j j0 j1 => hold _ (by omega) (by omega)⟩
    · rw [List.mem_singleton.1 hb, hat] at hne; exact absurd rfl hne
theorem New.fresh {o : MemD} {k : Nat} (V : VM m N) (E : New m N k o N' tag fs) (hb : b ∈ adr m.words N) (hl : nth m.words b ≠ 0) : b ≠ atM m k := by
  intro e
  by_cases hp : 0 < nth m.free (k : Int)
  · obtain ⟨_, had, U, hf⟩ := E.upd hp
    exact hl (e ▸ (freeA_mem.1 hf).2.1)
  · have hat : atM m k = m.words.length := if_neg hp
    have := (V.blocks.ok hb).1
    omega
/-- .. without the new one -/
theorem New.cells {o : MemD} {k : Nat} (V : VM m N) (E : New m N k o N' tag fs) : ∃ q, (cellsL o.words (adr o.words N')).set (idxI (adr o.words N') (atM m k)).toNat free0 = cellsL m.words (adr m.words N) ++ List.replicate q free0 := by
  obtain ⟨p0, p1, p2⟩ := idxI_mem E.mem
  by_cases hp : 0 < nth m.free (k : Int)
  · obtain ⟨rfl, had, U, hf⟩ := E.upd hp
    obtain ⟨f1, f2, f3⟩ := freeA_mem.1 hf
    refine ⟨0, ?_⟩
    rw [had] at p0 p1 p2 ⊢
    rw [U.cells f1, List.set_set, List.replicate_zero, List.append_nil]
    refine nth_ext (by simp) fun j j0 j1 => ?_
    rw [nth_set _ _ _ _ p0 (by rw [cellsL_len]; exact p1) j0]
    split
    · rename_i e; rw [e, nth_cellsL p0 p1, p2, cellA_free f2]
    · rfl
  · obtain ⟨rfl, had, hold⟩ := E.app hp
    have hat : atM m k = m.words.length := if_neg hp
    refine ⟨1, ?_⟩
    have hnm : (m.words.length : Int) ∉ adr m.words N := fun hm => by have := (V.blocks.ok hm).1; omega
    have hidx : idxI (adr o.words (N + 1)) (atM m k) = N := by
      rw [had, hat]
      unfold idxI
      rw [if_pos (by simp), List.idxOf_append, if_neg hnm, adr_len]
      simp
    rw [hidx]
    unfold cellsL
    rw [had, List.map_append, List.map_singleton, show ((N : Int)).toNat = N from rfl, List.set_append_right _ _ (by rw [List.length_map, adr_len]; exact Nat.le_refl N), List.length_map, adr_len, Nat.sub_self]
    congr 1
    refine List.map_congr_left fun b hb => ?_
    have hne : b ≠ atM m k := fun e => hnm (by rw [← hat, ← e]; exact hb)
    obtain ⟨_, e1, e2, e3⟩ := E.old V (b := b) (by rw [had]; exact List.mem_append_left _ hb) hne
    unfold cellA
    rw [e1, e2, e3]
    split
    · rfl
    · congr 1
      refine List.map_congr_left fun f hf => ?_
      unfold mapW
      split
      · rename_i hp
        rw [idxI_app ((V.fields b hb f hf).1 hp)]
      · rfl

end
end Go.Vc

namespace Go.Vc
open Go Go.Proofs Go.RowKit
set_option linter.all false
section
variable {u v w : World} {x y xf xg z s t : Sl} {l ws ws' fs ad list free todo t1 t2 pend : List Int} {h g : List CellD} {m m' : MemD} {b n k f e q c tag i : Int} {N N' : Nat} {a : Addr} {I J K L R R1 F : Items} {F1 : Items → Items}

theorem c_DrawDupBlock {code : List UInt8} (hx : Read v x code) : Mk Try.prog 16 #[x.val] v fun r J => ∃ y t, ∃ (m : MemD) (n : Int), ∃ J1 J2, r = .tuple #[.agg #[y.val, t.val], .int .i64 n] ∧ OwnI y m.words J1 ∧ OwnI t m.free J2 ∧ InI n ∧ (m.words.length : Int) ≤ 81 ∧ m.free.length ≤ 4 ∧ J = J1 ++ J2 := by
  refine of16 _ _ _ ?_
  unfold vc16
  refine Mk.use (c_DrawCellOf hx) (.refl v) ?_
  rintro _ w1 _ ⟨y, t, m, n, J1, J2, rfl, hO, hP, hn, hwl, hfl, rfl⟩ hS _
  exact ⟨_, _, _, rfl, J1 ++ J2, by simpa using hS, y, t, m, n, J1, J2, rfl, hO, hP, hn, hwl, hfl, rfl⟩
theorem l_DupBlockDrop : LawTrue Try.prog 4 := by
  intro v x0 bs hb
  refine of4 _ _ _ ?_
  unfold vc4
  refine ⟨fun hc => ⟨rfl, .refl v⟩, fun hc => ?_⟩
  simp only [decide_eq_true_eq, decide_eq_false_iff_not, Bool.and_eq_true, Bool.and_eq_false_iff, Bool.or_eq_true, Bool.or_eq_false_iff, Bool.not_eq_true', Bool.not_eq_false', Bool.not_true, Bool.not_false, Bool.false_eq_true, Bool.true_eq_false, Int.not_lt, Int.not_le, ge_iff_le, gt_iff_lt, Bool.not_eq_eq_eq_not, Bool.true_or, Bool.or_true, Bool.false_or, Bool.or_false, Bool.true_and, Bool.and_true, false_or, or_false, true_and, and_true, Decidable.not_not] at hc
  have hcode := hb.read (by omega)
  refine Mk.use (c_DrawDupBlock hcode) (.refl v) ?_
  rintro _ w1 _ ⟨x, y, m, n, J1, J2, rfl, hO, hP, hn, hwl, hfl, rfl⟩ hS hsub
  replace hS : St v w1 (J1 ++ (J2 ++ [])) := hS.perm (by simp)
  refine ⟨_, _, _, rfl, ?_⟩
  refine Mk.usew (c_implDupBlock (hO.read hS) (hP.read hS) hn) hS ?_
  rintro _ w2 _ ⟨x2, y2, J4, J5, rfl, hO2, hP2, rfl⟩ hS _
  replace hS : St v w2 (J4 ++ (J5 ++ (J1 ++ (J2 ++ [])))) := hS.perm (by simp)
  refine ⟨_, _, _, rfl, ?_⟩
  refine Mk.usew (c_specDupBlock (hO.read hS) (hP.read hS) hn) hS ?_
  rintro _ w3 _ ⟨x3, y3, J6, J7, rfl, hO3, hP3, rfl⟩ hS _
  replace hS : St v w3 (J6 ++ (J7 ++ (J4 ++ (J5 ++ (J1 ++ (J2 ++ [])))))) := hS.perm (by simp)
  have he := c_equalMemory (hO2.read hS) (hP2.read hS) (hO3.read hS) (hP3.read hS)
  refine ⟨_, _, _, rfl, _, he, fun hc => ⟨_, he, by rw [eqMB_refl]; simp, hS.sub⟩, fun hc => ?_⟩
  rw [eqMB_refl] at hc
  have hd := dupB_iff.1 (show dupB m n = true by simpa using hc)
  rw [dupR_t hd] at hO2 hP2
  obtain ⟨d1, d2⟩ := dup_drop hd
  refine Mk.usew (c_implDropBlock (hO2.read hS) (hP2.read hS) hn) hS ?_
  rintro _ w4 _ ⟨x4, y4, J8, J9, rfl, hO4, hP4, rfl⟩ hS _
  replace hS : St v w4 (J8 ++ (J9 ++ (J6 ++ (J7 ++ (J4 ++ (J5 ++ (J1 ++ (J2 ++ [])))))))) := hS.perm (by simp)
  rw [dbR_t d1, d2] at hO4 hP4
  refine ⟨_, _, _, rfl, _, fun _ => c_equalMemory (hO4.read hS) (hP4.read hS) (hO.read hS) (hP.read hS), _, fun _ => c_implValidMemory (hO2.read hS) (hP2.read hS), ?_, hS.sub⟩
  rw [dbB_t d1, eqMB_refl, vmemB_iff.2 (dup_vmem hd)]; rfl

end
end Go.Vc
