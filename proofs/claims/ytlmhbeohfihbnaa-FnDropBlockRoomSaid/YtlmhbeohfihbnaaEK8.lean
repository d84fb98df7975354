/- Part of the proofs about the heaps and memories: a law is joined in the text whose name ends in W and the law. -/
import Derived.Test.YtlmhbeohfihbnaaEK7
namespace Go.Vc
open Go Go.Proofs Go.RowKit
set_option linter.all false
section
variable {u v w : World} {x y xf xg z s t : Sl} {l ws fs ad list free todo t1 t2 pend : List Int} {h g : List CellD} {m m' : MemD} {b n k f e q c tag : Int} {N i : Nat} {a : Addr} {I J K L R R1 F : Items} {F1 : Items → Items}

end
end Go.Vc

namespace Go.Vc
open Go Go.Proofs Go.RowKit
set_option linter.all false
section
variable {u v w : World} {x y xf xg z s t : Sl} {l ws ws' fs ad list free todo t1 t2 pend : List Int} {h g : List CellD} {m m' : MemD} {b n k f e q c tag : Int} {N i : Nat} {a : Addr} {I J K L R R1 F : Items} {F1 : Items → Items}

/-- live cells are live blocks -/
theorem nlive_cells (ws ad' ad : List Int) : nlive (ad.map (cellA ws ad')) = ad.countP fun a => decide (0 < nth ws a) := by
  unfold nlive
  rw [List.countP_map]
  refine List.countP_congr fun a _ => ?_
  simp [cellA_count]
theorem nth_fillL (h0 : 0 ≤ k) (h1 : k + 2 + fs.length ≤ ws.length) (i0 : 0 ≤ e) : nth (fillL ws k tag fs) e = if k + 2 ≤ e ∧ e < k + 2 + fs.length then nth fs (e - (k + 2)) else if e = k + 1 then tag * 4 + fs.length else if e = k then 1 else nth ws e := by
  unfold fillL
  rw [nth_setL (by omega) (by simp; omega) i0]
  split
  · rfl
  · rw [nth_set _ _ _ _ (by omega) (by simp; omega) i0]
    split
    · rfl
    · rw [nth_set _ _ _ _ h0 (by omega) i0]
theorem fillL_len (h0 : 0 ≤ k) (h1 : k + 2 + fs.length ≤ ws.length) : (fillL ws k tag fs).length = ws.length := by
  unfold fillL
  rw [setL_len (by omega) (by simp; omega)]
  simp

/-- where a new block comes to lie -/
structure New (m : MemD) (N : Nat) (k : Nat) (o : MemD) (N' : Nat) (tag : Int) (fs : List Int) : Prop where
  nb : nB o.words N'
  mem : atM m k ∈ adr o.words N'
  one : nth o.words (atM m k) = 1
  head : nth o.words (atM m k + 1) = tag * 4 + k
  len : o.words.length = (baseM m k).length
  live : (adr o.words N').countP (fun a => decide (0 < nth o.words a)) = (adr m.words N).countP (fun a => decide (0 < nth m.words a)) + 1
  upd : 0 < nth m.free (k : Int) → N' = N ∧ adr o.words N' = adr m.words N ∧ UpdM m.words o.words (atM m k) ∧ atM m k ∈ freeA m.words (adr m.words N) k
  app : ¬ 0 < nth m.free (k : Int) → N' = N + 1 ∧ adr o.words N' = adr m.words N ++ [(m.words.length : Int)] ∧ ∀ i : Int, 0 ≤ i → i < m.words.length → nth o.words i = nth m.words i
theorem VM.new (V : VM m N) (hl : fs.length ≤ 3) (ht : 0 ≤ tag) : ∃ N', New m N fs.length (allocM m tag fs) N' tag fs := by
  obtain ⟨q0, q1, q2, q3⟩ := V.at_ hl
  have hn : ∀ e : Int, 0 ≤ e → nth (allocM m tag fs).words e = if atM m fs.length + 2 ≤ e ∧ e < atM m fs.length + 2 + fs.length then nth fs (e - (atM m fs.length + 2)) else if e = atM m fs.length + 1 then tag * 4 + fs.length else if e = atM m fs.length then 1 else nth (baseM m fs.length) e := fun e e0 => nth_fillL q0 q1 e0
  have hlen : (allocM m tag fs).words.length = (baseM m fs.length).length := fillL_len q0 q1
  have h1 : nth (allocM m tag fs).words (atM m fs.length) = 1 := by rw [hn _ q0, if_neg (by omega), if_neg (by omega), if_pos rfl]
  have h2 : nth (allocM m tag fs).words (atM m fs.length + 1) = tag * 4 + fs.length := by rw [hn _ (by omega), if_neg (by omega), if_pos rfl]
  have hsz : szA (allocM m tag fs).words (atM m fs.length) = fs.length := by unfold szA; rw [h2]; omega
  by_cases hp : 0 < nth m.free (fs.length : Int)
  · obtain ⟨e1, e2⟩ := q3 hp
    obtain ⟨f1, f2, f3⟩ := freeA_mem.1 e2
    have hbase : baseM m fs.length = m.words := if_pos hp
    have U : UpdM m.words (allocM m tag fs).words (atM m fs.length) := by
      refine ⟨by rw [hlen, hbase], fun i i0 hi => ?_⟩
      unfold nxtA at hi
      rw [hn i i0, if_neg (by omega), if_neg (by omega), if_neg (by omega), hbase]
    obtain ⟨hb, had⟩ := U.nB V.blocks f1 (by rw [hsz, f3]) (by rw [h1]; omega) (by rw [h2]; omega)
    refine ⟨N, hb, by rw [had]; exact f1, h1, h2, hlen, ?_, fun _ => ⟨rfl, had, U, e2⟩, fun h => absurd hp h⟩
    rw [had]
    have hc := U.cells f1
    obtain ⟨p0, p1, p2⟩ := idxI_mem f1
    have h3 := nlive_set (h := cellsL m.words (adr m.words N)) (k := idxI (adr m.words N) (atM m fs.length)) (c := cellA (allocM m tag fs).words (adr m.words N) (atM m fs.length)) p0 (by rw [cellsL_len]; exact p1)
    rw [nth_cellsL p0 p1, p2, cellA_count, cellA_count, h1, f2, if_neg (by omega), if_pos (by omega), ← hc] at h3
    have h4 := nlive_cells (allocM m tag fs).words (adr m.words N) (adr m.words N)
    have h5 := nlive_cells m.words (adr m.words N) (adr m.words N)
    unfold cellsL at h3
    omega
  · have hbase : baseM m fs.length = m.words ++ List.replicate (2 + fs.length) 0 := if_neg hp
    have hat : atM m fs.length = m.words.length := if_neg hp
    have hlen2 : ((allocM m tag fs).words.length : Int) = m.words.length + 2 + fs.length := by rw [hlen, hbase]; simp; omega
    have hold : ∀ i : Int, 0 ≤ i → i < m.words.length → nth (allocM m tag fs).words i = nth m.words i := fun i i0 i1 => by
      rw [hn i i0, if_neg (by omega), if_neg (by omega), if_neg (by omega), hbase, nth_left i0 i1]
    have hend := V.blocks.2
    have hpos : ∀ i, i ≤ N → posA (allocM m tag fs).words i = posA m.words i := posA_congr fun i hi => by
      have ho := V.blocks.1 i hi
      have h0 := posA_nn m.words i
      unfold szA
      rw [hold _ (by omega) (by have := ho.1; omega)]
    have hN : posA (allocM m tag fs).words N = m.words.length := by rw [hpos N (by omega), hend]
    have hadr : adr (allocM m tag fs).words (N + 1) = adr m.words N ++ [(m.words.length : Int)] := by
      rw [adr_succ, hN]
      congr 1
      unfold adr
      refine List.map_congr_left fun i hi => hpos i ?_
      have : i < N := by simpa using hi
      omega
    have hb : nB (allocM m tag fs).words (N + 1) := by
      refine ⟨fun i hi => ?_, ?_⟩
      · rcases Nat.lt_or_ge i N with h3 | h3
        · obtain ⟨o1, o2, o3, o4⟩ := V.blocks.1 i h3
          have h0 := posA_nn m.words i
          rw [hpos i (by omega)]
          unfold nxtA szA at o4
          unfold okA nxtA szA
          rw [hold _ (by omega) (by omega), hold _ (by omega) (by omega)]
          exact ⟨by omega, o2, o3, by omega⟩
        · rw [show i = N from by omega, hN, ← hat]
          unfold okA nxtA
          rw [h1, h2, hsz]
          exact ⟨by omega, by omega, by omega, by omega⟩
      · rw [posA_succ, hN, ← hat, hsz]; omega
    refine ⟨N + 1, hb, by rw [hadr, hat]; simp, h1, h2, hlen, ?_, fun h => absurd h hp, fun _ => ⟨rfl, hadr, hold⟩⟩
    rw [hadr, List.countP_append, ← hat]
    have h3 : ([atM m fs.length].countP fun a => decide (0 < nth (allocM m tag fs).words a)) = 1 := by
      rw [List.countP_singleton, h1]; rfl
    rw [h3]
    congr 1
    refine List.countP_congr fun a ha => ?_
    have h4 := adr_nn ha
    have h5 := (V.blocks.ok ha).1
    rw [hold a h4 (by omega)]
end
end Go.Vc

namespace Go.Vc
open Go Go.Proofs Go.RowKit
set_option linter.all false
section
variable {u v w : World} {x y xf xg z s t : Sl} {l ws ws' fs ad list free todo t1 t2 pend : List Int} {h g : List CellD} {m m' : MemD} {b n k f e q c tag : Int} {N N' i : Nat} {a : Addr} {I J K L R R1 F : Items} {F1 : Items → Items}

theorem idxI_app (hx : e ∈ ad) : idxI (ad ++ l) e = idxI ad e := by
  unfold idxI
  rw [if_pos hx, if_pos (List.mem_append_left _ hx), List.idxOf_append, if_pos hx]
theorem fieldsA_congr (hs : szA ws' b = szA ws b) (hf : ∀ j : Int, 0 ≤ j → j < szA ws b → nth ws' (b + 2 + j) = nth ws (b + 2 + j)) : fieldsA ws' b = fieldsA ws b := by
  unfold fieldsA
  rw [hs]
  refine List.map_congr_left fun i hi => ?_
  have : i < (szA ws b).toNat := by simpa using hi
  exact hf i (by omega) (by omega)
/-- the blocks that were there -/
theorem New.old {o : MemD} {k : Nat} (V : VM m N) (E : New m N k o N' tag fs) (hb : b ∈ adr o.words N') (hne : b ≠ atM m k) : b ∈ adr m.words N ∧ nth o.words b = nth m.words b ∧ nth o.words (b + 1) = nth m.words (b + 1) ∧ fieldsA o.words b = fieldsA m.words b := by
  by_cases hp : 0 < nth m.free (k : Int)
  · obtain ⟨rfl, had, U, hf⟩ := E.upd hp
    rw [had] at hb
    have ha := (freeA_mem.1 hf).1
    exact ⟨hb, U.same0 ha hb hne, U.same1 ha hb hne, U.fieldsA ha hb hne⟩
  · obtain ⟨rfl, had, hold⟩ := E.app hp
    have hat : atM m k = m.words.length := if_neg hp
    rw [had] at hb
    rcases List.mem_append.1 hb with hb | hb
    · obtain ⟨o1, o2, o3, o4⟩ := V.blocks.ok hb
      have h0 := adr_nn hb
      unfold nxtA at o4
      have e1 := hold (b + 1) (by omega) (by omega)
      have hs : szA o.words b = szA m.words b := by unfold szA; rw [e1]
      exact ⟨hb, hold b (by omega) (by omega), e1, fieldsA_congr hs fun j j0 j1 => hold _ (by omega) (by omega)⟩
    · rw [List.mem_singleton.1 hb, hat] at hne; exact absurd rfl hne
theorem New.fresh {o : MemD} {k : Nat} (V : VM m N) (E : New m N k o N' tag fs) (hb : b ∈ adr m.words N) (hl : nth m.words b ≠ 0) : b ≠ atM m k := by
  intro e
  by_cases hp : 0 < nth m.free (k : Int)
  · obtain ⟨_, had, U, hf⟩ := E.upd hp
    exact hl (e ▸ (freeA_mem.1 hf).2.1)
  · have hat : atM m k = m.words.length := if_neg hp
    have := (V.blocks.ok hb).1
    omega
/-- its fields -/
theorem alloc_fields (V : VM m N) (hl : fs.length ≤ 3) (ht : 0 ≤ tag) : fieldsA (allocM m tag fs).words (atM m fs.length) = fs := by
  obtain ⟨q0, q1, q2, q3⟩ := V.at_ hl
  have h2 : nth (allocM m tag fs).words (atM m fs.length + 1) = tag * 4 + fs.length := by
    show nth (fillL _ _ _ _) _ = _
    rw [nth_fillL q0 q1 (by omega), if_neg (by omega), if_pos rfl]
  have hsz : szA (allocM m tag fs).words (atM m fs.length) = fs.length := by unfold szA; rw [h2]; omega
  have hlen := fieldsA_len (allocM m tag fs).words (atM m fs.length)
  refine nth_extI (by omega) fun j j0 j1 => ?_
  have hj : j < fs.length := by omega
  have e1 : nth (fieldsA (allocM m tag fs).words (atM m fs.length)) j = nth (allocM m tag fs).words (atM m fs.length + 2 + j) := by
    unfold fieldsA
    refine nth_of ?_
    rw [List.getElem?_map, List.getElem?_range (by omega), Option.map_some]
    rw [show ((j.toNat : Nat) : Int) = j from by omega]
  rw [e1]
  show nth (fillL _ _ _ _) _ = _
  rw [nth_fillL q0 q1 (by omega), if_pos (by omega)]
  congr 1
  omega

/-- .. without the new one -/
theorem New.cells {o : MemD} {k : Nat} (V : VM m N) (E : New m N k o N' tag fs) : ∃ q, (cellsL o.words (adr o.words N')).set (idxI (adr o.words N') (atM m k)).toNat free0 = cellsL m.words (adr m.words N) ++ List.replicate q free0 := by
  obtain ⟨p0, p1, p2⟩ := idxI_mem E.mem
  by_cases hp : 0 < nth m.free (k : Int)
  · obtain ⟨rfl, had, U, hf⟩ := E.upd hp
    obtain ⟨f1, f2, f3⟩ := freeA_mem.1 hf
    refine ⟨0, ?_⟩
    rw [had] at p0 p1 p2 ⊢
    rw [U.cells f1, List.set_set, List.replicate_zero, List.append_nil]
    refine nth_ext (by simp) fun j j0 j1 => ?_
    rw [nth_set _ _ _ _ p0 (by rw [cellsL_len]; exact p1) j0]
    split
    · rename_i e; rw [e, nth_cellsL p0 p1, p2, cellA_free f2]
    · rfl
  · obtain ⟨rfl, had, hold⟩ := E.app hp
    have hat : atM m k = m.words.length := if_neg hp
    refine ⟨1, ?_⟩
    have hnm : (m.words.length : Int) ∉ adr m.words N := fun hm => by have := (V.blocks.ok hm).1; omega
    have hidx : idxI (adr o.words (N + 1)) (atM m k) = N := by
      rw [had, hat]
      unfold idxI
      rw [if_pos (by simp), List.idxOf_append, if_neg hnm, adr_len]
      simp
    rw [hidx]
    unfold cellsL
    rw [had, List.map_append, List.map_singleton, show ((N : Int)).toNat = N from rfl, List.set_append_right _ _ (by rw [List.length_map, adr_len]; exact Nat.le_refl N), List.length_map, adr_len, Nat.sub_self]
    congr 1
    refine List.map_congr_left fun b hb => ?_
    have hne : b ≠ atM m k := fun e => hnm (by rw [← hat, ← e]; exact hb)
    obtain ⟨_, e1, e2, e3⟩ := E.old V (b := b) (by rw [had]; exact List.mem_append_left _ hb) hne
    unfold cellA
    rw [e1, e2, e3]
    split
    · rfl
    · congr 1
      refine List.map_congr_left fun f hf => ?_
      unfold mapW
      split
      · rename_i hp
        rw [idxI_app ((V.fields b hb f hf).1 hp)]
      · rfl

end
end Go.Vc

namespace Go.Vc
open Go Go.Proofs Go.RowKit
set_option linter.all false
section
variable {u v w : World} {x y xf xg z s t : Sl} {l ws ws' fs ad list free todo t1 t2 pend : List Int} {h g : List CellD} {m m' : MemD} {b n k f e q c tag i : Int} {N N' : Nat} {a : Addr} {I J K L R R1 F : Items} {F1 : Items → Items}

theorem c_DrawDropBlock {code : List UInt8} (hx : Read v x code) : Mk Try.prog 23 #[x.val] v fun r J => ∃ y t, ∃ (m : MemD) (n : Int), ∃ J1 J2, r = .tuple #[.agg #[y.val, t.val], .int .i64 n] ∧ OwnI y m.words J1 ∧ OwnI t m.free J2 ∧ InI n ∧ (m.words.length : Int) ≤ 81 ∧ m.free.length ≤ 4 ∧ J = J1 ++ J2 := by
  refine of23 _ _ _ ?_
  unfold vc23
  refine Mk.use (c_DrawCellOf hx) (.refl v) ?_
  rintro _ w1 _ ⟨y, t, m, n, J1, J2, rfl, hO, hP, hn, hwl, hfl, rfl⟩ hS _
  exact ⟨_, _, _, rfl, J1 ++ J2, by simpa using hS, y, t, m, n, J1, J2, rfl, hO, hP, hn, hwl, hfl, rfl⟩

end
end Go.Vc

namespace Go.Vc
open Go Go.Proofs Go.RowKit
set_option linter.all false
section
variable {u v w : World} {x y xf xg z s t : Sl} {l ws ws' fs ad list free todo t1 t2 pend : List Int} {h g : List CellD} {m m' : MemD} {b n k f e q c tag i : Int} {N N' : Nat} {a : Addr} {I J K L R R1 F : Items} {F1 : Items → Items}

end
end Go.Vc

namespace Go.Vc
open Go Go.Proofs Go.RowKit
set_option linter.all false
section
variable {u v w : World} {x y xf xg z s t : Sl} {l ws ws' fs ad list free todo t1 t2 pend : List Int} {h g : List CellD} {m m' : MemD} {b n k f e q tag i : Int} {c : CellD} {N N' : Nat} {a : Addr} {I J K L R R1 F : Items} {F1 : Items → Items}

/-- a new cell of integers alone -/
theorem LZ.put (L : LZ h [] []) (h0 : 0 ≤ k) (h1 : k < h.length) (hz : (nth h k).count = 0) (c1 : c.count = 1) (cl : c.fields.length ≤ 3) (ct : 0 ≤ c.tag ∧ c.tag ≤ 99) (cf : ∀ f ∈ c.fields, -999 ≤ f ∧ f ≤ 999) : LZ (h.set k.toNat c) [] [] := by
  have hset : ∀ j : Int, 0 ≤ j → nth (h.set k.toNat c) j = if j = k then c else nth h j := fun j j0 => nth_set _ _ _ _ h0 h1 j0
  have hfree := L.free k h0 h1 hz (by simp)
  have hno : (1000 + k) ∉ words h := by
    intro hm
    obtain ⟨j, j0, j1, hj⟩ := mem_words.1 hm
    have hw := L.ptr _ (nth_mem j0 j1) _ hj
    obtain ⟨l1, l2, l3⟩ := live_iff.1 (word_ptr hw (by omega))
    rw [show 1000 + k - 1000 = k from by omega] at l3
    omega
  have hcf : ∀ j : Int, 0 ≤ j → cntF c.fields j = 0 := fun j j0 => cntF_zero fun hm => by have := cf _ hm; omega
  have hwd : ∀ i : Int, 0 ≤ i → cntF (words (h.set k.toNat c)) i = cntF (words h) i := fun i i0 => by
    have := words_set (c := c) (h := h) (k := k) h0 h1 i
    have e : cntF (nth h k).fields i = 0 := by rw [hfree]; simp [cntF, free0]
    rw [hcf i i0] at this; omega
  have hlv : ∀ g, word h g = true → word (h.set k.toNat c) g = true := by
    intro g hw
    rcases word_iff.1 hw with hi | hl
    · exact word_iff.2 (.inl hi)
    · obtain ⟨g1, g2, g3⟩ := live_iff.1 hl
      refine word_iff.2 (.inr (live_iff.2 ⟨g1, by simpa using g2, ?_⟩))
      rw [hset _ (by omega)]
      split
      · omega
      · exact g3
  refine ⟨fun p hp => (by cases hp), List.nodup_nil, fun d hd => ?_, fun j j0 j1 hj hn => ?_, fun d hd g hg => ?_, fun g hg => (by cases hg), fun j j0 j1 hj => ?_, ?_⟩
  · rcases List.mem_or_eq_of_mem_set hd with hd | hd
    · exact L.cell d hd
    · rw [hd]; exact ⟨by omega, by omega, cl, ct.1, ct.2⟩
  · rw [hset j j0] at hj ⊢
    simp only [List.length_set] at j1
    by_cases e : j = k
    · rw [if_pos e] at hj; omega
    · rw [if_neg e] at hj ⊢
      exact L.free j j0 j1 hj (by simp)
  · rcases List.mem_or_eq_of_mem_set hd with hd | hd
    · exact hlv g (L.ptr d hd g hg)
    · rw [hd] at hg; exact word_iff.2 (.inl (cf g hg))
  · simp only [List.length_set] at j1
    rw [hwd j j0]
    rw [hset j j0] at hj ⊢
    have e0 : cntF [] j = 0 := by simp [cntF]
    by_cases e : j = k
    · rw [if_pos e, e, cntF_zero hno]
      rw [e] at e0; omega
    · rw [if_neg e] at hj ⊢
      exact L.cnt j j0 j1 hj
  · obtain ⟨rk, hrk⟩ := L.acyc
    refine ⟨rk, fun j j0 j1 g hg h1000 => ?_⟩
    rw [hset j j0] at hg
    simp only [List.length_set] at j1
    split at hg
    · have := cf g hg; omega
    · exact hrk j j0 j1 g hg h1000

theorem sz_same (hb : nB ws N) (hb' : nB ws' N) (had : adr ws' N = adr ws N) (hl : ws'.length = ws.length) (ha : e ∈ adr ws N) : szA ws' e = szA ws e := by
  obtain ⟨i, hi, rfl⟩ := mem_adr.1 ha
  have hp : ∀ j, j < N → posA ws' j = posA ws j := fun j hj => by rw [← nth_adr hj, had, nth_adr hj]
  have hp2 : posA ws' (i + 1) = posA ws (i + 1) := by
    rcases Nat.lt_or_ge (i + 1) N with h1 | h1
    · exact hp _ h1
    · rw [show i + 1 = N from by omega, hb.2, hb'.2, hl]
  rw [posA_succ, posA_succ, hp i hi] at hp2
  omega

/-- a free block is used -/
theorem VM.put (V : VM m N) (hl : fs.length ≤ 3) (ht : 0 ≤ tag ∧ tag ≤ 99) (hi : ∀ f ∈ fs, -999 ≤ f ∧ f ≤ 999) (hp : 0 < nth m.free (fs.length : Int)) : vmem (allocM m tag fs) := by
  have S := vm_ms.1 V
  obtain ⟨N', E⟩ := V.new hl ht.1
  obtain ⟨rfl, had, U, hf⟩ := E.upd hp
  obtain ⟨f1, f2, f3⟩ := freeA_mem.1 hf
  obtain ⟨p0, p1, p2⟩ := idxI_mem f1
  have hF := alloc_fields (tag := tag) V hl ht.1
  have hmap : fs.map (mapW (adr m.words N')) = fs := by
    conv => rhs; rw [← List.map_id fs]
    refine List.map_congr_left fun f hf => ?_
    rw [mapW_int (by have := hi f hf; omega)]; rfl
  have hcell : cellA (allocM m tag fs).words (adr m.words N') (atM m fs.length) = ⟨1, tag, fs⟩ := by
    rw [cellA_live (by rw [E.one]; omega), E.one, E.head, hF, hmap]
    congr 1
    omega
  have hcells := U.cells f1
  rw [hcell] at hcells
  have hnth : nth (cellsL m.words (adr m.words N')) (idxI (adr m.words N') (atM m fs.length)) = cellA m.words (adr m.words N') (atM m fs.length) := by rw [nth_cellsL p0 p1, p2]
  have L := LZ.put (c := ⟨1, tag, fs⟩) S.lz p0 (by rw [cellsL_len]; exact p1) (by rw [hnth, cellA_count]; exact f2) rfl hl ht hi
  have hfree : (allocM m tag fs).free = m.free.set fs.length (nth m.words (atM m fs.length + 1) / 4) := if_pos hp
  refine ⟨N', vm_ms.2 ⟨E.nb, ?_, ?_, ?_, fun f hf => (by cases hf), fun k k0 k1 => ?_⟩⟩
  · rw [hfree, List.length_set]; exact S.four
  · rw [had]
    intro b hb f hf2
    by_cases e : b = atM m fs.length
    · rw [e] at hf2 ⊢
      rw [hF] at hf2
      have := hi f hf2
      exact ⟨fun h => by omega, fun h => by rw [E.one] at h; omega⟩
    · rw [U.fieldsA f1 hb e] at hf2
      rw [U.same0 f1 hb e]
      exact S.fields b hb f hf2
  · rw [had, hcells]; exact L
  · obtain ⟨l, l1, l2, l3⟩ := S.chains k k0 k1
    have h4 := S.four
    have hnf : nth (allocM m tag fs).free k = if k = fs.length then nth m.words (atM m fs.length + 1) / 4 else nth m.free k := by
      rw [hfree]
      have := nth_set m.free (fs.length : Int) k (nth m.words (atM m fs.length + 1) / 4) (by omega) (by omega) k0
      simpa using this
    have hszn : szA (allocM m tag fs).words (atM m fs.length) = fs.length := by unfold szA; rw [E.head]; omega
    have hmem : ∀ b, b ∈ freeA (allocM m tag fs).words (adr m.words N') k ↔ b ≠ atM m fs.length ∧ b ∈ freeA m.words (adr m.words N') k := fun b => by
      rw [freeA_mem, freeA_mem]
      constructor
      · rintro ⟨h1, h2, h3⟩
        have e : b ≠ atM m fs.length := fun e => by rw [e, E.one] at h2; omega
        rw [U.same0 f1 h1 e] at h2
        rw [U.sz f1 (by rw [hszn, f3]) h1] at h3
        exact ⟨e, h1, h2, h3⟩
      · rintro ⟨e, h1, h2, h3⟩
        exact ⟨h1, by rw [U.same0 f1 h1 e]; exact h2, by rw [U.sz f1 (by rw [hszn, f3]) h1]; exact h3⟩
    rw [had]
    by_cases e : k = fs.length
    · cases l with
      | nil => rw [e] at l1; have : nth m.free (fs.length : Int) = 0 := l1; omega
      | cons b r =>
        have hb1 : nth m.free k = b + 1 := l1.1
        have hat : atM m fs.length = b := by
          show (if 0 < nth m.free (fs.length : Int) then nth m.free (fs.length : Int) - 1 else _) = b
          rw [if_pos hp, ← e]; omega
        have hbr := (List.nodup_cons.1 l2).1
        refine ⟨r, ?_, (List.nodup_cons.1 l2).2, fun d => ?_⟩
        · rw [hnf, if_pos e, hat]
          refine Chain.congr (fun d hd => U.same1 f1 (freeA_mem.1 ((l3 d).1 (List.mem_cons_of_mem _ hd))).1 (fun e2 => hbr (by rw [← hat, ← e2]; exact hd))) l1.2
        · rw [hmem, ← l3 d, List.mem_cons, hat]
          constructor
          · intro hd
            exact ⟨fun e2 => hbr (e2 ▸ hd), .inr hd⟩
          · rintro ⟨h1, h2 | h2⟩
            · exact absurd h2 h1
            · exact h2
    · have hnl : atM m fs.length ∉ l := fun hm => by
        have := (freeA_mem.1 ((l3 _).1 hm)).2.2
        omega
      refine ⟨l, ?_, l2, fun d => ?_⟩
      · rw [hnf, if_neg e]
        exact Chain.congr (fun d hd => U.same1 f1 (freeA_mem.1 ((l3 d).1 hd)).1 (fun e2 => hnl (e2 ▸ hd))) l1
      · rw [hmem, l3 d]
        exact ⟨fun hd => ⟨fun e2 => hnl ((l3 _).2 (e2 ▸ hd)), hd⟩, fun hd => hd.2⟩

/-- the block that a drop frees can be used -/
theorem VM.again (V : VM m N) (hd : dbOk m n) (hp : 1000 ≤ n) (hc : cofR (dbM m n) n < 0) (hk : fs.length = (szA m.words (n - 1000)).toNat) (ht : 0 ≤ tag ∧ tag ≤ 99) (hi : ∀ f ∈ fs, -999 ≤ f ∧ f ≤ 999) :
    abOk (dbM m n) tag fs ∧ (allocM (dbM m n) tag fs).words.length = m.words.length := by
  have D := V.dropped hd
  have hb := wd_blk hd.2.1 hp
  rw [adrs_eq V.blocks] at hb
  obtain ⟨b1, b2, b3⟩ := blkB_iff.1 hb
  have W : VM (dbM m n) N := vm_ms.2 D.ms
  have hs := sz_same V.blocks D.ms.blocks D.adr_ D.len b2
  have hsb := szA_b m.words (n - 1000)
  have hmem : n - 1000 ∈ adr (dbM m n).words N := by rw [D.adr_]; exact b2
  have h0 : nth (dbM m n).words (n - 1000) = 0 := by
    have h1 := (W.blocks.ok hmem).2.1
    by_cases h2 : 0 < nth (dbM m n).words (n - 1000)
    · have hb2 : blkB (dbM m n).words (adr (dbM m n).words N) n = true := blkB_iff.2 ⟨hp, hmem, h2⟩
      rw [cofR_t W hb2] at hc
      have := (idxI_mem hmem).1
      omega
    · omega
  have hl : (fs.length : Int) = szA m.words (n - 1000) := by omega
  have hfa : n - 1000 ∈ freeA (dbM m n).words (adr (dbM m n).words N) (fs.length : Int) := freeA_mem.2 ⟨hmem, h0, by rw [hs, hl]⟩
  have hpos : 0 < nth (dbM m n).free (fs.length : Int) := by
    obtain ⟨l, l1, l2, l3⟩ := D.ms.chains (fs.length : Int) (by omega) (by omega)
    have hm := (l3 _).2 hfa
    cases l with
    | nil => cases hm
    | cons d r =>
      have h1 := l1.1
      have h2 := adr_nn (freeA_mem.1 ((l3 d).1 List.mem_cons_self)).1
      omega
  refine ⟨⟨⟨N, W⟩, ht.1, ht.2, by omega, fun f hf => .inl (hi f hf), W.put (by omega) ht hi hpos⟩, ?_⟩
  obtain ⟨q0, q1, q2, q3⟩ := W.at_ (n := fs.length) (by omega)
  have h1 : (allocM (dbM m n) tag fs).words.length = (baseM (dbM m n) fs.length).length := fillL_len q0 q1
  have h2 : baseM (dbM m n) fs.length = (dbM m n).words := if_pos hpos
  rw [h1, h2, D.len]

theorem l_DropBlockRoom : LawTrue Try.prog 6 := by
  intro v x0 bs hb
  refine of6 _ _ _ ?_
  unfold vc6
  refine ⟨fun hc => ⟨rfl, .refl v⟩, fun hc => ?_⟩
  simp only [decide_eq_true_eq, decide_eq_false_iff_not, Bool.and_eq_true, Bool.and_eq_false_iff, Bool.or_eq_true, Bool.or_eq_false_iff, Bool.not_eq_true', Bool.not_eq_false', Bool.not_true, Bool.not_false, Bool.false_eq_true, Bool.true_eq_false, Int.not_lt, Int.not_le, ge_iff_le, gt_iff_lt, Bool.not_eq_eq_eq_not, Bool.true_or, Bool.or_true, Bool.false_or, Bool.or_false, Bool.true_and, Bool.and_true, false_or, or_false, true_and, and_true, Decidable.not_not] at hc
  have hcode := hb.read (by omega)
  refine Mk.use (c_DrawDropBlock hcode) (.refl v) ?_
  rintro _ w1 _ ⟨x, y, m, n, J1, J2, rfl, hO, hP, hn, hwl, hfl, rfl⟩ hS hsub
  replace hS : St v w1 (J1 ++ (J2 ++ [])) := hS.perm (by simp)
  refine ⟨_, _, _, rfl, ?_⟩
  refine Mk.usew (c_implDropBlock (hO.read hS) (hP.read hS) hn) hS ?_
  rintro _ w2 _ ⟨x2, y2, J4, J5, rfl, hO2, hP2, rfl⟩ hS _
  replace hS : St v w2 (J4 ++ (J5 ++ (J1 ++ (J2 ++ [])))) := hS.perm (by simp)
  refine ⟨_, _, _, rfl, ?_⟩
  refine Mk.usew (c_specDropBlock (hO.read hS) (hP.read hS) hn) hS ?_
  rintro _ w3 _ ⟨x3, y3, J6, J7, rfl, hO3, hP3, rfl⟩ hS _
  replace hS : St v w3 (J6 ++ (J7 ++ (J4 ++ (J5 ++ (J1 ++ (J2 ++ [])))))) := hS.perm (by simp)
  have he := c_equalMemory (hO2.read hS) (hP2.read hS) (hO3.read hS) (hP3.read hS)
  refine ⟨_, _, _, rfl, _, he, fun hc => ?_, fun hc => ⟨_, he, by rw [eqMB_refl]; simp, hS.sub⟩⟩
  rw [eqMB_refl] at hc
  simp at hc
  obtain ⟨hdb, hp⟩ := hc
  have hd := dbB_iff.1 hdb
  rw [dbR_t hd] at hO2 hP2
  rw [dbR_t hd] at he
  rw [dbR_t hd] at hO3 hP3
  obtain ⟨N, V⟩ := hd.1
  have D := V.dropped hd
  refine Fn.use (c_implCellOf (hO2.read hS) (hP2.read hS) hn) hS ?_
  intro w4 hS _
  refine ⟨_, rfl, fun hq => ⟨_, c_equalMemory (hO2.read hS) (hP2.read hS) (hO3.read hS) (hP3.read hS), by rw [eqMB_refl]; simp, hS.sub⟩, fun hq => ?_⟩
  simp only [decide_eq_true_eq, decide_eq_false_iff_not, Bool.and_eq_true, Bool.and_eq_false_iff, Bool.or_eq_true, Bool.or_eq_false_iff, Bool.not_eq_true', Bool.not_eq_false', Bool.not_true, Bool.not_false, Bool.false_eq_true, Bool.true_eq_false, Int.not_lt, Int.not_le, ge_iff_le, gt_iff_lt, Bool.not_eq_eq_eq_not, Bool.true_or, Bool.or_true, Bool.false_or, Bool.or_false, Bool.true_and, Bool.and_true, false_or, or_false, true_and, and_true, Decidable.not_not] at hq
  refine Mk.usew (c_implHeapOf (hO.read hS) (hP.read hS)) hS ?_
  rintro _ w5 J10 ⟨z5, rfl, hZ5⟩ hS _
  rw [hoR_t hd.1] at hZ5
  refine ⟨_, _, rfl, ?_⟩
  refine Fn.use (c_implCellOf (hO.read hS) (hP.read hS) hn) hS ?_
  intro w6 hS _
  have hb2 := wd_blk hd.2.1 hp
  rw [adrs_eq V.blocks] at hb2
  obtain ⟨p0, p1, p2⟩ := V.idx_lt hb2
  obtain ⟨b1, b2, b3⟩ := blkB_iff.1 hb2
  have hsb := szA_b m.words (n - 1000)
  refine ⟨_, rfl, ?_⟩
  rw [cofR_t V hb2]
  have hzn := hZ5.n
  have hzr := hZ5.read hS
  have hzs := hZ5.src hS
  have hxn := (hO v).n
  refine ⟨fun hq => ?_, fun _ => ?_⟩
  · exfalso
    rw [vmemB_iff.2 hd.1, decide_eq_false (show ¬ idxI (adr m.words N) (n - 1000) < 0 by omega), decide_eq_false (show ¬ idxI (adr m.words N) (n - 1000) ≥ (z5.n : Int) by omega)] at hq
    cases hq
  refine go_ix hzr p0 p1 ?_
  refine ld_fields hzs p0 p1 ?_
  intro f hf
  have hfn := hf.n
  have hfl2 : ((nth (heapM m) (idxI (adr m.words N) (n - 1000))).fields.length : Int) = szA m.words (n - 1000) := by
    rw [p2, cellA_live (by omega), List.length_map, fieldsA_len]
  have hk3 : f.n ≤ 3 := by omega
  obtain ⟨kk, hkk⟩ : ∃ kk : Nat, f.n = kk := ⟨_, rfl⟩
  obtain ⟨g1, g2⟩ := V.again (fs := List.replicate kk 0) (tag := 5) hd hp (by omega) (by simp; omega) ⟨by omega, by omega⟩ (fun f hf => by rw [List.eq_of_mem_replicate hf]; omega)
  obtain ⟨W0, W⟩ := g1.1
  obtain ⟨q0, _, _, _⟩ := W.at_ (n := (List.replicate kk (0 : Int)).length) (by simp; omega)
  rw [hkk]
  refine ⟨?_, .refl _, ?_⟩
  · refine St.makeInts hS (by omega) (by omega) (by decide) ?_
    intro xz w7 J11 hF hS hs
    rw [show ((kk : Nat) : Int).toNat = kk from rfl] at hF
    refine ⟨_, rfl, hs, ⟨?_, .refl _, ?_⟩⟩
    · (refine Mk.usew (c_implAllocBlock (hO2.read hS) (hP2.read hS) (Own.read hF hS) ⟨by omega, by omega⟩ (by rw [D.len]; omega)) hS ?_; rintro _ w8 _ ⟨x8, y8, J8, J9, rfl, hO8, hP8, rfl⟩ hS _)
      refine ⟨_, _, _, rfl, .refl _, ?_, hS.sub⟩
      (have hx8 := (hO8 v).n; rw [abR_t g1, g2] at hx8)
      (rw [abN_t g1, decide_eq_true (show 1000 + atM (dbM m n) (List.replicate kk (0 : Int)).length > 0 by omega), decide_eq_true (show (x8.n : Int) = (x.n : Int) by omega)]; rfl)
    · (refine Mk.usew (c_implAllocBlock (hO2.read hS) (hP2.read hS) (Own.read hF hS) ⟨by omega, by omega⟩ (by rw [D.len]; omega)) hS ?_; rintro _ w8 _ ⟨x8, y8, J8, J9, rfl, hO8, hP8, rfl⟩ hS _)
      refine ⟨_, _, _, rfl, ?_, hS.sub⟩
      (have hx8 := (hO8 v).n; rw [abR_t g1, g2] at hx8)
      (rw [abN_t g1, decide_eq_true (show 1000 + atM (dbM m n) (List.replicate kk (0 : Int)).length > 0 by omega), decide_eq_true (show (x8.n : Int) = (x.n : Int) by omega)]; rfl)
  · refine St.makeInts hS (by omega) (by omega) (by decide) ?_
    intro xz w7 J11 hF hS hs
    rw [show ((kk : Nat) : Int).toNat = kk from rfl] at hF
    refine ⟨_, rfl, hs, ?_⟩
    (refine Mk.usew (c_implAllocBlock (hO2.read hS) (hP2.read hS) (Own.read hF hS) ⟨by omega, by omega⟩ (by rw [D.len]; omega)) hS ?_; rintro _ w8 _ ⟨x8, y8, J8, J9, rfl, hO8, hP8, rfl⟩ hS _)
    refine ⟨_, _, _, rfl, ?_, hS.sub⟩
    (have hx8 := (hO8 v).n; rw [abR_t g1, g2] at hx8)
    (rw [abN_t g1, decide_eq_true (show 1000 + atM (dbM m n) (List.replicate kk (0 : Int)).length > 0 by omega), decide_eq_true (show (x8.n : Int) = (x.n : Int) by omega)]; rfl)
end
end Go.Vc
