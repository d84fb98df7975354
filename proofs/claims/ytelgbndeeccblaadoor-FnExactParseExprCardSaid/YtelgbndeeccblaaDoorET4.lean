/- Part of the proofs about the heaps and memories: a law is joined in the text whose name ends in W and the law. -/
import Derived.Shelf.LaysM
import Derived.Shelf.Strconv.Itoa3
import Derived.Test.YtelgbndeeccblaaDoorProg
import Derived.Test.YtelgbndeeccblaaDoorET2
namespace Go.Proofs
open Go.Shelf
def Tryd.laysM171_ren : Go.Shelf.Ren := ⟨fun | 171 => 39 | 243 => 57 | 246 => 69 | 283 => 87 | 284 => 88 | 285 => 89 | 286 => 90 | 129 => 108 | 317 => 107 | 318 => 109 | 319 => 110 | 320 => 111 | 337 => 121 | 338 => 122 | n => n, fun | 3 => 3 | 9 => 9 | 2 => 2 | 4 => 4 | 171 => 124 | 0 => 0 | 53 => 125 | 37 => 37 | 5 => 5 | 173 => 128 | 212 => 153 | 51 => 154 | 20 => 20 | 213 => 155 | 46 => 132 | 232 => 172 | 233 => 173 | n => n, fun | 17 => 2 | 18 => 4 | 19 => 5 | n => n⟩
theorem Tryd.laysM171 : Go.Proofs.LaysM.n171 Tryd.prog Tryd.laysM171_ren := {
 mixed := by kernel_rfl
 f129 := Tryd.func108.trans (congrArg some (by kernel_rfl))
 f171 := Tryd.func39.trans (congrArg some (by kernel_rfl))
 f243 := Tryd.func57.trans (congrArg some (by kernel_rfl))
 f246 := Tryd.func69.trans (congrArg some (by kernel_rfl))
 f283 := Tryd.func87.trans (congrArg some (by kernel_rfl))
 f284 := Tryd.func88.trans (congrArg some (by kernel_rfl))
 f285 := Tryd.func89.trans (congrArg some (by kernel_rfl))
 f286 := Tryd.func90.trans (congrArg some (by kernel_rfl))
 f317 := Tryd.func107.trans (congrArg some (by kernel_rfl))
 f318 := Tryd.func109.trans (congrArg some (by kernel_rfl))
 f319 := Tryd.func110.trans (congrArg some (by kernel_rfl))
 f320 := Tryd.func111.trans (congrArg some (by kernel_rfl))
 f337 := Tryd.func121.trans (congrArg some (by kernel_rfl))
 f338 := Tryd.func122.trans (congrArg some (by kernel_rfl))
 t0 := Tryd.underlying0
 a0 := Tryd.isAgg0
 z0 := Tryd.sizeOf0
 v0 := Tryd.zeroValue0
 t2 := Tryd.underlying2
 a2 := Tryd.isAgg2
 z2 := Tryd.sizeOf2
 v2 := Tryd.zeroValue2
 t3 := Tryd.underlying3
 a3 := Tryd.isAgg3
 z3 := Tryd.sizeOf3
 v3 := Tryd.zeroValue3
 t4 := Tryd.underlying4
 a4 := Tryd.isAgg4
 z4 := Tryd.sizeOf4
 v4 := Tryd.zeroValue4
 t5 := Tryd.underlying5
 a5 := Tryd.isAgg5
 z5 := Tryd.sizeOf5
 v5 := Tryd.zeroValue5
 t9 := Tryd.underlying9
 a9 := Tryd.isAgg9
 z9 := Tryd.sizeOf9
 v9 := Tryd.zeroValue9
 t20 := Tryd.underlying20
 a20 := Tryd.isAgg20
 z20 := Tryd.sizeOf20
 v20 := Tryd.zeroValue20
 t37 := Tryd.underlying37
 a37 := Tryd.isAgg37
 z37 := Tryd.sizeOf37
 v37 := Tryd.zeroValue37
 t46 := Tryd.underlying132
 a46 := Tryd.isAgg132
 z46 := Tryd.sizeOf132
 v46 := Tryd.zeroValue132
 t51 := Tryd.underlying154
 a51 := Tryd.isAgg154
 z51 := Tryd.sizeOf154
 v51 := Tryd.zeroValue154
 t53 := Tryd.underlying125
 a53 := Tryd.isAgg125
 z53 := Tryd.sizeOf125
 v53 := Tryd.zeroValue125
 t171 := Tryd.underlying124
 a171 := Tryd.isAgg124
 z171 := Tryd.sizeOf124
 v171 := Tryd.zeroValue124
 t173 := Tryd.underlying128
 a173 := Tryd.isAgg128
 z173 := Tryd.sizeOf128
 v173 := Tryd.zeroValue128
 t212 := Tryd.underlying153
 a212 := Tryd.isAgg153
 z212 := Tryd.sizeOf153
 v212 := Tryd.zeroValue153
 t213 := Tryd.underlying155
 a213 := Tryd.isAgg155
 z213 := Tryd.sizeOf155
 t232 := Tryd.underlying172
 a232 := Tryd.isAgg172
 z232 := Tryd.sizeOf172
 v232 := Tryd.zeroValue172
 t233 := Tryd.underlying173
 a233 := Tryd.isAgg173
 z233 := Tryd.sizeOf173
 v233 := Tryd.zeroValue173
 g17 := by kernel_rfl
 g18 := by kernel_rfl
 g19 := by kernel_rfl
 i0 := by kernel_rfl
 i2 := by kernel_rfl
 i3 := by kernel_rfl
 i4 := by kernel_rfl
 i5 := by kernel_rfl
 i9 := by kernel_rfl
 i20 := by kernel_rfl
 i37 := by kernel_rfl
 i46 := by kernel_rfl
 i51 := by kernel_rfl
 i53 := by kernel_rfl
 i171 := by kernel_rfl
 i173 := by kernel_rfl
 i212 := by kernel_rfl
 i232 := by kernel_rfl
 i233 := by kernel_rfl
 m17 := by kernel_rfl
 m18 := by kernel_rfl
 m19 := by kernel_rfl }
open Go.RowKit Go.Sort Go.Lib in
theorem Tryd.strconv_Itoa (n : Int) (h0 : -9223372036854775808 ≤ n) (h1 : n ≤ 9223372036854775807) (w : World) (htab : Lib.TabIs Tryd.prog w "internal/strconv.uint64pow10" .u64 Lib.pow10Tab) :
  Calls Tryd.prog 39 #[.int .i64 n] w fun e w' => e = .returned (.string ⟨(Lib.itoa n).toArray⟩) ∧ ∃ k os, w' = grow (w.drewN k) os := Any.strconv_Itoa Tryd.laysM171 n h0 h1 w htab
end Go.Proofs

namespace Go.Vc
open Go Go.Proofs Go.RowKit Go.Sort
set_option linter.all false
/-- the table of powers that numerals are made by lies in memory -/
def Tab (v : World) : Prop := Lib.TabIs Tryd.prog v "internal/strconv.uint64pow10" .u64 Lib.pow10Tab
theorem Tab.mono {v w : World} (h : Tab v) (hs : Sub v w) : Tab w := by
 unfold Tab Lib.TabIs World.var? at *
 cases hg : Tryd.prog.globalNamed "internal/strconv.uint64pow10" with
 | none => rw [hg] at h; cases h
 | some g =>
  rw [hg] at h
  simp only [Option.bind_some] at h ⊢
  cases ho : v.heap[g]? with
  | none => rw [ho] at h; cases h
  | some o =>
   have hne : o ≠ absent := by
    rintro rfl
    rw [ho] at h
    cases h
   rw [hs.at_ g o ho hne]
   rw [ho] at h
   exact h
theorem fr_grown {v W : World} {k : Nat} {os : Array Obj} (hs : Sub v W) : Fr v W v (grow (W.drewN k) os) := by
 have hb : Below W.heap.size W (grow (W.drewN k) os) := ⟨rfl, rfl, rfl, by show W.heap.size ≤ (W.heap ++ os).size; rw [Array.size_append]; omega, fun _ hj => heap_grow_old (W.drewN k) os hj⟩
 refine ⟨⟨Nat.le_trans hs.size hb.size, fun b o ho hne => ?_⟩, hb.size, hb.os, hb.tape, hb.output, fun b hlt hO => ⟨hO, hb.block b hlt⟩⟩
 have h1 := hs.at_ b o ho hne
 rw [hb.block b (getElem?_lt h1)]
 exact h1
theorem c_Itoa {v : World} {n : Int} (hT : Tab v) (hn : InI n) : Fn Tryd.prog 39 #[.int .i64 n] v (.string (str (Lib.itoa n))) := by
 refine ⟨fun w => callFunc_enter Tryd.func39 (by kernel_rfl) rfl _ _, fun W hs => ?_⟩
 refine (Tryd.strconv_Itoa n hn.1 hn.2 W (hT.mono hs)).mono ?_
 rintro e W' ⟨rfl, k, os, rfl⟩
 exact ⟨_, v, rfl, fr_grown hs, rfl, .refl v⟩
theorem showL_len {l : List ExprD} (h : canL l = true) : (showL l).length ≤ 13 * nodesL l := by
 induction l with
 | nil => rw [showL_nil]; simp
 | cons a r ih =>
  rw [canL_cons, Bool.and_eq_true] at h
  have h1 := show_len a h.1
  have h2 := ih h.2
  rw [showL_cons, nodesL_cons]
  simp only [List.length_cons, List.length_append]
  omega
theorem nodesL_take (l : List ExprD) (i : Nat) : nodesL l = nodesL (l.take i) + nodesL (l.drop i) := by rw [← nodesL_app, List.take_append_drop]
theorem str_data (l : List UInt8) : (str l).data.toList = l := by simp [str]
/-- the end of a text: all kids, and a parenthesis -/
def WrP (e : ExprD) : Prop := ∀ (u w : World) (f : Sl) (b : Nat) (l : List UInt8) (I R : Items), Tab u → Read u f e.kids → InI e.num → BldT b l I → St u w (I ++ R) → l.length + 40 * nodesE e ≤ 1000000 →
 Trip Tryd.prog 23 #[.pointer (some ((⟨b, 0, none⟩ : Addr).add 0)), .agg #[.int .i64 e.op, .int .i64 e.num, f.val]] w fun r w' => ∃ I' m, r = .bool (canE e) ∧ BldT b (l ++ m) I' ∧ St u w' (I' ++ R) ∧ m.length ≤ 40 * nodesE e ∧ (canE e = true → m = showE e)
theorem c_writeExpr (e : ExprD) : WrP e := by
 refine ex_ind (P := WrP) (fun e ih => ?_) e
 intro u w f b l I R hT hf hin hB hS hlen
 refine of23 _ _ _ _ _ _ ?_
 unfold vc23
 have hn := hf.n
 have hl := hf.le
 have hnl := itoa_len hin
 rw [nodesE_eq] at hlen ⊢
 have hk0 : e.kids.length = 0 → canL e.kids = true := fun h => by rw [List.eq_nil_of_length_eq_zero h, canL_nil]
 refine ⟨fun hc => ?_, fun hc => ⟨fun hd => ?_, fun hd => ?_⟩⟩
 ·simp only [bls] at hc
  refine ⟨_, c_Itoa (hT.mono hS.sub) hin, ?_⟩
  refine (c_WriteString hB hS (by rw [str_size]; omega)).mono' ?_
  rintro _ w1 ⟨rfl, I1, hB1, hS1⟩
  rw [str_data] at hB1
  refine ⟨_, ⟨.nilIface, rfl⟩, rfl, _, fun _ => c_isIntI, I1, _, ?_, hB1, hS1, by omega, fun _ => ?_⟩
  ·congr 1
   rw [canE_eq, Bool.eq_iff_iff]
   simp only [Bool.and_eq_true, okN_iff, decide_eq_true_eq]
   constructor
   ·rintro ⟨h1, h2, h3⟩
    exact ⟨by omega, hk0 (by omega)⟩
   ·rintro ⟨h1, _⟩
    omega
  ·rw [showE_eq, if_pos hc]
 ·simp only [bls] at hc hd
  refine ⟨_, c_Itoa (hT.mono hS.sub) hin, ?_, ?_⟩
  ·rw [str_size]
   show ((1 + _ : Nat) : Int) ≤ _
   omega
  refine (c_WriteString hB hS (by rw [ByteArray.size_append, str_size]; show _ + (1 + _) ≤ _; omega)).mono' ?_
  rintro _ w1 ⟨rfl, I1, hB1, hS1⟩
  rw [str_eq (l := [118]) rfl, ← str_app, str_data] at hB1
  refine ⟨_, ⟨.nilIface, rfl⟩, rfl, I1, _, ?_, hB1, hS1, by simp only [List.length_append, List.length_cons, List.length_nil]; omega, fun _ => ?_⟩
  ·congr 1
   rw [canE_eq, Bool.eq_iff_iff]
   simp only [Bool.and_eq_true, okN_iff, decide_eq_true_eq]
   constructor
   ·rintro ⟨h1, h2, h3⟩
    exact ⟨by omega, hk0 (by omega)⟩
   ·rintro ⟨h1, _⟩
    omega
  ·rw [showE_eq, if_neg hc, if_pos hd]
   rfl
 ·simp only [bls] at hc hd
  have hw := word_len e.op
  refine ⟨_, _, c_exprWords, ?_, ?_⟩
  ·rw [str_size]
   show ((1 + _ : Nat) : Int) ≤ _
   omega
  refine (c_WriteString hB hS (by rw [ByteArray.size_append, str_size]; show _ + (1 + _) ≤ _; omega)).mono' ?_
  rintro _ w1 ⟨rfl, I1, hB1, hS1⟩
  rw [str_eq (l := [40]) rfl, ← str_app, str_data] at hB1
  have hemp : ((str (wordE e.op)).toList == (ByteArray.mk #[]).toList) = decide (wordE e.op = []) := by
   rw [ByteArray.toList_eq, ByteArray.toList_eq, str_data]
   show (wordE e.op == []) = _
   cases wordE e.op <;> rfl
  rw [hemp]
  have hwe : wordE e.op = [] ↔ ¬(1 ≤ e.op ∧ e.op ≤ 13 ∧ e.op ≠ 12) := by
   constructor
   ·intro h hh
    rcases op14 (op := e.op) (by omega) (by omega) with h1 | h1 | h1 | h1 | h1 | h1 | h1 | h1 | h1 | h1 | h1 | h1 | h1 | h1 <;> first | omega | (rw [h1] at h; cases h)
   ·intro h
    unfold wordE
    rw [if_neg (by omega), if_neg (by omega), if_neg (by omega), if_neg (by omega), if_neg (by omega), if_neg (by omega), if_neg (by omega), if_neg (by omega), if_neg (by omega), if_neg (by omega), if_neg (by omega), if_neg (by omega)]
  refine ⟨_, ⟨.nilIface, rfl⟩, rfl, fun hq => ?_, fun hq => ?_⟩
  ·have hok : okN e.op e.num e.kids.length = false := by
    simp only [bls, hwe, numE_iff, numE_f] at hq
    rw [okN_f]
    omega
   have hcf : canE e = false := by rw [canE_eq, hok, Bool.false_and]
   exact ⟨I1, _, by rw [hcf], hB1, hS1, by simp only [List.length_append, List.length_cons, List.length_nil]; omega, fun hcan => by rw [hcf] at hcan; cases hcan⟩
  have hok : okN e.op e.num e.kids.length = true := by
   simp only [bls, hwe, numE_iff, numE_f] at hq
   rw [okN_iff]
   omega
  have hce : canE e = canL e.kids := by rw [canE_eq, hok, Bool.true_and]
  have hsh : ∀ P0 : List UInt8, P0 = 40 :: (wordE e.op ++ (if numE e.op then Lib.itoa e.num else [])) → showE e = P0 ++ showL e.kids ++ [41] := by
   rintro _ rfl
   rw [showE_eq, if_neg hc, if_neg hd]
   simp
  -- the loop over the kids, with what has been written ahead of it
  have loop : ∀ (P0 : List UInt8) (w2 : World) (I2 : Items), P0 = 40 :: (wordE e.op ++ (if numE e.op then Lib.itoa e.num else [])) → BldT b (l ++ P0) I2 → St u w2 (I2 ++ R) → P0.length ≤ 26 →
    ∃ I, BldT b (l ++ (P0 ++ showL (e.kids.take (Int.toNat 0)))) I ∧ St u w2 (I ++ R) ∧ (0 : Int) ≤ 0 ∧ (0 : Int) ≤ e.kids.length ∧ canL (e.kids.take (Int.toNat 0)) = true := by
   intro P0 w2 I2 h0 hB2 hS2 _
   exact ⟨I2, by simpa [showL_nil] using hB2, hS2, by omega, by omega, by simp [canL_nil]⟩
  refine ⟨fun hnum => ?_, fun hnum => ?_⟩
  ·refine ⟨_, c_Itoa (hT.mono hS1.sub) hin, ?_⟩
   refine (c_WriteString hB1 hS1 (by rw [str_size]; simp only [List.length_append, List.length_cons, List.length_nil]; omega)).mono' ?_
   rintro _ w2 ⟨rfl, I2, hB2, hS2⟩
   rw [str_data, List.append_assoc] at hB2
   refine ⟨_, ⟨.nilIface, rfl⟩, rfl, ?_⟩
   have hP : ([40] ++ wordE e.op ++ Lib.itoa e.num) = 40 :: (wordE e.op ++ (if numE e.op then Lib.itoa e.num else [])) := by rw [if_pos hnum]; rfl
   have hPl : ([40] ++ wordE e.op ++ Lib.itoa e.num).length ≤ 26 := by simp only [List.length_append, List.length_cons, List.length_nil]; omega
   have hsh := hsh _ hP
   have hI := loop _ w2 I2 hP hB2 hS2 hPl
   clear loop hB1 hB2 hS1 hS2
   generalize hPe : ([40] ++ wordE e.op ++ Lib.itoa e.num) = P0 at hI hsh hPl
   refine ⟨fun i w => ∃ I, BldT b (l ++ (P0 ++ showL (e.kids.take i.toNat))) I ∧ St u w (I ++ R) ∧ 0 ≤ i ∧ i ≤ e.kids.length ∧ canL (e.kids.take i.toNat) = true, fun i _ => (e.kids.length - i).toNat, hI, ?_⟩
   clear hI
   rintro i w3 ⟨I3, hB3, hS3, i0, i1, hcl⟩
   dsimp only
   have hsl := showL_len hcl
   have hnt := nodesL_take e.kids i.toNat
   refine ⟨fun hi => ?_, fun hi => ?_⟩
   ·simp only [bls] at hi
    have hil : i < e.kids.length := by omega
    have hm := nth_mem (l := e.kids) i0 hil
    obtain ⟨g, e1, e2, e3, j1, j2, rg⟩ := (hf.src hS3.sub).ofExprD i0 hil
    refine go_ix hf i0 hil ?_
    refine ⟨_, _, g, ⟨e1, e2, e3⟩, ?_⟩
    rw [nodesL_drop i0 hil] at hnt
    refine (c_WriteString (s := ByteArray.mk #[32]) hB3 hS3 (by show _ + 1 ≤ _; simp only [List.length_append]; omega)).mono' ?_
    rintro _ w4 ⟨rfl, I4, hB4, hS4⟩
    refine ⟨_, ⟨.nilIface, rfl⟩, rfl, ?_⟩
    refine (ih _ hm u w4 g b _ I4 R hT rg j2 hB4 hS4 (by simp only [List.length_append, List.length_cons, List.length_nil]; omega)).mono' ?_
    rintro _ w5 ⟨I5, mk, rfl, hB5, hS5, hm5, hm6⟩
    refine ⟨_, rfl, fun hq => ?_, fun hq => ?_⟩
    ·simp only [bls] at hq
     have hcf : canE e = false := by
      rw [hce]
      cases hh : canL e.kids
      ·rfl
      ·rw [canL_mem hh _ hm] at hq; cases hq
     refine ⟨I5, P0 ++ showL (e.kids.take i.toNat) ++ [32] ++ mk, by rw [hcf], by simpa [List.append_assoc] using hB5, hS5, by simp only [List.length_append, List.length_cons, List.length_nil]; omega, fun hh => by rw [hcf] at hh; cases hh⟩
    ·simp only [bls] at hq
     have hmk := hm6 hq
     refine go_wr (by omega) (by omega) ?_
     refine ⟨rfl, rfl, rfl, ⟨I5, ?_, hS5, by omega, by omega, ?_⟩, by omega⟩
     ·rw [take_nth i0 hil, showL_app, showL_cons, showL_nil, ← hmk]
      simpa [List.append_assoc] using hB5
     ·rw [take_nth i0 hil, canL_app, hcl, canL_cons, canL_nil, hq]
      rfl
   ·simp only [bls] at hi
    rw [take_all (by omega)] at hB3 hcl hsl
    refine (c_WriteString (s := ByteArray.mk #[41]) hB3 hS3 (by show _ + 1 ≤ _; simp only [List.length_append]; omega)).mono' ?_
    rintro _ w4 ⟨rfl, I4, hB4, hS4⟩
    refine ⟨_, ⟨.nilIface, rfl⟩, rfl, I4, P0 ++ showL e.kids ++ [41], ?_, by simpa [List.append_assoc] using hB4, hS4, by simp only [List.length_append, List.length_cons, List.length_nil]; omega, fun _ => hsh.symm⟩
    rw [hce, hcl]
  ·refine ⟨fun i w => ∃ I, BldT b (l ++ (([40] ++ wordE e.op) ++ showL (e.kids.take i.toNat))) I ∧ St u w (I ++ R) ∧ 0 ≤ i ∧ i ≤ e.kids.length ∧ canL (e.kids.take i.toNat) = true, fun i _ => (e.kids.length - i).toNat, loop ([40] ++ wordE e.op) w1 I1 (by rw [if_neg (by rw [hnum]; simp)]; simp) hB1 hS1 (by simp only [List.length_append, List.length_cons, List.length_nil]; omega), ?_⟩
   have hP : ([40] ++ wordE e.op) = 40 :: (wordE e.op ++ (if numE e.op then Lib.itoa e.num else [])) := by rw [if_neg (by rw [hnum]; simp)]; simp
   have hPl : ([40] ++ wordE e.op).length ≤ 26 := by simp only [List.length_append, List.length_cons, List.length_nil]; omega
   have hsh := hsh _ hP
   clear loop hB1 hS1
   generalize hPe : ([40] ++ wordE e.op) = P0 at hsh hPl ⊢
   rintro i w3 ⟨I3, hB3, hS3, i0, i1, hcl⟩
   dsimp only
   have hsl := showL_len hcl
   have hnt := nodesL_take e.kids i.toNat
   refine ⟨fun hi => ?_, fun hi => ?_⟩
   ·simp only [bls] at hi
    have hil : i < e.kids.length := by omega
    have hm := nth_mem (l := e.kids) i0 hil
    obtain ⟨g, e1, e2, e3, j1, j2, rg⟩ := (hf.src hS3.sub).ofExprD i0 hil
    refine go_ix hf i0 hil ?_
    refine ⟨_, _, g, ⟨e1, e2, e3⟩, ?_⟩
    rw [nodesL_drop i0 hil] at hnt
    refine (c_WriteString (s := ByteArray.mk #[32]) hB3 hS3 (by show _ + 1 ≤ _; simp only [List.length_append]; omega)).mono' ?_
    rintro _ w4 ⟨rfl, I4, hB4, hS4⟩
    refine ⟨_, ⟨.nilIface, rfl⟩, rfl, ?_⟩
    refine (ih _ hm u w4 g b _ I4 R hT rg j2 hB4 hS4 (by simp only [List.length_append, List.length_cons, List.length_nil]; omega)).mono' ?_
    rintro _ w5 ⟨I5, mk, rfl, hB5, hS5, hm5, hm6⟩
    refine ⟨_, rfl, fun hq => ?_, fun hq => ?_⟩
    ·simp only [bls] at hq
     have hcf : canE e = false := by
      rw [hce]
      cases hh : canL e.kids
      ·rfl
      ·rw [canL_mem hh _ hm] at hq; cases hq
     refine ⟨I5, P0 ++ showL (e.kids.take i.toNat) ++ [32] ++ mk, by rw [hcf], by simpa [List.append_assoc] using hB5, hS5, by simp only [List.length_append, List.length_cons, List.length_nil]; omega, fun hh => by rw [hcf] at hh; cases hh⟩
    ·simp only [bls] at hq
     have hmk := hm6 hq
     refine go_wr (by omega) (by omega) ?_
     refine ⟨rfl, rfl, rfl, ⟨I5, ?_, hS5, by omega, by omega, ?_⟩, by omega⟩
     ·rw [take_nth i0 hil, showL_app, showL_cons, showL_nil, ← hmk]
      simpa [List.append_assoc] using hB5
     ·rw [take_nth i0 hil, canL_app, hcl, canL_cons, canL_nil, hq]
      rfl
   ·simp only [bls] at hi
    rw [take_all (by omega)] at hB3 hcl hsl
    refine (c_WriteString (s := ByteArray.mk #[41]) hB3 hS3 (by show _ + 1 ≤ _; simp only [List.length_append]; omega)).mono' ?_
    rintro _ w4 ⟨rfl, I4, hB4, hS4⟩
    refine ⟨_, ⟨.nilIface, rfl⟩, rfl, I4, P0 ++ showL e.kids ++ [41], ?_, by simpa [List.append_assoc] using hB4, hS4, by simp only [List.length_append, List.length_cons, List.length_nil]; omega, fun _ => hsh.symm⟩
    rw [hce, hcl]
theorem c_FormatExpr {v : World} {f : Sl} {e : ExprD} (hT : Tab v) (hf : Read v f e.kids) (hin : InI e.num) : Fn Tryd.prog 9 #[.agg #[.int .i64 e.op, .int .i64 e.num, f.val]] v (.string (str (fmtE e))) := by
 refine of9 _ _ _ _ _ ?_
 unfold vc9
 unfold fmtE
 refine ⟨_, c_NodesOf hf, fun hq => ⟨?_, .refl v⟩, fun hq => ?_⟩
 ·simp only [bls] at hq
  rw [if_neg]
  ·rfl
  rintro ⟨h1, _⟩
  rw [if_pos h1] at hq
  omega
 simp only [bls] at hq
 have h1 : nodesE e ≤ 30 := Classical.byContradiction fun hh => by rw [if_neg hh] at hq; omega
 intro g w5 hg hs ho
 have hS := (St.refl v).new hg hs ho (by simp [absent])
 have hB : BldT g [] [(g, .cells #[.pointer none, .slice none 0 0] 47 (0, 0))] := ⟨_, _, [], .inl rfl, rfl, .inl ⟨rfl, rfl, rfl⟩⟩
 refine (c_writeExpr e v w5 f g [] _ [] hT hf hin hB hS (by simp; omega)).mono' ?_
 rintro _ w6 ⟨I1, m, rfl, hB1, hS1, hm1, hm2⟩
 refine ⟨_, rfl, fun hq => ⟨?_, hS1.sub⟩, fun hq => ?_⟩
 ·simp only [bls] at hq
  rw [if_neg]
  ·rfl
  rintro ⟨_, h2⟩
  rw [h2] at hq; cases hq
 ·simp only [bls] at hq
  rw [hm2 hq, List.nil_append] at hB1
  refine (c_BString hB1 hS1 ?_).mono' ?_
  ·rw [showE_eq]
   split
   ·intro h
    have := congrArg List.length h
    unfold Lib.itoa at this
    split at this
    ·cases this
    ·rw [Lib.decDigits_length] at this
     have := Lib.nDigits_pos e.num.toNat
     simp at *
     omega
   split <;> simp
  rintro _ w7 ⟨rfl, hS7⟩
  refine ⟨_, rfl, ?_, hS7.sub⟩
  rw [if_pos ⟨h1, hq⟩]
end Go.Vc
