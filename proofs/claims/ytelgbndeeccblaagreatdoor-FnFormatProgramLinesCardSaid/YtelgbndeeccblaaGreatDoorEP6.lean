/- Part of the proofs about the heaps and memories: a law is joined in the text whose name ends in W and the law. -/
import Derived.Test.YtelgbndeeccblaaGreatDoorEP5
namespace Go.Vc
open Go Go.Proofs Go.RowKit
set_option linter.all false
section
variable {u v w : World} {x y z f : Sl} {ds : List DeclD} {fs : List FunD} {d : DeclD} {I L R : Items} {F : Items → Items}
theorem c_showDecl (hf : Read v f d.cons) (hd : dSm d) : Fn Tryz.prog 75 #[.agg #[.int .i64 d.frm, .int .i64 d.to_, f.val]] v (.string (str (shD d))) := by
 refine of75 _ _ _ _ _ ?_
 unfold vc75
 have hn := hf.n
 obtain ⟨⟨a1, a2⟩, ⟨b1, b2⟩, h3, h4⟩ := hd
 have e1 := itoa_sz (n := d.frm) ⟨by omega, by omega⟩
 have e2 := itoa_sz (n := d.to_) ⟨by omega, by omega⟩
 refine ⟨fun hc => ?_, fun hc => ?_⟩
 ·simp only [bls] at hc
  refine ⟨_, c_decimal (by omega) (by omega), ?_, ?_, _, c_decimal (by omega) (by omega), ?_, ?_, ?_, .refl v⟩
  ·show ((6 + _ : Nat) : Int) ≤ _; omega
  ·rw [ByteArray.size_append]; show ((6 + _ + 1 : Nat) : Int) ≤ _; omega
  ·rw [ByteArray.size_append, ByteArray.size_append]; show ((6 + _ + 1 + _ : Nat) : Int) ≤ _; omega
  ·rw [ByteArray.size_append, ByteArray.size_append, ByteArray.size_append]; show ((6 + _ + 1 + _ + 1 : Nat) : Int) ≤ _; omega
  ·unfold shD
   rw [if_pos (by omega), str_eq (l := [97, 114, 114, 111, 119, 32]) rfl, str_eq (l := [32]) rfl, str_eq (l := [10]) rfl, ← str_app, ← str_app, ← str_app, ← str_app]
 ·simp only [bls] at hc
  refine ⟨fun s i w => v = w ∧ 0 ≤ i ∧ i ≤ d.cons.length ∧ s = str ([100, 97, 116, 97] ++ ((d.cons.take i.toNat).map fun c => 32 :: shN c.fields).flatten), fun _ i _ => (d.cons.length - i).toNat, ⟨rfl, by omega, by omega, rfl⟩, ?_⟩
  rintro s i _ ⟨rfl, i0, i1, rfl⟩
  dsimp only
  have hp : (str ([100, 97, 116, 97] ++ ((d.cons.take i.toNat).map fun c => 32 :: shN c.fields).flatten)).size ≤ 300 := by
   have := conTx_len (l := d.cons.take i.toNat) fun c hc => h4 c (List.mem_of_mem_take hc)
   have h2 : (d.cons.take i.toNat).length ≤ 3 := by rw [List.length_take]; omega
   rw [str_size, List.length_append]
   simp only [List.length_cons, List.length_nil]
   omega
  refine ⟨fun hi => ?_, fun hi => ?_⟩
  ·simp only [bls] at hi
   have hil : i < d.cons.length := by omega
   have hm := h4 _ (nth_mem (l := d.cons) i0 hil)
   obtain ⟨g, e3, r3⟩ := (hf.src (.refl v)).ofConD i0 hil
   have hl := shN_len (nn_InI hm.2)
   refine ⟨by show ((_ + 1 : Nat) : Int) ≤ _; omega, ?_⟩
   refine go_ix hf i0 hil ?_
   refine ⟨_, e3, _, c_showNumbers r3 (by omega) (fun n hn => by have := hm.2 n hn; omega), ?_, ?_⟩
   ·rw [ByteArray.size_append, str_size (shN _)]; show ((_ + 1 + _ : Nat) : Int) ≤ _; omega
   refine go_wr (by omega) (by omega) ?_
   refine ⟨rfl, rfl, rfl, ⟨rfl, by omega, by omega, ?_⟩, by omega⟩
   rw [flatU_take i0 hil, str_eq (l := [32]) rfl, ← str_app, ← str_app]
   simp
  ·simp only [bls] at hi
   rw [take_all (by omega)] at hp ⊢
   refine ⟨by show ((_ + 1 : Nat) : Int) ≤ _; omega, ?_, .refl v⟩
   unfold shD
   rw [if_neg (by omega), str_eq (l := [10]) rfl, ← str_app]
theorem c_showProgram (hx : Read v x ds) (hy : Read v y fs) (hd : ∀ d ∈ ds, dSm d) (hf : ∀ f ∈ fs, fSm f) (hdl : ds.length ≤ 4) (hfl : fs.length ≤ 4) : Fn Tryz.prog 34 #[.agg #[x.val, y.val]] v (.string (str (shP ds fs))) := by
 refine of34 _ _ _ _ ?_
 unfold vc34
 have hxn := hx.n
 have hyn := hy.n
 have tlen : ∀ i : Int, ((ds.take i.toNat).map shD).flatten.length ≤ 1200 := by
  intro i
  have h1 := flatU_len (l := ds.take i.toNat) (f := shD) (N := 300) fun d hm => shD_len (hd d (List.mem_of_mem_take hm))
  have h2 : (ds.take i.toNat).length ≤ 4 := by rw [List.length_take]; omega
  omega
 have glen : ∀ i : Int, ((fs.take i.toNat).map shF).flatten.length ≤ 2400 := by
  intro i
  have h1 := flatU_len (l := fs.take i.toNat) (f := shF) (N := 600) fun d hm => shF_len (hf d (List.mem_of_mem_take hm))
  have h2 : (fs.take i.toNat).length ≤ 4 := by rw [List.length_take]; omega
  omega
 refine ⟨fun s i w => v = w ∧ 0 ≤ i ∧ i ≤ ds.length ∧ s = str ((ds.take i.toNat).map shD).flatten, fun _ i _ => (ds.length - i).toNat, ⟨rfl, by omega, by omega, rfl⟩, ?_⟩
 rintro s i _ ⟨rfl, i0, i1, rfl⟩
 dsimp only
 refine ⟨fun hi => ?_, fun hi => ?_⟩
 ·simp only [bls] at hi
  have hil : i < ds.length := by omega
  have hm := hd _ (nth_mem (l := ds) i0 hil)
  obtain ⟨g, e1, e2, e3, j1, j2, r3⟩ := (hx.src (.refl v)).ofDeclD i0 hil
  refine go_ix hx i0 hil ?_
  refine ⟨_, _, g, ⟨e1, e2, e3⟩, _, c_showDecl r3 hm, ?_, ?_⟩
  ·have h1 := tlen i
   have h2 := shD_len hm
   rw [str_size, str_size]; omega
  refine go_wr (by omega) (by omega) ?_
  refine ⟨rfl, rfl, ⟨rfl, by omega, by omega, ?_⟩, by omega⟩
  rw [flatU_take i0 hil, ← str_app]
 simp only [bls] at hi
 rw [take_all (by omega)]
 have hD : ((ds.map shD).flatten).length ≤ 1200 := by
  have := tlen ds.length
  rwa [take_all (by omega)] at this
 refine ⟨fun s i w => v = w ∧ 0 ≤ i ∧ i ≤ fs.length ∧ s = str ((ds.map shD).flatten ++ ((fs.take i.toNat).map shF).flatten), fun _ i _ => (fs.length - i).toNat, ⟨rfl, by omega, by omega, by simp⟩, ?_⟩
 clear i0 i1 hi
 rintro s i _ ⟨rfl, i0, i1, rfl⟩
 dsimp only
 have hp : (str ((ds.map shD).flatten ++ ((fs.take i.toNat).map shF).flatten)).size ≤ 3600 := by
  have := glen i
  rw [str_size, List.length_append]; omega
 refine ⟨fun hi => ?_, fun hi => ?_⟩
 ·simp only [bls] at hi
  have hil : i < fs.length := by omega
  obtain ⟨s1, s2, ⟨s3, s4⟩, s5, s6⟩ := hf _ (nth_mem (l := fs) i0 hil)
  obtain ⟨f1, k1, e1, e2, e3, e4, e5, j1, j2, j3, r1, r2⟩ := (hy.src (.refl v)).ofFunD i0 hil
  have q1 := shN_len (nn_InI s2)
  have q2 := itoa_sz j1
  have q3 := show_len _ s6
  refine go_ix hy i0 hil ?_
  refine ⟨f1, _, _, _, k1, ⟨e1, e2, e3, e4, e5⟩, ?_, _, c_showNumbers r1 (by omega) (fun n hn => by have := s2 n hn; omega), ?_, ?_, _, c_decimal (by omega) (by omega), ?_, ?_, _, c_showExpr _ v k1 r2 s6 (by omega), ?_, ?_, ?_⟩
  ·show ((_ + 4 : Nat) : Int) ≤ _; omega
  ·rw [ByteArray.size_append, str_size (shN _)]; show ((_ + 4 + _ : Nat) : Int) ≤ _; omega
  ·rw [ByteArray.size_append, ByteArray.size_append, str_size (shN _)]; show ((_ + 4 + _ + 1 : Nat) : Int) ≤ _; omega
  ·rw [ByteArray.size_append, ByteArray.size_append, ByteArray.size_append, str_size (shN _)]; show ((_ + 4 + _ + 1 + _ : Nat) : Int) ≤ _; omega
  ·rw [ByteArray.size_append, ByteArray.size_append, ByteArray.size_append, ByteArray.size_append, str_size (shN _)]; show ((_ + 4 + _ + 1 + _ + 1 : Nat) : Int) ≤ _; omega
  ·rw [ByteArray.size_append, ByteArray.size_append, ByteArray.size_append, ByteArray.size_append, ByteArray.size_append, str_size (shN _), str_size (showE _)]; show ((_ + 4 + _ + 1 + _ + 1 + _ : Nat) : Int) ≤ _; omega
  ·rw [ByteArray.size_append, ByteArray.size_append, ByteArray.size_append, ByteArray.size_append, ByteArray.size_append, ByteArray.size_append, str_size (shN _), str_size (showE _)]; show ((_ + 4 + _ + 1 + _ + 1 + _ + 1 : Nat) : Int) ≤ _; omega
  refine go_wr (by omega) (by omega) ?_
  refine ⟨rfl, rfl, ⟨rfl, by omega, by omega, ?_⟩, by omega⟩
  rw [flatU_take i0 hil, str_eq (l := [102, 117, 110, 32]) rfl, str_eq (l := [32]) rfl, str_eq (l := [10]) rfl]
  simp only [← str_app]
  congr 1
  unfold shF
  simp [List.append_assoc]
 ·simp only [bls] at hi
  rw [take_all (by omega)]
  exact ⟨rfl, .refl v⟩
theorem c_specFormatProgram (hx : Read v x ds) (hy : Read v y fs) : Fn Tryz.prog 11 #[.agg #[x.val, y.val]] v (.string (str (fmtP ds fs))) := by
 refine of11 _ _ _ _ ?_
 unfold vc11
 unfold fmtP
 refine ⟨_, c_ValidProgramS hx hy, fun hq => ⟨?_, .refl v⟩, fun hq => ?_⟩
 ·simp only [bls] at hq
  rw [if_neg (by rw [hq]; simp)]
  rfl
 ·simp only [bls] at hq
  have hp := pB_iff.1 hq
  have hl := hp.1.2.2.1
  rw [List.length_map] at hl
  refine ⟨_, c_showProgram hx hy (sm_decl hp.1.1) (sm_fun hp) hp.1.1.1 hl, ?_, .refl v⟩
  rw [if_pos hq]
theorem c_implFormatProgram (hT : Tab v) (hx : Read v x ds) (hy : Read v y fs) : Fn Tryz.prog 13 #[.agg #[x.val, y.val]] v (.string (str (fmtP ds fs))) := by
 refine of13 _ _ _ _ ?_
 unfold vc13
 unfold fmtP
 have hxn := hx.n
 have hyn := hy.n
 refine ⟨_, c_ValidProgramI hx hy, fun hq => ⟨?_, .refl v⟩, fun hq => ?_⟩
 ·simp only [bls] at hq
  rw [if_neg (by rw [hq]; simp)]
  rfl
 simp only [bls] at hq
 have hprg := pB_iff.1 hq
 have hdl := hprg.1.1.1
 have hfl := hprg.1.2.2.1
 have hf0 := hprg.1.2.1
 rw [List.length_map] at hfl hf0
 have hd := sm_decl hprg.1.1
 have hf := sm_fun hprg
 rw [if_pos hq]
 clear hq hprg
 intro g w5 hg hs ho
 have hS := (St.refl v).new hg hs ho (by simp [absent])
 have hB : BldT g [] [(g, .cells #[.pointer none, .slice none 0 0] 59 (0, 0))] := ⟨_, _, [], .inl rfl, rfl, .inl ⟨rfl, rfl, rfl⟩⟩
 have tlen : ∀ i : Int, ((ds.take i.toNat).map shD).flatten.length ≤ 1200 := by
  intro i
  have h1 := flatU_len (l := ds.take i.toNat) (f := shD) (N := 300) fun d hm => shD_len (hd d (List.mem_of_mem_take hm))
  have h2 : (ds.take i.toNat).length ≤ 4 := by rw [List.length_take]; omega
  omega
 have glen : ∀ i : Int, ((fs.take i.toNat).map shF).flatten.length ≤ 2400 := by
  intro i
  have h1 := flatU_len (l := fs.take i.toNat) (f := shF) (N := 600) fun d hm => shF_len (hf d (List.mem_of_mem_take hm))
  have h2 : (fs.take i.toNat).length ≤ 4 := by rw [List.length_take]; omega
  omega
 refine ⟨fun i w => ∃ I, BldT g ((ds.take i.toNat).map shD).flatten I ∧ St v w (I ++ []) ∧ 0 ≤ i ∧ i ≤ ds.length, fun i _ => (ds.length - i).toNat, ⟨_, by simpa using hB, hS, by omega, by omega⟩, ?_⟩
 clear hB hS ho hs
 rintro i w ⟨I, hB, hS, i0, i1⟩
 dsimp only
 refine ⟨fun hi => ?_, fun hi => ?_⟩
 ·simp only [bls] at hi
  have hil : i < ds.length := by omega
  have hdm := hd _ (nth_mem (l := ds) i0 hil)
  have hln := shD_len hdm
  have htl := tlen i
  obtain ⟨⟨a1, a2⟩, ⟨b1, b2⟩, h3, h4⟩ := hdm
  obtain ⟨f, e1, e2, e3, j1, j2, r3⟩ := (hx.src hS.sub).ofDeclD i0 hil
  have hfn := r3.n
  refine go_ix hx i0 hil ?_
  refine ⟨_, _, f, ⟨e1, e2, e3⟩, fun hc => ?_, fun hc => ?_⟩
  ·simp only [bls] at hc
   have k1 := itoa_sz j1
   have k2 := itoa_sz j2
   refine ⟨_, c_Itoa (hT.mono hS.sub) j1, ?_, ?_, _, c_Itoa (hT.mono hS.sub) j2, ?_, ?_, ?_⟩
   ·show ((6 + _ : Nat) : Int) ≤ _; omega
   ·rw [ByteArray.size_append]; show ((6 + _ + 1 : Nat) : Int) ≤ _; omega
   ·rw [ByteArray.size_append, ByteArray.size_append]; show ((6 + _ + 1 + _ : Nat) : Int) ≤ _; omega
   ·rw [ByteArray.size_append, ByteArray.size_append, ByteArray.size_append]; show ((6 + _ + 1 + _ + 1 : Nat) : Int) ≤ _; omega
   have hsh : ((((ByteArray.mk #[97, 114, 114, 111, 119, 32]) ++ str (Lib.itoa (nth ds i).frm)) ++ (ByteArray.mk #[32])) ++ str (Lib.itoa (nth ds i).to_)) ++ (ByteArray.mk #[10]) = str (shD (nth ds i)) := by
    unfold shD
    rw [if_pos (by omega), str_eq (l := [97, 114, 114, 111, 119, 32]) rfl, str_eq (l := [32]) rfl, str_eq (l := [10]) rfl, ← str_app, ← str_app, ← str_app, ← str_app]
   rw [hsh]
   refine (c_WriteString hB hS (by rw [str_size]; omega)).mono' ?_
   rintro _ w1 ⟨rfl, I1, hB1, hS1⟩
   rw [str_data] at hB1
   refine ⟨_, ⟨.nilIface, rfl⟩, rfl, ?_⟩
   refine go_wr (by omega) (by omega) ?_
   exact ⟨rfl, rfl, ⟨I1, by rw [flatU_take i0 hil]; exact hB1, hS1, by omega, by omega⟩, by omega⟩
  ·simp only [bls] at hc
   refine (c_WriteString (s := ByteArray.mk #[100, 97, 116, 97]) hB hS (by show _ + 4 ≤ _; omega)).mono' ?_
   rintro _ w1 ⟨rfl, I1, hB1, hS1⟩
   refine ⟨_, ⟨.nilIface, rfl⟩, rfl, ?_⟩
   generalize hP : ((ds.take i.toNat).map shD).flatten = P0 at hB1 htl
   refine ⟨fun k w => ∃ I, BldT g (P0 ++ ([100, 97, 116, 97] ++ (((nth ds i).cons.take k.toNat).map fun c => 32 :: shN c.fields).flatten)) I ∧ St v w (I ++ []) ∧ 0 ≤ k ∧ k ≤ (nth ds i).cons.length, fun k _ => ((nth ds i).cons.length - k).toNat, ⟨I1, by simpa using hB1, hS1, by omega, by omega⟩, ?_⟩
   clear hB1 hS1 hB hS e1 e2 e3
   rintro k w2 ⟨I2, hB2, hS2, k0, k1⟩
   dsimp only
   have hpl : (((nth ds i).cons.take k.toNat).map fun c => 32 :: shN c.fields).flatten.length ≤ 300 := by
    have := conTx_len (l := (nth ds i).cons.take k.toNat) fun c hc => h4 c (List.mem_of_mem_take hc)
    have h2 : ((nth ds i).cons.take k.toNat).length ≤ 3 := by rw [List.length_take]; omega
    omega
   refine ⟨fun hk => ?_, fun hk => ?_⟩
   ·simp only [bls] at hk
    have hkl : k < (nth ds i).cons.length := by omega
    have hm := h4 _ (nth_mem (l := (nth ds i).cons) k0 hkl)
    obtain ⟨t, e4, r4⟩ := (r3.src hS2.sub).ofConD k0 hkl
    have hl := shN_len (nn_InI hm.2)
    refine go_ix r3 k0 hkl ?_
    refine ⟨_, e4, _, c_listText (hT.mono hS2.sub) (r4.mono hS2.sub) (by omega), ?_, ?_⟩
    ·rw [str_size]; show ((1 + _ : Nat) : Int) ≤ _; omega
    rw [str_eq (l := [32]) rfl, ← str_app]
    refine (c_WriteString hB2 hS2 (by rw [str_size]; simp only [List.length_append, List.length_cons, List.length_nil]; omega)).mono' ?_
    rintro _ w3 ⟨rfl, I3, hB3, hS3⟩
    rw [str_data] at hB3
    refine ⟨_, ⟨.nilIface, rfl⟩, rfl, ?_⟩
    refine go_wr (by omega) (by omega) ?_
    refine ⟨rfl, rfl, rfl, rfl, rfl, ⟨I3, ?_, hS3, by omega, by omega⟩, by omega⟩
    rw [flatU_take k0 hkl]
    simpa [List.append_assoc] using hB3
   ·simp only [bls] at hk
    rw [take_all (l := (nth ds i).cons) (by omega)] at hB2 hpl
    refine (c_WriteString (s := ByteArray.mk #[10]) hB2 hS2 (by show _ + 1 ≤ _; simp only [List.length_append, List.length_cons, List.length_nil]; omega)).mono' ?_
    rintro _ w3 ⟨rfl, I3, hB3, hS3⟩
    refine ⟨_, ⟨.nilIface, rfl⟩, rfl, ?_⟩
    refine go_wr (by omega) (by omega) ?_
    refine ⟨rfl, rfl, ⟨I3, ?_, hS3, by omega, by omega⟩, by omega⟩
    rw [flatU_take i0 hil, hP]
    unfold shD
    rw [if_neg (by omega)]
    simpa [List.append_assoc] using hB3
 ·simp only [bls] at hi
  rw [take_all (by omega)] at hB
  have hD : ((ds.map shD).flatten).length ≤ 1200 := by
   have := tlen ds.length
   rwa [take_all (by omega)] at this
  refine ⟨fun i w => ∃ I, BldT g ((ds.map shD).flatten ++ ((fs.take i.toNat).map shF).flatten) I ∧ St v w (I ++ []) ∧ 0 ≤ i ∧ i ≤ fs.length, fun i _ => (fs.length - i).toNat, ⟨I, by simpa using hB, hS, by omega, by omega⟩, ?_⟩
  clear hB hS i0 i1 hi
  rintro i w ⟨I, hB, hS, i0, i1⟩
  dsimp only
  refine ⟨fun hi => ?_, fun hi => ?_⟩
  ·simp only [bls] at hi
   have hil : i < fs.length := by omega
   have hfm := hf _ (nth_mem (l := fs) i0 hil)
   have hln := shF_len hfm
   have hgl := glen i
   obtain ⟨s1, s2, ⟨s3, s4⟩, s5, s6⟩ := hfm
   obtain ⟨f1, k1, e1, e2, e3, e4, e5, j1, j2, j3, r1, r2⟩ := (hy.src hS.sub).ofFunD i0 hil
   have q1 := shN_len (nn_InI s2)
   have q2 := itoa_sz j1
   have q3 := show_len _ s6
   have hfe : fmtE (nth fs i).body = showE (nth fs i).body := by unfold fmtE; rw [if_pos ⟨s5, s6⟩]
   have hce := c_FormatExpr (hT.mono hS.sub) (r2.mono hS.sub) j3
   rw [hfe] at hce
   refine go_ix hy i0 hil ?_
   refine ⟨f1, _, _, _, k1, ⟨e1, e2, e3, e4, e5⟩, _, c_listText (hT.mono hS.sub) (r1.mono hS.sub) (by omega), ?_, ?_, _, c_Itoa (hT.mono hS.sub) j1, ?_, ?_, _, hce, ?_, ?_, ?_⟩
   ·rw [str_size (shN _)]; show ((4 + _ : Nat) : Int) ≤ _; omega
   ·rw [ByteArray.size_append, str_size (shN _)]; show ((4 + _ + 1 : Nat) : Int) ≤ _; omega
   ·rw [ByteArray.size_append, ByteArray.size_append, str_size (shN _)]; show ((4 + _ + 1 + _ : Nat) : Int) ≤ _; omega
   ·rw [ByteArray.size_append, ByteArray.size_append, ByteArray.size_append, str_size (shN _)]; show ((4 + _ + 1 + _ + 1 : Nat) : Int) ≤ _; omega
   ·rw [ByteArray.size_append, ByteArray.size_append, ByteArray.size_append, ByteArray.size_append, str_size (shN _), str_size (showE _)]; show ((4 + _ + 1 + _ + 1 + _ : Nat) : Int) ≤ _; omega
   ·rw [ByteArray.size_append, ByteArray.size_append, ByteArray.size_append, ByteArray.size_append, ByteArray.size_append, str_size (shN _), str_size (showE _)]; show ((4 + _ + 1 + _ + 1 + _ + 1 : Nat) : Int) ≤ _; omega
   have hsh : ((((((ByteArray.mk #[102, 117, 110, 32]) ++ str (shN (nth fs i).params)) ++ (ByteArray.mk #[32])) ++ str (Lib.itoa (nth fs i).result)) ++ (ByteArray.mk #[32])) ++ str (showE (nth fs i).body)) ++ (ByteArray.mk #[10]) = str (shF (nth fs i)) := by
    unfold shF
    rw [str_eq (l := [102, 117, 110, 32]) rfl, str_eq (l := [32]) rfl, str_eq (l := [10]) rfl]
    simp only [← str_app]
   rw [hsh]
   refine (c_WriteString hB hS (by rw [str_size, List.length_append]; omega)).mono' ?_
   rintro _ w1 ⟨rfl, I1, hB1, hS1⟩
   rw [str_data] at hB1
   refine ⟨_, ⟨.nilIface, rfl⟩, rfl, ?_⟩
   refine go_wr (by omega) (by omega) ?_
   exact ⟨rfl, rfl, ⟨I1, by rw [flatU_take i0 hil, ← List.append_assoc]; exact hB1, hS1, by omega, by omega⟩, by omega⟩
  ·simp only [bls] at hi
   rw [take_all (by omega)] at hB
   refine (c_BString hB hS ?_).mono' ?_
   ·intro h
    have h1 := (List.append_eq_nil_iff.1 h).2
    cases fs with
    | nil => simp at hf0
    | cons a r => simp [shF] at h1
   rintro _ w7 ⟨rfl, hS7⟩
   exact ⟨_, rfl, rfl, hS7.sub⟩
end
end Go.Vc
