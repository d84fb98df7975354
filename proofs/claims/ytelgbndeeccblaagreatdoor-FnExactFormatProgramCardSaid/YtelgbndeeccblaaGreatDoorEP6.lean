/- Part of the proofs about the heaps and memories: a law is joined in the text whose name ends in W and the law. -/
import Derived.Test.YtelgbndeeccblaaGreatDoorEP5
namespace Go.Vc
open Go Go.Proofs Go.RowKit
set_option linter.all false
section
variable {u v w : World} {x y z f : Sl} {ds : List DeclD} {fs : List FunD} {d : DeclD} {I L R : Items} {F : Items → Items}
theorem c_showDecl (hf : Read v f d.cons) (hd : dSm d) : Fn Tryz.prog 75 #[.agg #[.int .i64 d.frm, .int .i64 d.to_, f.val]] v (.string (str (shD d))) := by
  refine of75 _ _ _ _ _ ?_
  unfold vc75
  have hn := hf.n
  obtain ⟨⟨a1, a2⟩, ⟨b1, b2⟩, h3, h4⟩ := hd
  have e1 := itoa_sz (n := d.frm) ⟨by omega, by omega⟩
  have e2 := itoa_sz (n := d.to_) ⟨by omega, by omega⟩
  refine ⟨fun hc => ?_, fun hc => ?_⟩
  · simp only [bls] at hc
    refine ⟨_, c_decimal (by omega) (by omega), ?_, ?_, _, c_decimal (by omega) (by omega), ?_, ?_, ?_, .refl v⟩
    · show ((6 + _ : Nat) : Int) ≤ _; omega
    · rw [ByteArray.size_append]; show ((6 + _ + 1 : Nat) : Int) ≤ _; omega
    · rw [ByteArray.size_append, ByteArray.size_append]; show ((6 + _ + 1 + _ : Nat) : Int) ≤ _; omega
    · rw [ByteArray.size_append, ByteArray.size_append, ByteArray.size_append]; show ((6 + _ + 1 + _ + 1 : Nat) : Int) ≤ _; omega
    · unfold shD
      rw [if_pos (by omega), str_eq (l := [97, 114, 114, 111, 119, 32]) rfl, str_eq (l := [32]) rfl, str_eq (l := [10]) rfl, ← str_app, ← str_app, ← str_app, ← str_app]
  · simp only [bls] at hc
    refine ⟨fun s i w => v = w ∧ 0 ≤ i ∧ i ≤ d.cons.length ∧ s = str ([100, 97, 116, 97] ++ ((d.cons.take i.toNat).map fun c => 32 :: shN c.fields).flatten), fun _ i _ => (d.cons.length - i).toNat, ⟨rfl, by omega, by omega, rfl⟩, ?_⟩
    rintro s i _ ⟨rfl, i0, i1, rfl⟩
    dsimp only
    have hp : (str ([100, 97, 116, 97] ++ ((d.cons.take i.toNat).map fun c => 32 :: shN c.fields).flatten)).size ≤ 300 := by
      have := conTx_len (l := d.cons.take i.toNat) fun c hc => h4 c (List.mem_of_mem_take hc)
      have h2 : (d.cons.take i.toNat).length ≤ 3 := by rw [List.length_take]; omega
      rw [str_size, List.length_append]
      simp only [List.length_cons, List.length_nil]
      omega
    refine ⟨fun hi => ?_, fun hi => ?_⟩
    · simp only [bls] at hi
      have hil : i < d.cons.length := by omega
      have hm := h4 _ (nth_mem (l := d.cons) i0 hil)
      obtain ⟨g, e3, r3⟩ := (hf.src (.refl v)).ofConD i0 hil
      have hl := shN_len (nn_InI hm.2)
      refine ⟨by show ((_ + 1 : Nat) : Int) ≤ _; omega, ?_⟩
      refine go_ix hf i0 hil ?_
      refine ⟨_, e3, _, c_showNumbers r3 (by omega) (fun n hn => by have := hm.2 n hn; omega), ?_, ?_⟩
      · rw [ByteArray.size_append, str_size (shN _)]; show ((_ + 1 + _ : Nat) : Int) ≤ _; omega
      refine go_wr (by omega) (by omega) ?_
      refine ⟨rfl, rfl, rfl, ⟨rfl, by omega, by omega, ?_⟩, by omega⟩
      rw [flatU_take i0 hil, str_eq (l := [32]) rfl, ← str_app, ← str_app]
      simp
    · simp only [bls] at hi
      rw [take_all (by omega)] at hp ⊢
      refine ⟨by show ((_ + 1 : Nat) : Int) ≤ _; omega, ?_, .refl v⟩
      unfold shD
      rw [if_neg (by omega), str_eq (l := [10]) rfl, ← str_app]
theorem c_showProgram (hx : Read v x ds) (hy : Read v y fs) (hd : ∀ d ∈ ds, dSm d) (hf : ∀ f ∈ fs, fSm f) (hdl : ds.length ≤ 4) (hfl : fs.length ≤ 4) : Fn Tryz.prog 34 #[.agg #[x.val, y.val]] v (.string (str (shP ds fs))) := by
  refine of34 _ _ _ _ ?_
  unfold vc34
  have hxn := hx.n
  have hyn := hy.n
  have tlen : ∀ i : Int, ((ds.take i.toNat).map shD).flatten.length ≤ 1200 := by
    intro i
    have h1 := flatU_len (l := ds.take i.toNat) (f := shD) (N := 300) fun d hm => shD_len (hd d (List.mem_of_mem_take hm))
    have h2 : (ds.take i.toNat).length ≤ 4 := by rw [List.length_take]; omega
    omega
  have glen : ∀ i : Int, ((fs.take i.toNat).map shF).flatten.length ≤ 2400 := by
    intro i
    have h1 := flatU_len (l := fs.take i.toNat) (f := shF) (N := 600) fun d hm => shF_len (hf d (List.mem_of_mem_take hm))
    have h2 : (fs.take i.toNat).length ≤ 4 := by rw [List.length_take]; omega
    omega
  refine ⟨fun s i w => v = w ∧ 0 ≤ i ∧ i ≤ ds.length ∧ s = str ((ds.take i.toNat).map shD).flatten, fun _ i _ => (ds.length - i).toNat, ⟨rfl, by omega, by omega, rfl⟩, ?_⟩
  rintro s i _ ⟨rfl, i0, i1, rfl⟩
  dsimp only
  refine ⟨fun hi => ?_, fun hi => ?_⟩
  · simp only [bls] at hi
    have hil : i < ds.length := by omega
    have hm := hd _ (nth_mem (l := ds) i0 hil)
    obtain ⟨g, e1, e2, e3, j1, j2, r3⟩ := (hx.src (.refl v)).ofDeclD i0 hil
    refine go_ix hx i0 hil ?_
    refine ⟨_, _, g, ⟨e1, e2, e3⟩, _, c_showDecl r3 hm, ?_, ?_⟩
    · have h1 := tlen i
      have h2 := shD_len hm
      rw [str_size, str_size]; omega
    refine go_wr (by omega) (by omega) ?_
    refine ⟨rfl, rfl, ⟨rfl, by omega, by omega, ?_⟩, by omega⟩
    rw [flatU_take i0 hil, ← str_app]
  simp only [bls] at hi
  rw [take_all (by omega)]
  have hD : ((ds.map shD).flatten).length ≤ 1200 := by
    have := tlen ds.length
    rwa [take_all (by omega)] at this
  refine ⟨fun s i w => v = w ∧ 0 ≤ i ∧ i ≤ fs.length ∧ s = str ((ds.map shD).flatten ++ ((fs.take i.toNat).map shF).flatten), fun _ i _ => (fs.length - i).toNat, ⟨rfl, by omega, by omega, by simp⟩, ?_⟩
  clear i0 i1 hi
  rintro s i _ ⟨rfl, i0, i1, rfl⟩
  dsimp only
  have hp : (str ((ds.map shD).flatten ++ ((fs.take i.toNat).map shF).flatten)).size ≤ 3600 := by
    have := glen i
    rw [str_size, List.length_append]; omega
  refine ⟨fun hi => ?_, fun hi => ?_⟩
  · simp only [bls] at hi
    have hil : i < fs.length := by omega
    obtain ⟨s1, s2, ⟨s3, s4⟩, s5, s6⟩ := hf _ (nth_mem (l := fs) i0 hil)
    obtain ⟨f1, k1, e1, e2, e3, e4, e5, j1, j2, j3, r1, r2⟩ := (hy.src (.refl v)).ofFunD i0 hil
    have q1 := shN_len (nn_InI s2)
    have q2 := itoa_sz j1
    have q3 := show_len _ s6
    refine go_ix hy i0 hil ?_
    refine ⟨f1, _, _, _, k1, ⟨e1, e2, e3, e4, e5⟩, ?_, _, c_showNumbers r1 (by omega) (fun n hn => by have := s2 n hn; omega), ?_, ?_, _, c_decimal (by omega) (by omega), ?_, ?_, _, c_showExpr _ v k1 r2 s6 (by omega), ?_, ?_, ?_⟩
    · show ((_ + 4 : Nat) : Int) ≤ _; omega
    · rw [ByteArray.size_append, str_size (shN _)]; show ((_ + 4 + _ : Nat) : Int) ≤ _; omega
    · rw [ByteArray.size_append, ByteArray.size_append, str_size (shN _)]; show ((_ + 4 + _ + 1 : Nat) : Int) ≤ _; omega
    · rw [ByteArray.size_append, ByteArray.size_append, ByteArray.size_append, str_size (shN _)]; show ((_ + 4 + _ + 1 + _ : Nat) : Int) ≤ _; omega
    · rw [ByteArray.size_append, ByteArray.size_append, ByteArray.size_append, ByteArray.size_append, str_size (shN _)]; show ((_ + 4 + _ + 1 + _ + 1 : Nat) : Int) ≤ _; omega
    · rw [ByteArray.size_append, ByteArray.size_append, ByteArray.size_append, ByteArray.size_append, ByteArray.size_append, str_size (shN _), str_size (showE _)]; show ((_ + 4 + _ + 1 + _ + 1 + _ : Nat) : Int) ≤ _; omega
    · rw [ByteArray.size_append, ByteArray.size_append, ByteArray.size_append, ByteArray.size_append, ByteArray.size_append, ByteArray.size_append, str_size (shN _), str_size (showE _)]; show ((_ + 4 + _ + 1 + _ + 1 + _ + 1 : Nat) : Int) ≤ _; omega
    refine go_wr (by omega) (by omega) ?_
    refine ⟨rfl, rfl, ⟨rfl, by omega, by omega, ?_⟩, by omega⟩
    rw [flatU_take i0 hil, str_eq (l := [102, 117, 110, 32]) rfl, str_eq (l := [32]) rfl, str_eq (l := [10]) rfl]
    simp only [← str_app]
    congr 1
    unfold shF
    simp [List.append_assoc]
  · simp only [bls] at hi
    rw [take_all (by omega)]
    exact ⟨rfl, .refl v⟩
theorem c_specFormatProgram (hx : Read v x ds) (hy : Read v y fs) : Fn Tryz.prog 11 #[.agg #[x.val, y.val]] v (.string (str (fmtP ds fs))) := by
  refine of11 _ _ _ _ ?_
  unfold vc11
  unfold fmtP
  refine ⟨_, c_ValidProgramS hx hy, fun hq => ⟨?_, .refl v⟩, fun hq => ?_⟩
  · simp only [bls] at hq
    rw [if_neg (by rw [hq]; simp)]
    rfl
  · simp only [bls] at hq
    have hp := pB_iff.1 hq
    have hl := hp.1.2.2.1
    rw [List.length_map] at hl
    refine ⟨_, c_showProgram hx hy (sm_decl hp.1.1) (sm_fun hp) hp.1.1.1 hl, ?_, .refl v⟩
    rw [if_pos hq]
theorem c_implFormatProgram (hT : Tab v) (hx : Read v x ds) (hy : Read v y fs) : Fn Tryz.prog 13 #[.agg #[x.val, y.val]] v (.string (str (fmtP ds fs))) := by
  refine of13 _ _ _ _ ?_
  unfold vc13
  unfold fmtP
  have hxn := hx.n
  have hyn := hy.n
  refine ⟨_, c_ValidProgramI hx hy, fun hq => ⟨?_, .refl v⟩, fun hq => ?_⟩
  · simp only [bls] at hq
    rw [if_neg (by rw [hq]; simp)]
    rfl
  simp only [bls] at hq
  have hprg := pB_iff.1 hq
  have hdl := hprg.1.1.1
  have hfl := hprg.1.2.2.1
  have hf0 := hprg.1.2.1
  rw [List.length_map] at hfl hf0
  have hd := sm_decl hprg.1.1
  have hf := sm_fun hprg
  rw [if_pos hq]
  clear hq hprg
  intro g w5 hg hs ho
  have hS := (St.refl v).new hg hs ho (by simp [absent])
  have hB : BldT g [] [(g, .cells #[.pointer none, .slice none 0 0] 59 (0, 0))] := ⟨_, _, [], .inl rfl, rfl, .inl ⟨rfl, rfl, rfl⟩⟩
  have tlen : ∀ i : Int, ((ds.take i.toNat).map shD).flatten.length ≤ 1200 := by
    intro i
    have h1 := flatU_len (l := ds.take i.toNat) (f := shD) (N := 300) fun d hm => shD_len (hd d (List.mem_of_mem_take hm))
    have h2 : (ds.take i.toNat).length ≤ 4 := by rw [List.length_take]; omega
    omega
  have glen : ∀ i : Int, ((fs.take i.toNat).map shF).flatten.length ≤ 2400 := by
    intro i
    have h1 := flatU_len (l := fs.take i.toNat) (f := shF) (N := 600) fun d hm => shF_len (hf d (List.mem_of_mem_take hm))
    have h2 : (fs.take i.toNat).length ≤ 4 := by rw [List.length_take]; omega
    omega
  refine ⟨fun i w => ∃ I, BldT g ((ds.take i.toNat).map shD).flatten I ∧ St v w (I ++ []) ∧ 0 ≤ i ∧ i ≤ ds.length, fun i _ => (ds.length - i).toNat, ⟨_, by simpa using hB, hS, by omega, by omega⟩, ?_⟩
  clear hB hS ho hs
  rintro i w ⟨I, hB, hS, i0, i1⟩
  dsimp only
  refine ⟨fun hi => ?_, fun hi => ?_⟩
  · simp only [bls] at hi
    have hil : i < ds.length := by omega
    have hdm := hd _ (nth_mem (l := ds) i0 hil)
    have hln := shD_len hdm
    have htl := tlen i
    obtain ⟨⟨a1, a2⟩, ⟨b1, b2⟩, h3, h4⟩ := hdm
    obtain ⟨f, e1, e2, e3, j1, j2, r3⟩ := (hx.src hS.sub).ofDeclD i0 hil
    have hfn := r3.n
    refine go_ix hx i0 hil ?_
    refine ⟨_, _, f, ⟨e1, e2, e3⟩, fun hc => ?_, fun hc => ?_⟩
    · simp only [bls] at hc
      have k1 := itoa_sz j1
      have k2 := itoa_sz j2
      refine ⟨_, c_Itoa (hT.mono hS.sub) j1, ?_, ?_, _, c_Itoa (hT.mono hS.sub) j2, ?_, ?_, ?_⟩
      · show ((6 + _ : Nat) : Int) ≤ _; omega
      · rw [ByteArray.size_append]; show ((6 + _ + 1 : Nat) : Int) ≤ _; omega
      · rw [ByteArray.size_append, ByteArray.size_append]; show ((6 + _ + 1 + _ : Nat) : Int) ≤ _; omega
      · rw [ByteArray.size_append, ByteArray.size_append, ByteArray.size_append]; show ((6 + _ + 1 + _ + 1 : Nat) : Int) ≤ _; omega
      have hsh : ((((ByteArray.mk #[97, 114, 114, 111, 119, 32]) ++ str (Lib.itoa (nth ds i).frm)) ++ (ByteArray.mk #[32])) ++ str (Lib.itoa (nth ds i).to_)) ++ (ByteArray.mk #[10]) = str (shD (nth ds i)) := by
        unfold shD
        rw [if_pos (by omega), str_eq (l := [97, 114, 114, 111, 119, 32]) rfl, str_eq (l := [32]) rfl, str_eq (l := [10]) rfl, ← str_app, ← str_app, ← str_app, ← str_app]
      rw [hsh]
      refine (c_WriteString hB hS (by rw [str_size]; omega)).mono' ?_
      rintro _ w1 ⟨rfl, I1, hB1, hS1⟩
      rw [str_data] at hB1
      refine ⟨_, ⟨.nilIface, rfl⟩, rfl, ?_⟩
      refine go_wr (by omega) (by omega) ?_
      exact ⟨rfl, rfl, ⟨I1, by rw [flatU_take i0 hil]; exact hB1, hS1, by omega, by omega⟩, by omega⟩
    · simp only [bls] at hc
      refine (c_WriteString (s := ByteArray.mk #[100, 97, 116, 97]) hB hS (by show _ + 4 ≤ _; omega)).mono' ?_
      rintro _ w1 ⟨rfl, I1, hB1, hS1⟩
      refine ⟨_, ⟨.nilIface, rfl⟩, rfl, ?_⟩
      generalize hP : ((ds.take i.toNat).map shD).flatten = P0 at hB1 htl
      refine ⟨fun k w => ∃ I, BldT g (P0 ++ ([100, 97, 116, 97] ++ (((nth ds i).cons.take k.toNat).map fun c => 32 :: shN c.fields).flatten)) I ∧ St v w (I ++ []) ∧ 0 ≤ k ∧ k ≤ (nth ds i).cons.length, fun k _ => ((nth ds i).cons.length - k).toNat, ⟨I1, by simpa using hB1, hS1, by omega, by omega⟩, ?_⟩
      clear hB1 hS1 hB hS e1 e2 e3
      rintro k w2 ⟨I2, hB2, hS2, k0, k1⟩
      dsimp only
      have hpl : (((nth ds i).cons.take k.toNat).map fun c => 32 :: shN c.fields).flatten.length ≤ 300 := by
        have := conTx_len (l := (nth ds i).cons.take k.toNat) fun c hc => h4 c (List.mem_of_mem_take hc)
        have h2 : ((nth ds i).cons.take k.toNat).length ≤ 3 := by rw [List.length_take]; omega
        omega
      refine ⟨fun hk => ?_, fun hk => ?_⟩
      · simp only [bls] at hk
        have hkl : k < (nth ds i).cons.length := by omega
        have hm := h4 _ (nth_mem (l := (nth ds i).cons) k0 hkl)
        obtain ⟨t, e4, r4⟩ := (r3.src hS2.sub).ofConD k0 hkl
        have hl := shN_len (nn_InI hm.2)
        refine go_ix r3 k0 hkl ?_
        refine ⟨_, e4, _, c_listText (hT.mono hS2.sub) (r4.mono hS2.sub) (by omega), ?_, ?_⟩
        · rw [str_size]; show ((1 + _ : Nat) : Int) ≤ _; omega
        rw [str_eq (l := [32]) rfl, ← str_app]
        refine (c_WriteString hB2 hS2 (by rw [str_size]; simp only [List.length_append, List.length_cons, List.length_nil]; omega)).mono' ?_
        rintro _ w3 ⟨rfl, I3, hB3, hS3⟩
        rw [str_data] at hB3
        refine ⟨_, ⟨.nilIface, rfl⟩, rfl, ?_⟩
        refine go_wr (by omega) (by omega) ?_
        refine ⟨rfl, rfl, rfl, rfl, rfl, ⟨I3, ?_, hS3, by omega, by omega⟩, by omega⟩
        rw [flatU_take k0 hkl]
        simpa [List.append_assoc] using hB3
      · simp only [bls] at hk
        rw [take_all (l := (nth ds i).cons) (by omega)] at hB2 hpl
        refine (c_WriteString (s := ByteArray.mk #[10]) hB2 hS2 (by show _ + 1 ≤ _; simp only [List.length_append, List.length_cons, List.length_nil]; omega)).mono' ?_
        rintro _ w3 ⟨rfl, I3, hB3, hS3⟩
        refine ⟨_, ⟨.nilIface, rfl⟩, rfl, ?_⟩
        refine go_wr (by omega) (by omega) ?_
        refine ⟨rfl, rfl, ⟨I3, ?_, hS3, by omega, by omega⟩, by omega⟩
        rw [flatU_take i0 hil, hP]
        unfold shD
        rw [if_neg (by omega)]
        simpa [List.append_assoc] using hB3
  · simp only [bls] at hi
    rw [take_all (by omega)] at hB
    have hD : ((ds.map shD).flatten).length ≤ 1200 := by
      have := tlen ds.length
      rwa [take_all (by omega)] at this
    refine ⟨fun i w => ∃ I, BldT g ((ds.map shD).flatten ++ ((fs.take i.toNat).map shF).flatten) I ∧ St v w (I ++ []) ∧ 0 ≤ i ∧ i ≤ fs.length, fun i _ => (fs.length - i).toNat, ⟨I, by simpa using hB, hS, by omega, by omega⟩, ?_⟩
    clear hB hS i0 i1 hi
    rintro i w ⟨I, hB, hS, i0, i1⟩
    dsimp only
    refine ⟨fun hi => ?_, fun hi => ?_⟩
    · simp only [bls] at hi
      have hil : i < fs.length := by omega
      have hfm := hf _ (nth_mem (l := fs) i0 hil)
      have hln := shF_len hfm
      have hgl := glen i
      obtain ⟨s1, s2, ⟨s3, s4⟩, s5, s6⟩ := hfm
      obtain ⟨f1, k1, e1, e2, e3, e4, e5, j1, j2, j3, r1, r2⟩ := (hy.src hS.sub).ofFunD i0 hil
      have q1 := shN_len (nn_InI s2)
      have q2 := itoa_sz j1
      have q3 := show_len _ s6
      have hfe : fmtE (nth fs i).body = showE (nth fs i).body := by unfold fmtE; rw [if_pos ⟨s5, s6⟩]
      have hce := c_FormatExpr (hT.mono hS.sub) (r2.mono hS.sub) j3
      rw [hfe] at hce
      refine go_ix hy i0 hil ?_
      refine ⟨f1, _, _, _, k1, ⟨e1, e2, e3, e4, e5⟩, _, c_listText (hT.mono hS.sub) (r1.mono hS.sub) (by omega), ?_, ?_, _, c_Itoa (hT.mono hS.sub) j1, ?_, ?_, _, hce, ?_, ?_, ?_⟩
      · rw [str_size (shN _)]; show ((4 + _ : Nat) : Int) ≤ _; omega
      · rw [ByteArray.size_append, str_size (shN _)]; show ((4 + _ + 1 : Nat) : Int) ≤ _; omega
      · rw [ByteArray.size_append, ByteArray.size_append, str_size (shN _)]; show ((4 + _ + 1 + _ : Nat) : Int) ≤ _; omega
      · rw [ByteArray.size_append, ByteArray.size_append, ByteArray.size_append, str_size (shN _)]; show ((4 + _ + 1 + _ + 1 : Nat) : Int) ≤ _; omega
      · rw [ByteArray.size_append, ByteArray.size_append, ByteArray.size_append, ByteArray.size_append, str_size (shN _), str_size (showE _)]; show ((4 + _ + 1 + _ + 1 + _ : Nat) : Int) ≤ _; omega
      · rw [ByteArray.size_append, ByteArray.size_append, ByteArray.size_append, ByteArray.size_append, ByteArray.size_append, str_size (shN _), str_size (showE _)]; show ((4 + _ + 1 + _ + 1 + _ + 1 : Nat) : Int) ≤ _; omega
      have hsh : ((((((ByteArray.mk #[102, 117, 110, 32]) ++ str (shN (nth fs i).params)) ++ (ByteArray.mk #[32])) ++ str (Lib.itoa (nth fs i).result)) ++ (ByteArray.mk #[32])) ++ str (showE (nth fs i).body)) ++ (ByteArray.mk #[10]) = str (shF (nth fs i)) := by
        unfold shF
        rw [str_eq (l := [102, 117, 110, 32]) rfl, str_eq (l := [32]) rfl, str_eq (l := [10]) rfl]
        simp only [← str_app]
      rw [hsh]
      refine (c_WriteString hB hS (by rw [str_size, List.length_append]; omega)).mono' ?_
      rintro _ w1 ⟨rfl, I1, hB1, hS1⟩
      rw [str_data] at hB1
      refine ⟨_, ⟨.nilIface, rfl⟩, rfl, ?_⟩
      refine go_wr (by omega) (by omega) ?_
      exact ⟨rfl, rfl, ⟨I1, by rw [flatU_take i0 hil, ← List.append_assoc]; exact hB1, hS1, by omega, by omega⟩, by omega⟩
    · simp only [bls] at hi
      rw [take_all (by omega)] at hB
      refine (c_BString hB hS ?_).mono' ?_
      · intro h
        have h1 := (List.append_eq_nil_iff.1 h).2
        cases fs with
        | nil => simp at hf0
        | cons a r => simp [shF] at h1
      rintro _ w7 ⟨rfl, hS7⟩
      exact ⟨_, rfl, rfl, hS7.sub⟩
end
end Go.Vc

namespace Go.Vc
open Go Go.Proofs Go.RowKit
set_option linter.all false
instance : Cost FunD := ⟨fun c => c.params.length + Cost.cost c.body⟩
instance : Shr FunD := ⟨fun {B w cs a} ⟨f, k, h0, i1, i2, i3, r1, r2⟩ hc => by
  have hc : a.params.length + Cost.cost a.body ≤ 1099511627776 := hc
  have hb := cost_ex a.body
  exact ⟨f, k, h0, i1, i2, i3, r1.toInts (by show _ ≤ 1099511627776; omega), r2.shr (by omega)⟩⟩
instance : DatO FunD where
  own cs c K := ∃ (f k : Sl) (K1 K2 : Items), cs = [f.val, intV c.result, intV c.body.op, intV c.body.num, k.val] ∧ InI c.result ∧ (∀ u, Own u f c.params K1) ∧ DatO.own [intV c.body.op, intV c.body.num, k.val] c.body K2 ∧ K = K1 ++ K2
  read := by
    intro w cs c I h hA
    obtain ⟨f, k, K1, K2, h0, i1, o1, o2, rfl⟩ := h
    obtain ⟨f2, h2, i2, i3, o3⟩ := expr_own.1 o2
    have hy : f2 = k := by
      have h1 : k.val = f2.val := by simpa using h2
      clear h2 o2 o3 h0
      obtain ⟨a1, a2, a3⟩ := f2
      obtain ⟨b1, b2, b3⟩ := k
      simp only [Sl.val, Value.slice.injEq] at h1
      obtain ⟨h1, h2, h3⟩ := h1
      subst h1 h2 h3
      rfl
    subst hy
    exact ⟨f, f2, h0, i1, i2, i3, (let ⟨rows, k1, k2, k3⟩ := o1 w; ⟨rows, k1.rd fun p hp => hA p (List.mem_append_left _ hp), k2, k3⟩), o3.readA fun p hp => hA p (List.mem_append_right _ hp)⟩
instance : SlT Tryz.prog 29 5 72 [.slice none 0 0, intV 0, intV 0, intV 0, .slice none 0 0] := .of (by kernel_rfl) rfl (by decide)
section
variable {u v w : World} {x y f k g h : Sl} {l m : List FunD} {b i : Int} {c d : FunD}
theorem rowFunD {B : Nat} (hx : ReadB B v x l) (h0 : 0 ≤ i) (h1 : i < l.length) : ∃ f k : Sl, (v.cell? ((elA x i 5).add 0) = some (f.val) ∧ v.cell? ((elA x i 5).add 1) = some (.int .i64 (nth l i).result) ∧ v.cell? ((elA x i 5).add 2) = some (.int .i64 (nth l i).body.op) ∧ v.cell? ((elA x i 5).add 3) = some (.int .i64 (nth l i).body.num) ∧ v.cell? ((elA x i 5).add 4) = some (k.val)) ∧ ReadB B v f (nth l i).params ∧ ReadB B v k (nth l i).body.kids := by
  obtain ⟨r, hr, hc⟩ := hx.row h0 h1
  obtain ⟨f, k, rfl, i1, i2, i3, r1, r2⟩ := hr
  exact ⟨f, k, ⟨hc 0 _ rfl, hc 1 _ rfl, hc 2 _ rfl, hc 3 _ rfl, hc 4 _ rfl⟩, r1, r2⟩
theorem c_szFunE (r1 : ReadB BM v f c.params) (r2 : ReadB BM v k c.body.kids) (hb0 : 0 ≤ b) (hb : b ≤ 1048576) : Fn Tryz.prog 72 #[.agg #[f.val, .int .i64 c.result, .int .i64 c.body.op, .int .i64 c.body.num, k.val], .int .i64 b] v (.int .i64 (szI b (Cost.cost c))) := by
  refine of72 _ _ _ _ _ _ _ _ ?_
  unfold vc72
  have hcost : Cost.cost c = c.params.length + Cost.cost c.body := rfl
  rw [hcost]
  refine ⟨_, c_szIntS r1.n r1.le (by omega) (by omega), fun hc => ⟨?_, .refl v⟩, fun hc => ?_⟩
  · simp only [bls] at hc
    obtain ⟨e1, e2⟩ := szI_neg hc
    rw [szI_if (by omega)]
  have hp0 := szI_le (by simp only [bls] at hc; exact hc)
  rw [hp0.1] at hc ⊢
  refine ⟨_, c_szExpr c.body v k _ r2 (by omega) (by omega), fun hc => ⟨?_, .refl v⟩, fun hc => ?_⟩
  · simp only [bls] at hc
    obtain ⟨e1, e2⟩ := szI_neg hc
    rw [szI_if (by omega)]
  have hp2 := szI_le (by simp only [bls] at hc; exact hc)
  refine ⟨?_, .refl v⟩
  rw [hp2.1, szI_eq (by omega)]
  congr 1
  omega
theorem c_szFunES (hx : ReadB BM v x l) (hb0 : 0 ≤ b) (hb : b ≤ 1048576) : Fn Tryz.prog 32 #[x.val, .int .i64 b] v (.int .i64 (szI b (costL l))) := by
  refine of32 _ _ _ _ ?_
  unfold vc32
  have hn := hx.n
  have hl : l.length ≤ 9223372036854775807 := hx.le
  have hcl : costL l = l.length + (l.map Cost.cost).sum := rfl
  refine go_wr (by omega) (by omega) ?_
  refine ⟨fun hc => ⟨?_, .refl v⟩, fun hc => ?_⟩
  · simp only [bls] at hc
    rw [szI_if (by omega)]
  simp only [bls] at hc
  refine ⟨fun b' i w => Sub v w ∧ 0 ≤ i ∧ i ≤ l.length ∧ 0 ≤ b' ∧ b' = b - l.length - ((l.take i.toNat).map Cost.cost).sum, fun _ i _ => (l.length - i).toNat, ⟨.refl v, by omega, by omega, by omega, by simp; omega⟩, ?_⟩
  rintro b' i w ⟨hs, h0, h1, h2, h3⟩
  dsimp only
  refine ⟨fun hi => ?_, fun hi => ?_⟩
  · simp only [bls] at hi
    have e1 := sum_take (l := l) h0 (by omega)
    have e2 := sum_le l (i + 1).toNat
    obtain ⟨f1, k1, hcell, r1, r2⟩ := rowFunD (hx.mono hs) h0 (by omega)
    refine go_ix hx h0 (by omega) ?_
    refine ⟨f1, _, _, _, k1, hcell, _, c_szFunE (c := nth l i) r1 r2 h2 (by omega), fun hq => ⟨?_, hs⟩, fun hq => ?_⟩
    · simp only [bls] at hq
      obtain ⟨d1, d2⟩ := szI_neg hq
      rw [szI_if (by omega)]
    · simp only [bls] at hq
      have d1 := (szI_le hq).1
      refine go_wr (by omega) (by omega) ?_
      exact ⟨⟨hs, by omega, by omega, hq, by omega⟩, by omega⟩
  · simp only [bls] at hi
    have e3 : l.take i.toNat = l := take_all (by omega)
    rw [e3] at h3
    exact ⟨by rw [szI_eq (by omega)]; congr 1; omega, hs⟩
theorem c_eqFunE (r1 : Read v f c.params) (r2 : Read v k c.body.kids) (s1 : Read v g d.params) (s2 : Read v h d.body.kids) : Fn Tryz.prog 84 #[.agg #[f.val, .int .i64 c.result, .int .i64 c.body.op, .int .i64 c.body.num, k.val], .agg #[g.val, .int .i64 d.result, .int .i64 d.body.op, .int .i64 d.body.num, h.val]] v (.bool (decide (c = d))) := by
  refine of84 _ _ _ _ _ _ _ _ _ _ _ _ ?_
  unfold vc84
  refine ⟨_, c_eqIntS r1 s1, fun hc => ⟨?_, .refl v⟩, fun hc => ?_⟩
  · rw [decide_eq_false (fun h => by rw [h] at hc; simp at hc)]
  have e_params : c.params = d.params := by simpa using hc
  refine ⟨fun hc => ⟨?_, .refl v⟩, fun hc => ?_⟩
  · rw [decide_eq_false (fun h => by rw [h] at hc; simp at hc)]
  have e_result : c.result = d.result := by simpa using hc
  refine ⟨_, c_eqExpr c.body v d.body k h r2 s2, fun hc => ⟨?_, .refl v⟩, fun hc => ?_⟩
  · rw [decide_eq_false (fun h => by rw [h] at hc; simp at hc)]
  have e_body : c.body = d.body := by simpa using hc
  have e : c = d := by
    obtain ⟨a1, a2, a3⟩ := c
    obtain ⟨b1, b2, b3⟩ := d
    simp only at e_params e_result e_body
    subst e_params e_result e_body
    rfl
  exact ⟨by rw [decide_eq_true e], .refl v⟩
theorem c_eqFunES (hx : Read v x l) (hy : Read v y m) : Fn Tryz.prog 42 #[x.val, y.val] v (.bool (decide (l = m))) := by
  refine of42 _ _ _ _ ?_
  unfold vc42
  have hn := hx.n
  have hm := hy.n
  have hl := hx.le
  refine ⟨fun hc => ⟨?_, .refl v⟩, fun hc => ?_⟩
  · rw [decide_eq_false (fun h => by rw [h] at hn; simp at hc; omega)]
  have hlen : l.length = m.length := by simp at hc; omega
  refine ⟨fun i w => Sub v w ∧ 0 ≤ i ∧ i ≤ l.length ∧ l.take i.toNat = m.take i.toNat, fun i _ => (l.length - i).toNat, ⟨.refl v, by omega, by omega, by simp⟩, ?_⟩
  rintro i w ⟨hs, h0, h1, h2⟩
  dsimp only
  refine ⟨fun hi => ?_, fun hi => ?_⟩
  · simp only [bls] at hi
    obtain ⟨f1, k1, hcell, r1, r2⟩ := rowFunD (hx.mono hs) h0 (by omega)
    obtain ⟨g1, q1, hcell2, s1, s2⟩ := rowFunD (hy.mono hs) h0 (by omega)
    refine go_ix hx h0 (by omega) ?_
    refine ⟨f1, _, _, _, k1, hcell, ?_⟩
    refine go_ix hy h0 (by omega) ?_
    refine ⟨g1, _, _, _, q1, hcell2, ?_⟩
    refine ⟨_, c_eqFunE (c := nth l i) (d := nth m i) r1 r2 s1 s2, fun hq => ⟨?_, hs⟩, fun hq => ?_⟩
    · rw [decide_eq_false (fun h => by rw [h] at hq; simp at hq)]
    · have he : nth l i = nth m i := by simpa using hq
      refine go_wr (by omega) (by omega) ?_
      refine ⟨⟨hs, by omega, by omega, ?_⟩, by omega⟩
      rw [take_nth h0 (by omega), take_nth h0 (by omega), h2, he]
  · simp only [bls] at hi
    rw [take_all (by omega), take_all (by omega)] at h2
    exact ⟨by rw [decide_eq_true h2], hs⟩
theorem c_toFunE (i1 : InI c.result) (i2 : InI c.body.op) (i3 : InI c.body.num) (r1 : Read v f c.params) (r2 : Read v k c.body.kids) : Mk Tryz.prog 79 #[.agg #[f.val, .int .i64 c.result, .int .i64 c.body.op, .int .i64 c.body.num, k.val]] v fun r J => ∃ y z : Sl, r = .agg #[y.val, .int .i64 c.result, .int .i64 c.body.op, .int .i64 c.body.num, z.val] ∧ DatO.own [y.val, intV c.result, intV c.body.op, intV c.body.num, z.val] c J := by
  refine of79 _ _ _ _ _ _ _ ?_
  unfold vc79
  refine Mk.use (c_toIntS r1) (.refl v) ?_
  rintro _ w1 J1 ⟨y1, rfl, o1⟩ hS _
  refine ⟨_, rfl, ?_⟩
  refine Mk.use (c_toExpr c.body v k r2 i2 i3) hS ?_
  rintro _ w2 J2 ⟨y2, rfl, o2⟩ hS _
  refine ⟨_, _, _, rfl, ?_⟩
  exact ⟨J1 ++ J2, (hS.to : St v w2 (J1 ++ (J2 ++ []))).perm (by simp), y1, y2, rfl, y1, y2, J1, J2, rfl, i1, o1.toAll, o2, rfl⟩
theorem c_toFunES (hx : Read v x l) : Mk Tryz.prog 36 #[x.val] v fun r J => ∃ y, r = y.val ∧ OwnD y l J := by
  refine of36 _ _ _ ?_
  unfold vc36
  have hn := hx.n
  have hl := hx.le
  refine St.make (α := FunD) (default : FunD) (.refl v) ⟨⟨none, 0, 0⟩, ⟨none, 0, 0⟩, rfl, zero_in, zero_in, zero_in, ReadB.nil, ReadB.nil⟩ (by omega) (by omega) (by decide) ?_
  intro y w1 J1 hO hS hs
  have hP0 : OwnG (fun j r => r.length = 5) 0 y l J1 := by
    obtain ⟨rows, k1, k2, k3⟩ := hO
    have hrl : rows.length = l.length := by have := k2.1; simp at this; omega
    refine .start k1 hrl (fun j r hr => ?_) hl
    have hj : j < rows.length := (List.getElem?_eq_some_iff.1 hr).1
    exact Dat.len (k2.2 j r _ hr (by rw [List.getElem?_eq_getElem (by simp; omega)]))
  refine ⟨_, rfl, ?_⟩
  refine ⟨fun i w => ∃ I, OwnG (fun j r => r.length = 5) i.toNat y l I ∧ St v w (I ++ []) ∧ 0 ≤ i ∧ i ≤ l.length, fun i _ => (l.length - i).toNat, ⟨J1, hP0, hS, by omega, by omega⟩, ?_⟩
  clear hO hS hP0
  rintro i w ⟨I, hO, hS, h0, h1⟩
  dsimp only
  refine ⟨fun hi => ?_, fun hi => ?_⟩
  · simp only [bls] at hi
    refine go_ix hx h0 (by omega) ?_
    obtain ⟨f1, k1, e1, e2, e3, e4, e5, i1, i2, i3, r1, r2⟩ := (hx.src hS.sub).ofFunD h0 (by omega)
    refine ⟨f1, _, _, _, k1, ⟨e1, e2, e3, e4, e5⟩, ?_⟩
    refine Mk.use (c_toFunE (c := nth l i) i1 i2 i3 r1 r2) hS ?_
    rintro _ w2 J2 ⟨t1, t2, rfl, hT⟩ hS hsub
    refine ⟨t1, _, _, _, t2, rfl, hO.ix h0 (by omega), ?_⟩
    refine hO.step hS h0 (by omega) (Nat.le_of_ble_eq_true rfl) (fun r hr => ?_) ?_
    · match r, hr with
      | [_, _, _, _, _], _ => exact hT
    intro w3 I3 hO3 hS
    refine go_wr (by omega) (by omega) ?_
    exact ⟨⟨I3, hO3, hS, by omega, by omega⟩, by omega⟩
  · simp only [bls] at hi
    rw [show i.toNat = l.length from by omega] at hO
    exact ⟨I, by simpa using hS, y, rfl, hO.done⟩
end
section
variable {v : World} {x y x' y' : Sl} {ds ds' : List DeclD} {fs fs' : List FunD} {b : Int}
theorem c_szProgram (hx : ReadB BM v x ds) (hy : ReadB BM v y fs) (hb0 : 0 ≤ b) (hb : b ≤ 1048576) : Fn Tryz.prog 10 #[.agg #[x.val, y.val], .int .i64 b] v (.int .i64 (szI b (costL ds + costL fs))) := by
  refine of10 _ _ _ _ _ ?_
  unfold vc10
  refine ⟨_, c_szDeclS hx (by omega) (by omega), fun hc => ⟨?_, .refl v⟩, fun hc => ?_⟩
  · simp only [bls] at hc
    obtain ⟨e1, e2⟩ := szI_neg hc
    rw [szI_if (by omega)]
  have hp0 := szI_le (by simp only [bls] at hc; exact hc)
  rw [hp0.1] at hc ⊢
  refine ⟨_, c_szFunES hy (by omega) (by omega), fun hc => ⟨?_, .refl v⟩, fun hc => ?_⟩
  · simp only [bls] at hc
    obtain ⟨e1, e2⟩ := szI_neg hc
    rw [szI_if (by omega)]
  have hp2 := szI_le (by simp only [bls] at hc; exact hc)
  refine ⟨?_, .refl v⟩
  rw [hp2.1, szI_eq (by omega)]
  congr 1
  omega
theorem c_toProgram (hx : Read v x ds) (hy : Read v y fs) : Mk Tryz.prog 12 #[.agg #[x.val, y.val]] v fun r J => ∃ (a b : Sl) (J1 J2 : Items), r = .agg #[a.val, b.val] ∧ OwnD a ds J1 ∧ OwnD b fs J2 ∧ J = J1 ++ J2 := by
  refine of12 _ _ _ _ ?_
  unfold vc12
  refine Mk.use (c_toDeclS hx) (.refl v) ?_
  rintro _ w1 J1 ⟨y1, rfl, o1⟩ hS _
  refine ⟨_, rfl, ?_⟩
  refine Mk.use (c_toFunES hy) hS ?_
  rintro _ w2 J2 ⟨y2, rfl, o2⟩ hS _
  refine ⟨_, rfl, ?_⟩
  exact ⟨J1 ++ J2, (hS.to : St v w2 (J1 ++ (J2 ++ []))).perm (by simp), y1, y2, J1, J2, rfl, o1, o2, rfl⟩
theorem c_eqProgram (hx : Read v x ds) (hy : Read v y fs) (hx' : Read v x' ds') (hy' : Read v y' fs') : Fn Tryz.prog 14 #[.agg #[x.val, y.val], .agg #[x'.val, y'.val]] v (.bool (decide (ds = ds') && decide (fs = fs'))) := by
  refine of14 _ _ _ _ _ _ ?_
  unfold vc14
  refine ⟨_, c_eqDeclS hx hx', fun hc => ⟨?_, .refl v⟩, fun hc => ?_⟩
  · simp only [bls] at hc
    rw [decide_eq_false hc]; rfl
  have e1 : ds = ds' := by simpa using hc
  refine ⟨_, c_eqFunES hy hy', fun hc => ⟨?_, .refl v⟩, fun hc => ?_⟩
  · simp only [bls] at hc
    rw [decide_eq_false hc, Bool.and_false]
  have e2 : fs = fs' := by simpa using hc
  exact ⟨by rw [decide_eq_true e1, decide_eq_true e2]; rfl, .refl v⟩
theorem l_ExactFormatProgram (hT : Tab v) (hx : ReadB BM v x ds) (hy : ReadB BM v y fs) :
    Trip Tryz.prog 3 #[.agg #[x.val, y.val]] v fun r v' => r = .bool true ∧ Sub v v' := by
  refine of3 _ _ _ _ ?_
  unfold vc3
  refine ⟨_, c_szProgram (b := 1048576) hx hy (by omega) (by omega), fun hc => ⟨rfl, .refl v⟩, fun hc => ?_⟩
  simp only [bls] at hc
  obtain ⟨b1, b2⟩ := szI_le hc
  replace hx : Read v x ds := hx.shr (by omega)
  replace hy : Read v y fs := hy.shr (by omega)
  refine Mk.use (c_toProgram hx hy) (.refl v) ?_
  rintro _ w1 _ ⟨p1, q1, J1, J2, rfl, o1, o2, rfl⟩ hS _
  replace hS : St v w1 (J1 ++ (J2 ++ [])) := by simpa using hS
  refine ⟨_, _, rfl, _, c_specFormatProgram (o1.read hS) (o2.read hS), ?_⟩
  refine Mk.use (c_toProgram hx hy) hS ?_
  rintro _ w3 _ ⟨p2, q2, J3, J4, rfl, o3, o4, rfl⟩ hS _
  replace hS : St v w3 (J3 ++ (J4 ++ (J1 ++ (J2 ++ [])))) := by simpa using hS
  refine ⟨_, _, rfl, _, c_implFormatProgram (hT.mono hS.sub) (o3.read hS) (o4.read hS), fun hc => (by rw [seq_self] at hc; cases hc), fun _ => ?_⟩
  refine Mk.use (c_toProgram hx hy) hS ?_
  rintro _ w5 _ ⟨p3, q3, J5, J6, rfl, o5, o6, rfl⟩ hS hsub
  replace hS : St v w5 (J5 ++ (J6 ++ (J3 ++ (J4 ++ (J1 ++ (J2 ++ [])))))) := by simpa using hS
  refine ⟨_, _, rfl, hsub, _, c_eqProgram (o3.read hS) (o4.read hS) (o5.read hS) (o6.read hS), fun hc => ?_, fun _ => ⟨rfl, hS.sub⟩⟩
  simp at hc
end
end Go.Vc
