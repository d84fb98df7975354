/- Part of the proofs about the heaps and memories: a law is joined in the text whose name ends in W and the law. -/
import Derived.Shelf.LaysM
import Derived.Shelf.Strconv.Itoa3
import Derived.Test.YtelgbndeeccblaaGreatDoorProg
import Derived.Test.YtelgbndeeccblaaGreatDoorET2
set_option linter.all false
namespace Go.Proofs
open Go.Shelf
def Tryz.laysM171_ren:Go.Shelf.Ren:=⟨fun|171=>38|243=>81|246=>144|283=>184|284=>185|285=>186|286=>187|129=>219|317=>218|318=>220|319=>221|320=>222|337=>246|338=>247|n=>n,fun|3=>3|9=>9|2=>2|4=>4|171=>198|0=>0|53=>199|37=>39|5=>5|173=>202|212=>233|51=>234|20=>20|213=>235|46=>236|232=>265|233=>266|n=>n,fun|17=>0|18=>6|19=>7|n=>n⟩
theorem Tryz.laysM171:Go.Proofs.LaysM.n171 Tryz.prog Tryz.laysM171_ren:={
 mixed:=by kernel_rfl
 f129:=Tryz.func219.trans (congrArg some (by kernel_rfl))
 f171:=Tryz.func38.trans (congrArg some (by kernel_rfl))
 f243:=Tryz.func81.trans (congrArg some (by kernel_rfl))
 f246:=Tryz.func144.trans (congrArg some (by kernel_rfl))
 f283:=Tryz.func184.trans (congrArg some (by kernel_rfl))
 f284:=Tryz.func185.trans (congrArg some (by kernel_rfl))
 f285:=Tryz.func186.trans (congrArg some (by kernel_rfl))
 f286:=Tryz.func187.trans (congrArg some (by kernel_rfl))
 f317:=Tryz.func218.trans (congrArg some (by kernel_rfl))
 f318:=Tryz.func220.trans (congrArg some (by kernel_rfl))
 f319:=Tryz.func221.trans (congrArg some (by kernel_rfl))
 f320:=Tryz.func222.trans (congrArg some (by kernel_rfl))
 f337:=Tryz.func246.trans (congrArg some (by kernel_rfl))
 f338:=Tryz.func247.trans (congrArg some (by kernel_rfl))
 t0:=Tryz.underlying0
 a0:=Tryz.isAgg0
 z0:=Tryz.sizeOf0
 v0:=Tryz.zeroValue0
 t2:=Tryz.underlying2
 a2:=Tryz.isAgg2
 z2:=Tryz.sizeOf2
 v2:=Tryz.zeroValue2
 t3:=Tryz.underlying3
 a3:=Tryz.isAgg3
 z3:=Tryz.sizeOf3
 v3:=Tryz.zeroValue3
 t4:=Tryz.underlying4
 a4:=Tryz.isAgg4
 z4:=Tryz.sizeOf4
 v4:=Tryz.zeroValue4
 t5:=Tryz.underlying5
 a5:=Tryz.isAgg5
 z5:=Tryz.sizeOf5
 v5:=Tryz.zeroValue5
 t9:=Tryz.underlying9
 a9:=Tryz.isAgg9
 z9:=Tryz.sizeOf9
 v9:=Tryz.zeroValue9
 t20:=Tryz.underlying20
 a20:=Tryz.isAgg20
 z20:=Tryz.sizeOf20
 v20:=Tryz.zeroValue20
 t37:=Tryz.underlying39
 a37:=Tryz.isAgg39
 z37:=Tryz.sizeOf39
 v37:=Tryz.zeroValue39
 t46:=Tryz.underlying236
 a46:=Tryz.isAgg236
 z46:=Tryz.sizeOf236
 v46:=Tryz.zeroValue236
 t51:=Tryz.underlying234
 a51:=Tryz.isAgg234
 z51:=Tryz.sizeOf234
 v51:=Tryz.zeroValue234
 t53:=Tryz.underlying199
 a53:=Tryz.isAgg199
 z53:=Tryz.sizeOf199
 v53:=Tryz.zeroValue199
 t171:=Tryz.underlying198
 a171:=Tryz.isAgg198
 z171:=Tryz.sizeOf198
 v171:=Tryz.zeroValue198
 t173:=Tryz.underlying202
 a173:=Tryz.isAgg202
 z173:=Tryz.sizeOf202
 v173:=Tryz.zeroValue202
 t212:=Tryz.underlying233
 a212:=Tryz.isAgg233
 z212:=Tryz.sizeOf233
 v212:=Tryz.zeroValue233
 t213:=Tryz.underlying235
 a213:=Tryz.isAgg235
 z213:=Tryz.sizeOf235
 t232:=Tryz.underlying265
 a232:=Tryz.isAgg265
 z232:=Tryz.sizeOf265
 v232:=Tryz.zeroValue265
 t233:=Tryz.underlying266
 a233:=Tryz.isAgg266
 z233:=Tryz.sizeOf266
 v233:=Tryz.zeroValue266
 g17:=by kernel_rfl
 g18:=by kernel_rfl
 g19:=by kernel_rfl
 i0:=by kernel_rfl
 i2:=by kernel_rfl
 i3:=by kernel_rfl
 i4:=by kernel_rfl
 i5:=by kernel_rfl
 i9:=by kernel_rfl
 i20:=by kernel_rfl
 i37:=by kernel_rfl
 i46:=by kernel_rfl
 i51:=by kernel_rfl
 i53:=by kernel_rfl
 i171:=by kernel_rfl
 i173:=by kernel_rfl
 i212:=by kernel_rfl
 i232:=by kernel_rfl
 i233:=by kernel_rfl
 m17:=by kernel_rfl
 m18:=by kernel_rfl
 m19:=by kernel_rfl }
open Go.RowKit Go.Sort Go.Lib in
theorem Tryz.strconv_Itoa (n:Int) (h0:-9223372036854775808≤n) (h1:n≤9223372036854775807) (w:World) (htab:Lib.TabIs Tryz.prog w "internal/strconv.uint64pow10" .u64 Lib.pow10Tab):
  Calls Tryz.prog 38 #[.int .i64 n] w fun e w'=>e=.returned (.string ⟨(Lib.itoa n).toArray⟩)∧∃ k os,w'=grow (w.drewN k) os:=Any.strconv_Itoa Tryz.laysM171 n h0 h1 w htab
end Go.Proofs
namespace Go.Vc
open Go Go.Proofs Go.RowKit Go.Sort
def Tab (v:World):Prop:=Lib.TabIs Tryz.prog v "internal/strconv.uint64pow10" .u64 Lib.pow10Tab
theorem Tab.mono {v w:World} (h:Tab v) (hs:Sub v w):Tab w:=by
  unfold Tab Lib.TabIs World.var? at *
  cases hg:Tryz.prog.globalNamed "internal/strconv.uint64pow10" with
  | none=>rw [hg] at h;cases h
  | some g=>
    rw [hg] at h
    simp only [Option.bind_some] at h ⊢
    cases ho:v.heap[g]? with
    | none=>rw [ho] at h;cases h
    | some o=>
      have hne:o≠absent:=by
        rintro rfl
        rw [ho] at h
        cases h
      rw [hs.at_ g o ho hne]
      rw [ho] at h
      exact h
theorem fr_grown {v W:World} {k:Nat} {os:Array Obj} (hs:Sub v W):Fr v W v (grow (W.drewN k) os):=by
  have hb:Below W.heap.size W (grow (W.drewN k) os):=⟨rfl,rfl,rfl,by show W.heap.size≤(W.heap++os).size;rw [Array.size_append];omega,fun _ hj=>heap_grow_old (W.drewN k) os hj⟩
  refine ⟨⟨Nat.le_trans hs.size hb.size,fun b o ho hne=>?_⟩,hb.size,hb.os,hb.tape,hb.output,fun b hlt hO=>⟨hO,hb.block b hlt⟩⟩
  have h1:=hs.at_ b o ho hne
  rw [hb.block b (getElem?_lt h1)]
  exact h1
theorem c_Itoa {v:World} {n:Int} (hT:Tab v) (hn:InI n):Fn Tryz.prog 38 #[.int .i64 n] v (.string (str (Lib.itoa n))):=by
  refine ⟨fun w=>callFunc_enter Tryz.func38 (by kernel_rfl) rfl _ _,fun W hs=>?_⟩
  refine (Tryz.strconv_Itoa n hn.1 hn.2 W (hT.mono hs)).mono ?_
  rintro e W' ⟨rfl,k,os,rfl⟩
  exact ⟨_,v,rfl,fr_grown hs,rfl,.refl v⟩
theorem showL_len {l:List ExprD} (h:canL l=true):(showL l).length≤13 * nodesL l:=by
  induction l with
  | nil=>rw [showL_nil];simp
  | cons a r ih=>
    rw [canL_cons,Bool.and_eq_true] at h
    have h1:=show_len a h.1
    have h2:=ih h.2
    rw [showL_cons,nodesL_cons]
    simp only [List.length_cons,List.length_append]
    omega
theorem nodesL_take (l:List ExprD) (i:Nat):nodesL l=nodesL (l.take i)+nodesL (l.drop i):=by rw [←nodesL_app,List.take_append_drop]
theorem str_data (l:List UInt8):(str l).data.toList=l:=by simp [str]
def WrP (e:ExprD):Prop:=∀ (u w:World) (f:Sl) (b:Nat) (l:List UInt8) (I R:Items),Tab u→Read u f e.kids→InI e.num→BldT b l I→St u w (I++R)→l.length+40 * nodesE e≤1000000→
  Trip Tryz.prog 55 #[.pointer (some ((⟨b,0,none⟩:Addr).add 0)),.agg #[.int .i64 e.op,.int .i64 e.num,f.val]] w fun r w'=>∃ I' m,r=.bool (canE e)∧BldT b (l++m) I'∧St u w' (I'++R)∧m.length≤40 * nodesE e∧(canE e=true→m=showE e)
theorem c_writeExpr (e:ExprD):WrP e:=by
  refine ex_ind (P:=WrP) (fun e ih=>?_) e
  intro u w f b l I R hT hf hin hB hS hlen
  refine of55 _ _ _ _ _ _ ?_
  unfold vc55
  have hn:=hf.n
  have hl:=hf.le
  have hnl:=itoa_len hin
  rw [nodesE_eq] at hlen ⊢
  have hk0:e.kids.length=0→canL e.kids=true:=fun h=>by rw [List.eq_nil_of_length_eq_zero h,canL_nil]
  refine ⟨fun hc=>?_,fun hc=>⟨fun hd=>?_,fun hd=>?_⟩⟩
  · simp only [bls] at hc
    refine ⟨_,c_Itoa (hT.mono hS.sub) hin,?_⟩
    refine (c_WriteString hB hS (by rw [str_size];omega)).mono' ?_
    rintro _ w1 ⟨rfl,I1,hB1,hS1⟩
    rw [str_data] at hB1
    refine ⟨_,⟨.nilIface,rfl⟩,rfl,_,fun _=>c_isIntI,I1,_,?_,hB1,hS1,by omega,fun _=>?_⟩
    · congr 1
      rw [canE_eq,Bool.eq_iff_iff]
      simp only [Bool.and_eq_true,okN_iff,decide_eq_true_eq]
      constructor
      · rintro ⟨h1,h2,h3⟩
        exact ⟨by omega,hk0 (by omega)⟩
      · rintro ⟨h1,_⟩
        omega
    · rw [showE_eq,if_pos hc]
  · simp only [bls] at hc hd
    refine ⟨_,c_Itoa (hT.mono hS.sub) hin,?_,?_⟩
    · rw [str_size]
      show ((1+_:Nat):Int)≤_
      omega
    refine (c_WriteString hB hS (by rw [ByteArray.size_append,str_size];show _+(1+_)≤_;omega)).mono' ?_
    rintro _ w1 ⟨rfl,I1,hB1,hS1⟩
    rw [str_eq (l:=[118]) rfl,←str_app,str_data] at hB1
    refine ⟨_,⟨.nilIface,rfl⟩,rfl,I1,_,?_,hB1,hS1,by simp only [List.length_append,List.length_cons,List.length_nil];omega,fun _=>?_⟩
    · congr 1
      rw [canE_eq,Bool.eq_iff_iff]
      simp only [Bool.and_eq_true,okN_iff,decide_eq_true_eq]
      constructor
      · rintro ⟨h1,h2,h3⟩
        exact ⟨by omega,hk0 (by omega)⟩
      · rintro ⟨h1,_⟩
        omega
    · rw [showE_eq,if_neg hc,if_pos hd]
      rfl
  · simp only [bls] at hc hd
    have hw:=word_len e.op
    refine ⟨_,_,c_exprWords,?_,?_⟩
    · rw [str_size]
      show ((1+_:Nat):Int)≤_
      omega
    refine (c_WriteString hB hS (by rw [ByteArray.size_append,str_size];show _+(1+_)≤_;omega)).mono' ?_
    rintro _ w1 ⟨rfl,I1,hB1,hS1⟩
    rw [str_eq (l:=[40]) rfl,←str_app,str_data] at hB1
    have hemp:((str (wordE e.op)).toList == (ByteArray.mk #[]).toList)=decide (wordE e.op=[]):=by
      rw [ByteArray.toList_eq,ByteArray.toList_eq,str_data]
      show (wordE e.op == [])=_
      cases wordE e.op<;>rfl
    rw [hemp]
    have hwe:wordE e.op=[]↔¬(1≤e.op∧e.op≤13∧e.op≠12):=by
      constructor
      · intro h hh
        rcases op14 (op:=e.op) (by omega) (by omega) with h1|h1|h1|h1|h1|h1|h1|h1|h1|h1|h1|h1|h1|h1<;>first|omega|(rw [h1] at h;cases h)
      · intro h
        unfold wordE
        rw [if_neg (by omega),if_neg (by omega),if_neg (by omega),if_neg (by omega),if_neg (by omega),if_neg (by omega),if_neg (by omega),if_neg (by omega),if_neg (by omega),if_neg (by omega),if_neg (by omega),if_neg (by omega)]
    refine ⟨_,⟨.nilIface,rfl⟩,rfl,fun hq=>?_,fun hq=>?_⟩
    · have hok:okN e.op e.num e.kids.length=false:=by
        simp only [bls,hwe,numE_iff,numE_f] at hq
        rw [okN_f]
        omega
      have hcf:canE e=false:=by rw [canE_eq,hok,Bool.false_and]
      exact ⟨I1,_,by rw [hcf],hB1,hS1,by simp only [List.length_append,List.length_cons,List.length_nil];omega,fun hcan=>by rw [hcf] at hcan;cases hcan⟩
    have hok:okN e.op e.num e.kids.length=true:=by
      simp only [bls,hwe,numE_iff,numE_f] at hq
      rw [okN_iff]
      omega
    have hce:canE e=canL e.kids:=by rw [canE_eq,hok,Bool.true_and]
    have hsh:∀ P0:List UInt8,P0=40 ::(wordE e.op++(if numE e.op then Lib.itoa e.num else []))→showE e=P0++showL e.kids++[41]:=by
      rintro _ rfl
      rw [showE_eq,if_neg hc,if_neg hd]
      simp
    
    have loop:∀ (P0:List UInt8) (w2:World) (I2:Items),P0=40 ::(wordE e.op++(if numE e.op then Lib.itoa e.num else []))→BldT b (l++P0) I2→St u w2 (I2++R)→P0.length≤26→
        ∃ I,BldT b (l++(P0++showL (e.kids.take (Int.toNat 0)))) I∧St u w2 (I++R)∧(0:Int)≤0∧(0:Int)≤e.kids.length∧canL (e.kids.take (Int.toNat 0))=true:=by
      intro P0 w2 I2 h0 hB2 hS2 _
      exact ⟨I2,by simpa [showL_nil] using hB2,hS2,by omega,by omega,by simp [canL_nil]⟩
    refine ⟨fun hnum=>?_,fun hnum=>?_⟩
    · refine ⟨_,c_Itoa (hT.mono hS1.sub) hin,?_⟩
      refine (c_WriteString hB1 hS1 (by rw [str_size];simp only [List.length_append,List.length_cons,List.length_nil];omega)).mono' ?_
      rintro _ w2 ⟨rfl,I2,hB2,hS2⟩
      rw [str_data,List.append_assoc] at hB2
      refine ⟨_,⟨.nilIface,rfl⟩,rfl,?_⟩
      have hP:([40]++wordE e.op++Lib.itoa e.num)=40 ::(wordE e.op++(if numE e.op then Lib.itoa e.num else [])):=by rw [if_pos hnum];rfl
      have hPl:([40]++wordE e.op++Lib.itoa e.num).length≤26:=by simp only [List.length_append,List.length_cons,List.length_nil];omega
      have hsh:=hsh _ hP
      have hI:=loop _ w2 I2 hP hB2 hS2 hPl
      clear loop hB1 hB2 hS1 hS2
      generalize hPe:([40]++wordE e.op++Lib.itoa e.num)=P0 at hI hsh hPl
      refine ⟨fun i w=>∃ I,BldT b (l++(P0++showL (e.kids.take i.toNat))) I∧St u w (I++R)∧0≤i∧i≤e.kids.length∧canL (e.kids.take i.toNat)=true,fun i _=>(e.kids.length - i).toNat,hI,?_⟩
      clear hI
      rintro i w3 ⟨I3,hB3,hS3,i0,i1,hcl⟩
      dsimp only
      have hsl:=showL_len hcl
      have hnt:=nodesL_take e.kids i.toNat
      refine ⟨fun hi=>?_,fun hi=>?_⟩
      · simp only [bls] at hi
        have hil:i < e.kids.length:=by omega
        have hm:=nth_mem (l:=e.kids) i0 hil
        obtain ⟨g,e1,e2,e3,j1,j2,rg⟩:=(hf.src hS3.sub).ofExprD i0 hil
        refine go_ix hf i0 hil ?_
        refine ⟨_,_,g,⟨e1,e2,e3⟩,?_⟩
        rw [nodesL_drop i0 hil] at hnt
        refine (c_WriteString (s:=ByteArray.mk #[32]) hB3 hS3 (by show _+1≤_;simp only [List.length_append];omega)).mono' ?_
        rintro _ w4 ⟨rfl,I4,hB4,hS4⟩
        refine ⟨_,⟨.nilIface,rfl⟩,rfl,?_⟩
        refine (ih _ hm u w4 g b _ I4 R hT rg j2 hB4 hS4 (by simp only [List.length_append,List.length_cons,List.length_nil];omega)).mono' ?_
        rintro _ w5 ⟨I5,mk,rfl,hB5,hS5,hm5,hm6⟩
        refine ⟨_,rfl,fun hq=>?_,fun hq=>?_⟩
        · simp only [bls] at hq
          have hcf:canE e=false:=by
            rw [hce]
            cases hh:canL e.kids
            · rfl
            · rw [canL_mem hh _ hm] at hq;cases hq
          refine ⟨I5,P0++showL (e.kids.take i.toNat)++[32]++mk,by rw [hcf],by simpa [List.append_assoc] using hB5,hS5,by simp only [List.length_append,List.length_cons,List.length_nil];omega,fun hh=>by rw [hcf] at hh;cases hh⟩
        · simp only [bls] at hq
          have hmk:=hm6 hq
          refine go_wr (by omega) (by omega) ?_
          refine ⟨rfl,rfl,rfl,⟨I5,?_,hS5,by omega,by omega,?_⟩,by omega⟩
          · rw [take_nth i0 hil,showL_app,showL_cons,showL_nil,←hmk]
            simpa [List.append_assoc] using hB5
          · rw [take_nth i0 hil,canL_app,hcl,canL_cons,canL_nil,hq]
            rfl
      · simp only [bls] at hi
        rw [take_all (by omega)] at hB3 hcl hsl
        refine (c_WriteString (s:=ByteArray.mk #[41]) hB3 hS3 (by show _+1≤_;simp only [List.length_append];omega)).mono' ?_
        rintro _ w4 ⟨rfl,I4,hB4,hS4⟩
        refine ⟨_,⟨.nilIface,rfl⟩,rfl,I4,P0++showL e.kids++[41],?_,by simpa [List.append_assoc] using hB4,hS4,by simp only [List.length_append,List.length_cons,List.length_nil];omega,fun _=>hsh.symm⟩
        rw [hce,hcl]
    · refine ⟨fun i w=>∃ I,BldT b (l++(([40]++wordE e.op)++showL (e.kids.take i.toNat))) I∧St u w (I++R)∧0≤i∧i≤e.kids.length∧canL (e.kids.take i.toNat)=true,fun i _=>(e.kids.length - i).toNat,loop ([40]++wordE e.op) w1 I1 (by rw [if_neg (by rw [hnum];simp)];simp) hB1 hS1 (by simp only [List.length_append,List.length_cons,List.length_nil];omega),?_⟩
      have hP:([40]++wordE e.op)=40 ::(wordE e.op++(if numE e.op then Lib.itoa e.num else [])):=by rw [if_neg (by rw [hnum];simp)];simp
      have hPl:([40]++wordE e.op).length≤26:=by simp only [List.length_append,List.length_cons,List.length_nil];omega
      have hsh:=hsh _ hP
      clear loop hB1 hS1
      generalize hPe:([40]++wordE e.op)=P0 at hsh hPl ⊢
      rintro i w3 ⟨I3,hB3,hS3,i0,i1,hcl⟩
      dsimp only
      have hsl:=showL_len hcl
      have hnt:=nodesL_take e.kids i.toNat
      refine ⟨fun hi=>?_,fun hi=>?_⟩
      · simp only [bls] at hi
        have hil:i < e.kids.length:=by omega
        have hm:=nth_mem (l:=e.kids) i0 hil
        obtain ⟨g,e1,e2,e3,j1,j2,rg⟩:=(hf.src hS3.sub).ofExprD i0 hil
        refine go_ix hf i0 hil ?_
        refine ⟨_,_,g,⟨e1,e2,e3⟩,?_⟩
        rw [nodesL_drop i0 hil] at hnt
        refine (c_WriteString (s:=ByteArray.mk #[32]) hB3 hS3 (by show _+1≤_;simp only [List.length_append];omega)).mono' ?_
        rintro _ w4 ⟨rfl,I4,hB4,hS4⟩
        refine ⟨_,⟨.nilIface,rfl⟩,rfl,?_⟩
        refine (ih _ hm u w4 g b _ I4 R hT rg j2 hB4 hS4 (by simp only [List.length_append,List.length_cons,List.length_nil];omega)).mono' ?_
        rintro _ w5 ⟨I5,mk,rfl,hB5,hS5,hm5,hm6⟩
        refine ⟨_,rfl,fun hq=>?_,fun hq=>?_⟩
        · simp only [bls] at hq
          have hcf:canE e=false:=by
            rw [hce]
            cases hh:canL e.kids
            · rfl
            · rw [canL_mem hh _ hm] at hq;cases hq
          refine ⟨I5,P0++showL (e.kids.take i.toNat)++[32]++mk,by rw [hcf],by simpa [List.append_assoc] using hB5,hS5,by simp only [List.length_append,List.length_cons,List.length_nil];omega,fun hh=>by rw [hcf] at hh;cases hh⟩
        · simp only [bls] at hq
          have hmk:=hm6 hq
          refine go_wr (by omega) (by omega) ?_
          refine ⟨rfl,rfl,rfl,⟨I5,?_,hS5,by omega,by omega,?_⟩,by omega⟩
          · rw [take_nth i0 hil,showL_app,showL_cons,showL_nil,←hmk]
            simpa [List.append_assoc] using hB5
          · rw [take_nth i0 hil,canL_app,hcl,canL_cons,canL_nil,hq]
            rfl
      · simp only [bls] at hi
        rw [take_all (by omega)] at hB3 hcl hsl
        refine (c_WriteString (s:=ByteArray.mk #[41]) hB3 hS3 (by show _+1≤_;simp only [List.length_append];omega)).mono' ?_
        rintro _ w4 ⟨rfl,I4,hB4,hS4⟩
        refine ⟨_,⟨.nilIface,rfl⟩,rfl,I4,P0++showL e.kids++[41],?_,by simpa [List.append_assoc] using hB4,hS4,by simp only [List.length_append,List.length_cons,List.length_nil];omega,fun _=>hsh.symm⟩
        rw [hce,hcl]
theorem c_FormatExpr {v:World} {f:Sl} {e:ExprD} (hT:Tab v) (hf:Read v f e.kids) (hin:InI e.num):Fn Tryz.prog 20 #[.agg #[.int .i64 e.op,.int .i64 e.num,f.val]] v (.string (str (fmtE e))):=by
  refine of20 _ _ _ _ _ ?_
  unfold vc20
  unfold fmtE
  refine ⟨_,c_NodesOf hf,fun hq=>⟨?_,.refl v⟩,fun hq=>?_⟩
  · simp only [bls] at hq
    rw [if_neg]
    · rfl
    rintro ⟨h1,_⟩
    rw [if_pos h1] at hq
    omega
  simp only [bls] at hq
  have h1:nodesE e≤30:=Classical.byContradiction fun hh=>by rw [if_neg hh] at hq;omega
  intro g w5 hg hs ho
  have hS:=(St.refl v).new hg hs ho (by simp [absent])
  have hB:BldT g [] [(g,.cells #[.pointer none,.slice none 0 0] 59 (0,0))]:=⟨_,_,[],.inl rfl,rfl,.inl ⟨rfl,rfl,rfl⟩⟩
  refine (c_writeExpr e v w5 f g [] _ [] hT hf hin hB hS (by simp;omega)).mono' ?_
  rintro _ w6 ⟨I1,m,rfl,hB1,hS1,hm1,hm2⟩
  refine ⟨_,rfl,fun hq=>⟨?_,hS1.sub⟩,fun hq=>?_⟩
  · simp only [bls] at hq
    rw [if_neg]
    · rfl
    rintro ⟨_,h2⟩
    rw [h2] at hq;cases hq
  · simp only [bls] at hq
    rw [hm2 hq,List.nil_append] at hB1
    refine (c_BString hB1 hS1 ?_).mono' ?_
    · rw [showE_eq]
      split
      · intro h
        have:=congrArg List.length h
        unfold Lib.itoa at this
        split at this
        · cases this
        · rw [Lib.decDigits_length] at this
          have:=Lib.nDigits_pos e.num.toNat
          simp at *
          omega
      split<;>simp
    rintro _ w7 ⟨rfl,hS7⟩
    refine ⟨_,rfl,?_,hS7.sub⟩
    rw [if_pos ⟨h1,hq⟩]
end Go.Vc
