/- Part of the proofs about the heaps and memories: a law is joined in the text whose name ends in W and the law. -/
import Derived.Test.YtelgbndeeccblaaGreatDoorEG4
import Derived.Test.YtelgbndeeccblaaGreatDoorEP5
set_option linter.all false
namespace Go.Vc
open Go Go.Proofs Go.RowKit
theorem VOf.mono {α:Type} [Dat α] {u u':World} {v:Value} {e:α} (h:VOf u v e) (hs:Sub u u'):VOf u' v e:=⟨h.1,Dat.mono hs h.2⟩
section
variable {u u' u0 v w:World} {x y z s tx x1 x2 x3:Sl} {ds:List DeclD} {fs:List FunD} {a:Addr} {I J L R:Items} {F:Items→Items} {m m' N N' N1 N2 N3 n n1 n2 k1 k2 l1 l2 op num t b f at_:Int} {vars types:List Int} {ks:List ExprD} {e:ExprD}
theorem GS.split {α:Type} [DatO α] {l:List α} (h:GS u a (J++R) m w) (hO:OwnD x l J):∃ u' J0,Sub u u'∧GS u' a (J0++R) m w∧Own u' x l J0:=by
 obtain ⟨rows,I0,Is,E,h1,h2,h3,h4,h5,h6⟩:=hO
 obtain ⟨I,hR,hS⟩:=h
 have hS:St u w ((Is.flatten++E)++(I++(I0++R))):=hS.perm (by
  classical
  exact List.perm_iff_count.2 fun a=>by have:=h5.count_eq a;simp only [List.count_append] at *;omega)
 obtain ⟨u2,hu,hS2,hJ⟩:=hS.freeze (Is.flatten++E)
 refine ⟨u2,I0,hu,⟨I,hR.mono hu,hS2⟩,rows,h1,⟨h2,fun i r b hr hb=>?_⟩,h6⟩
 have hlt:i < Is.length:=by
  have:=(List.getElem?_eq_some_iff.1 hr).1
  omega
 have hI:=List.getElem?_eq_getElem hlt
 refine DatO.read (h4 i r b _ hr hb hI) fun p hp=>hJ.at_ p ?_
 exact List.mem_append_left _ (List.mem_flatten.2 ⟨_,List.getElem_mem hlt,hp⟩)
def EW (u:World) (n1 n2:Int) (x:Sl):Prop:=∃ e:ExprD,n1=e.op∧n2=e.num∧Read u x e.kids∧InI e.op∧InI e.num
theorem EW.mono (h:EW u n1 n2 x) (hs:Sub u u'):EW u' n1 n2 x:=let ⟨e,h1,h2,h3,h4⟩:=h;⟨e,h1,h2,h3.mono hs,h4⟩
theorem EW.mk (h1:InI op) (h2:InI num) (hx:Read u x ks):EW u op num x:=⟨⟨op,num,ks⟩,rfl,rfl,hx,h1,h2⟩
end
end Go.Vc
namespace Go.Vc
open Go Go.Proofs Go.RowKit
section
variable {u u' v w:World} {x y z s x1:Sl} {a:Addr} {I J L R:Items} {m n n1 n2 op num:Int} {bs:List UInt8} {ks:List ExprD} {e:ExprD}
theorem GS.start {code:List UInt8} {K:Addr→World→Prop} (hx:Read v x code) (k:∀ a w',GS v a [] 0 w'→K a w'):Trip Tryz.prog 54 #[x.val] v fun r w'=>∃ a:Addr,r=.pointer (some (a.add 0))∧K a w':=by
 refine Mk.use (c_newReader hx) (.refl v) ?_
 rintro _ w1 J1 ⟨a,rfl,hR⟩ hS _
 exact ⟨a,rfl,k a w1 ⟨J1,hR,hS⟩⟩
end
end Go.Vc
namespace Go.Vc
open Go Go.Proofs Go.RowKit
section
variable {u u' v w:World} {x y z s x1:Sl} {a:Addr} {I J L R:Items} {m n n1 n2 op num:Int} {bs l:List UInt8} {ks:List ExprD} {e:ExprD} {ds:List DeclD} {fs:List FunD}
theorem dec_mem:∀ (k:Nat) (b:UInt8),b∈Lib.decDigits k→b≠10:=by
 intro k
 induction k using Nat.strongRecOn with
 | _ k ih=>
  intro b hb
  have one:∀ i:Fin 10,UInt8.ofNat (48+i.val)≠10:=by decide
  by_cases h:k < 10
  ·rw [Lib.decDigits_one h] at hb
   rw [List.mem_singleton.1 hb]
   exact one ⟨k,h⟩
  ·rw [Lib.decDigits,dif_neg h] at hb
   rcases List.mem_append.1 hb with hb|hb
   ·exact ih _ (by omega) b hb
   ·rw [List.mem_singleton.1 hb]
    exact one ⟨k % 10,by omega⟩
theorem itoa_nl (n:Int):∀ b∈Lib.itoa n,b≠10:=by
 intro b hb
 unfold Lib.itoa at hb
 split at hb
 ·rcases List.mem_cons.1 hb with rfl|hb
  ·decide
  ·exact dec_mem _ b hb
 ·exact dec_mem _ b hb
theorem join_nl:∀ l:List Int,∀ b∈Lib.join (l.map Lib.itoa) [44],b≠10:=by
 intro l b hb
 cases l with
 | nil=>simp [Lib.join_nil] at hb
 | cons n r=>
  rw [List.map_cons,Lib.join_cons,List.mem_append] at hb
  rcases hb with hb|hb
  ·exact itoa_nl n b hb
  ·unfold Lib.joinTail at hb
   obtain ⟨q,hq,hbq⟩:=List.mem_flatten.1 hb
   obtain ⟨t,ht,rfl⟩:=List.mem_map.1 hq
   obtain ⟨k,_,rfl⟩:=List.mem_map.1 ht
   rcases List.mem_append.1 hbq with hbq|hbq
   ·rw [List.mem_singleton.1 hbq];decide
   ·exact itoa_nl k b hbq
theorem shN_nl (l:List Int):∀ b∈shN l,b≠10:=by
 intro b hb
 unfold shN at hb
 rcases List.mem_cons.1 hb with rfl|hb
 ·decide
 rcases List.mem_append.1 hb with hb|hb
 ·exact join_nl l b hb
 ·rw [List.mem_singleton.1 hb];decide
theorem ite_nl {p:Prop} [Decidable p] {a b:List UInt8} (ha:∀ x∈a,x≠(10:UInt8)) (hb:∀ x∈b,x≠(10:UInt8)):∀ x∈(if p then a else b),x≠(10:UInt8):=by
 by_cases h:p
 ·rw [if_pos h];exact ha
 ·rw [if_neg h];exact hb
theorem word_nl (op:Int):∀ b∈wordE op,b≠10:=by
 unfold wordE
 repeat (refine ite_nl (by decide) ?_)
 decide
theorem show_nl (e:ExprD):∀ b∈showE e,b≠10:=by
 refine ex_ind (P:=fun e=>∀ b∈showE e,b≠10) (fun e ih=>?_) e
 have hL:∀ ks:List ExprD,(∀ k∈ks,∀ b∈showE k,b≠10)→∀ b∈showL ks,b≠10:=by
  intro ks
  induction ks with
  | nil=>intro _ b hb;rw [showL_nil] at hb;cases hb
  | cons k r ihr=>
   intro h b hb
   rw [showL_cons] at hb
   rcases List.mem_cons.1 hb with rfl|hb
   ·decide
   rcases List.mem_append.1 hb with hb|hb
   ·exact h k List.mem_cons_self b hb
   ·exact ihr (fun k hk=>h k (List.mem_cons_of_mem _ hk)) b hb
 intro b hb
 rw [showE_eq] at hb
 split at hb
 ·exact itoa_nl _ b hb
 split at hb
 ·rcases List.mem_cons.1 hb with rfl|hb
  ·decide
  ·exact itoa_nl _ b hb
 ·rcases List.mem_cons.1 hb with rfl|hb
  ·decide
  rcases List.mem_append.1 hb with hb|hb
  ·rcases List.mem_append.1 hb with hb|hb
   ·rcases List.mem_append.1 hb with hb|hb
    ·exact word_nl _ b hb
    ·split at hb
     ·exact itoa_nl _ b hb
     ·cases hb
   ·exact hL _ ih b hb
  ·rw [List.mem_singleton.1 hb];decide
theorem cnt0 (h:∀ b∈l,b≠(10:UInt8)):l.count 10=0:=List.count_eq_zero.2 fun hm=>h 10 hm rfl
theorem shD_cnt (d:DeclD):(shD d).count 10=1:=by
 unfold shD
 split
 ·simp only [List.count_append,cnt0 (itoa_nl _)]
  rfl
 ·have:((d.cons.map fun c=>32 ::shN c.fields).flatten).count 10=0:=by
   refine cnt0 fun b hb=>?_
   obtain ⟨q,hq,hbq⟩:=List.mem_flatten.1 hb
   obtain ⟨c,_,rfl⟩:=List.mem_map.1 hq
   rcases List.mem_cons.1 hbq with rfl|hbq
   ·decide
   ·exact shN_nl _ b hbq
  simp only [List.count_append,this]
  rfl
theorem shF_cnt (f:FunD):(shF f).count 10=1:=by
 unfold shF
 simp only [List.count_append,cnt0 (itoa_nl _),cnt0 (shN_nl _),cnt0 (show_nl _)]
 rfl
theorem flat_cnt {α:Type} {f:α→List UInt8} (h:∀ a,(f a).count 10=1):∀ l:List α,((l.map f).flatten).count 10=l.length
 | []=>rfl
 | a ::r=>by
  rw [List.map_cons,List.flatten_cons,List.count_append,h a,flat_cnt h r,List.length_cons]
  omega
theorem shP_cnt (ds:List DeclD) (fs:List FunD):(shP ds fs).count 10=ds.length+fs.length:=by
 unfold shP
 rw [List.count_append,flat_cnt shD_cnt,flat_cnt shF_cnt]
end
end Go.Vc
