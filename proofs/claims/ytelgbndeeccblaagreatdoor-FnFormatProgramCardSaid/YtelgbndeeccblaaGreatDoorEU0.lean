/- Part of the proofs about the heaps and memories: a law is joined in the text whose name ends in W and the law. -/
import Derived.Test.YtelgbndeeccblaaGreatDoorET0
import Derived.Lib.SplitLaws
import Derived.Lib.IndexBytes
import Derived.Shelf.Strings.OnBuilder
import Derived.Test.YtelgbndeeccblaaGreatDoorES4
import Derived.Test.YtelgbndeeccblaaGreatDoorEP5
set_option linter.all false
namespace Go.Vc
open Go Go.RowKit
theorem idx1_none {c:UInt8}:∀ {a:List UInt8},c∉a→Lib.index a [c]=-1:=by
 intro a h
 rw [Lib.index_one]
 induction a with
 | nil=>rfl
 | cons b r ih=>
  have h1:b≠c:=fun e=>h (by simp [e])
  have h2:=ih fun hm=>h (by simp [hm])
  unfold Lib.indexByte
  simp [h1,h2]
theorem idx1_hit {c:UInt8}:∀ {a:List UInt8} (r:List UInt8),c∉a→Lib.index (a++c ::r) [c]=(a.length:Int):=by
 intro a r h
 rw [Lib.index_one]
 induction a with
 | nil=>simp [Lib.indexByte]
 | cons b q ih=>
  have h1:b≠c:=fun e=>h (by simp [e])
  have h2:=ih fun hm=>h (by simp [hm])
  rw [List.cons_append]
  unfold Lib.indexByte
  rw [h2]
  simp [h1]
theorem cutK_none {c:UInt8} {sv k:Nat} {a:List UInt8} (h:c∉a):Lib.splitK [c] sv k a=[a]:=by
 cases k with
 | zero=>rfl
 | succ k=>rw [Lib.splitK,idx1_none h];rfl
theorem cutK_hit {c:UInt8} {sv k:Nat} {a:List UInt8} (r:List UInt8) (h:c∉a):Lib.splitK [c] sv (k+1) (a++c ::r)=(a++c ::r).take (a.length+sv) ::Lib.splitK [c] sv k r:=by
 have hi:=idx1_hit r h
 rw [Lib.splitK,hi]
 have h1:((a.length:Int) == -1)=false:=by rw [beq_eq_false_iff_ne];omega
 rw [h1]
 simp only [Bool.false_eq_true,if_false,Int.toNat_natCast,List.length_singleton]
 congr 2
 rw [show a++c ::r=(a++[c])++r by simp,List.drop_left' (by simp)]
theorem cutK0_hit {c:UInt8} {k:Nat} {a:List UInt8} (r:List UInt8) (h:c∉a):Lib.splitK [c] 0 (k+1) (a++c ::r)=a ::Lib.splitK [c] 0 k r:=by
 rw [cutK_hit r h,Nat.add_zero,List.take_left' rfl]
theorem cutK1_hit {c:UInt8} {k:Nat} {a:List UInt8} (r:List UInt8) (h:c∉a):Lib.splitK [c] 1 (k+1) (a++c ::r)=(a++[c]) ::Lib.splitK [c] 1 k r:=by
 rw [cutK_hit r h,show a++c ::r=(a++[c])++r by simp,List.take_left' (by simp)]
theorem cutK_lines {c:UInt8}:∀ (ls:List (List UInt8)) (k:Nat),(∀ a∈ls,c∉a)→ls.length≤k→Lib.splitK [c] 1 k ((ls.map fun a=>a++[c]).flatten)=(ls.map fun a=>a++[c])++[[]]:=by
 intro ls
 induction ls with
 | nil=>intro k _ _;rw [List.map_nil,List.flatten_nil,cutK_none (by simp)];rfl
 | cons a r ih=>
  intro k h hk
  cases k with
  | zero=>simp at hk
  | succ k=>
   rw [List.map_cons,List.flatten_cons,List.append_assoc,List.singleton_append,cutK1_hit _ (h a (by simp)),ih k (fun b hb=>h b (by simp [hb])) (by simpa using hk)]
   rfl
theorem cutK_words {c:UInt8}:∀ (ls:List (List UInt8)) (a:List UInt8) (k:Nat),c∉a→(∀ b∈ls,c∉b)→ls.length≤k→Lib.splitK [c] 0 k (a++(ls.map fun b=>c ::b).flatten)=a ::ls:=by
 intro ls
 induction ls with
 | nil=>intro a k h _ _;rw [List.map_nil,List.flatten_nil,List.append_nil,cutK_none h]
 | cons b r ih=>
  intro a k h hl hk
  cases k with
  | zero=>simp at hk
  | succ k=>
   rw [List.map_cons,List.flatten_cons,List.cons_append,cutK0_hit _ h,ih b k (hl b (by simp)) (fun x hx=>hl x (by simp [hx])) (by simpa using hk)]
theorem count_words {c:UInt8} (ls:List (List UInt8)) (a:List UInt8) (h:c∉a) (hl:∀ b∈ls,c∉b):(a++(ls.map fun b=>c ::b).flatten).count c=ls.length:=by
 rw [List.count_append,List.count_eq_zero.2 h]
 induction ls with
 | nil=>rfl
 | cons b r ih=>
  rw [List.map_cons,List.flatten_cons,List.count_append,List.count_cons_self,List.count_eq_zero.2 (hl b (by simp)),List.length_cons]
  have:=ih fun x hx=>hl x (by simp [hx])
  omega
theorem join_words {c:UInt8} (a:List UInt8) (r:List (List UInt8)):Lib.join (a ::r) [c]=a++(r.map fun b=>c ::b).flatten:=by
 rw [Lib.join_cons]
 unfold Lib.joinTail
 rfl
end Go.Vc
namespace Go.Vc
open Go Go.Proofs Go.RowKit
def small3 (l:List Int):Prop:=∀ n∈l,0≤n∧n≤999
section
variable {u v w:World} {l m:List UInt8} {a:Addr} {L I J K R:Items} {n:Int} {b:Bool} {x y:Sl}
theorem RSt.frame (h:RSt u a (J++L) l m n b w) {K:Items} (hp:(K++L).Perm (J++L)):RSt u a (K++L) l m n b w:=h.perm hp
theorem push_int {ns:List Int} {k:Int} {w:World} (hO:Own u x ns J) (hS:St u w (J++R)) (hk:InI k) (hb:ns.length+1≤1099511627776) {Q:Sl→World→Prop} (q:∀ x' w' J',Own u x' (ns++[k]) J'→St u w' (J'++R)→Q x' w'):
  StepT Tryz.prog (Instr.buildSlice 68 1 #[(0,.int .i64 k)]) w fun r w2=>∃ z:Sl,r=z.val∧StepT Tryz.prog (Builtin.append_ #[68,68] 68 #[x.val,z.val]) w2 fun r2 w3=>∃ x':Sl,r2=x'.val∧Q x' w3:=by
 refine St.build (α:=Int) (l:=[k]) hS (VsOf.cons (VOf.int hk) VsOf.nil) rfl (by decide) ?_
 intro x4 w4 I4 hO4 hS hs
 refine ⟨_,rfl,?_⟩
 refine Own.append hO hS (Own.src hO4 hS) (by simpa using hb) (by decide) ?_
 intro x5 w5 I5 hO5 hS
 exact ⟨_,rfl,q x5 w5 I5 hO5 hS.to⟩
end
end Go.Vc
namespace Go.Vc
open Go Go.Proofs Go.RowKit
def dPr (d:DeclD):Prop:=dSm d∧(0 < d.cons.length→d.frm=0∧d.to_=0)
theorem nn_small {l:List Int} (h:nonneg l):small3 l:=fun n hn=>by have:=h n hn;omega
theorem shD_arrow {d:DeclD} (h:d.cons.length=0) (rest:List UInt8):shD d++rest=[97,114,114,111,119,32]++(Lib.itoa d.frm++([32]++(Lib.itoa d.to_++([10]++rest)))):=by
 unfold shD
 rw [if_pos h]
 simp only [List.append_assoc]
theorem shD_data {d:DeclD} (h:0 < d.cons.length) (rest:List UInt8):shD d++rest=[100,97,116,97]++((d.cons.map fun c=>32 ::shN c.fields).flatten++([10]++rest)):=by
 unfold shD
 rw [if_neg (by omega)]
 simp only [List.append_assoc]
section
variable {u v w:World} {l m:List UInt8} {a:Addr} {L I J K R:Items} {n:Int} {b:Bool} {x y:Sl}
end
end Go.Vc
namespace Go.Vc
open Go Go.Proofs Go.RowKit
theorem shF_app (f:FunD) (rest:List UInt8):shF f++rest=[102,117,110,32]++(shN f.params++([32]++(Lib.itoa f.result++([32]++(showE f.body++([10]++rest)))))):=by
 unfold shF
 simp only [List.append_assoc]
def PP (l:List UInt8) (ds:List DeclD) (fs:List FunD) (ok:Bool):Prop:=
 (ok=true∧prgOk ds fs∧shP ds fs=l∧∀ ds0 fs0,prgOk ds0 fs0→shP ds0 fs0=l→ds0=ds∧fs0=fs)∨
 (ok=false∧ds=[]∧fs=[]∧∀ ds0 fs0,prgOk ds0 fs0→shP ds0 fs0≠l)
theorem PP.same {l:List UInt8} {ds ds':List DeclD} {fs fs':List FunD} {ok ok':Bool} (h:PP l ds fs ok) (h':PP l ds' fs' ok'):ds=ds'∧fs=fs'∧ok=ok':=by
 rcases h with ⟨h1,h2,h3,h4⟩|⟨h1,h2,h3,h4⟩<;>rcases h' with ⟨k1,k2,k3,k4⟩|⟨k1,k2,k3,k4⟩
 ·obtain ⟨e1,e2⟩:=h4 ds' fs' k2 k3
  exact ⟨e1.symm,e2.symm,by rw [h1,k1]⟩
 ·exact absurd h3 (k4 _ _ h2)
 ·exact absurd k3 (h4 _ _ k2)
 ·exact ⟨by rw [h2,k2],by rw [h3,k3],by rw [h1,k1]⟩
theorem PP.ok {l:List UInt8} {ds ds0:List DeclD} {fs fs0:List FunD} {ok:Bool} (h:PP l ds fs ok) (h1:prgOk ds0 fs0) (h2:shP ds0 fs0=l):ds=ds0∧fs=fs0∧ok=true:=by
 rcases h with ⟨k1,k2,k3,k4⟩|⟨k1,k2,k3,k4⟩
 ·obtain ⟨e1,e2⟩:=k4 ds0 fs0 h1 h2
  exact ⟨e1.symm,e2.symm,k1⟩
 ·exact absurd h2 (k4 _ _ h1)
theorem dpr_decl {ds:List DeclD} (h:typesOk ds):∀ d∈ds,dPr d:=by
 intro d hd
 refine ⟨sm_decl h d hd,?_⟩
 obtain ⟨i,hi,rfl⟩:=List.getElem_of_mem hd
 have h1:=declOk_easy (h.2 i (by omega) (by omega))
 rw [nth_of (a:=ds[i]) (by simp [List.getElem?_eq_getElem hi])] at h1
 exact h1.2.2.2.1
section
variable {u v w:World} {l m:List UInt8} {a:Addr} {L I J K R:Items} {n:Int} {b:Bool} {x y:Sl}
end
end Go.Vc
