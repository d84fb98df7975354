/- Part of the proofs about the heaps and memories: a law is joined in the text whose name ends in W and the law. -/
import Derived.Test.YtelgbndeeccblaaGreatDoorES4
import Derived.Test.YtelgbndeeccblaaGreatDoorEG6
import Derived.Test.YtelgbndeeccblaaGreatDoorEG4
set_option linter.all false
namespace Go.Vc
open Go Go.Proofs Go.RowKit
section
variable {u u' v w:World} {x y z s x1:Sl} {a:Addr} {I J L R:Items} {m n:Int} {l:List UInt8} {bs:List UInt8}
theorem cut_size (b:ByteArray) (i j:Int):(strCut b i j).size≤b.size:=by
 unfold strCut
 rw [ByteArray.size_extract]
 omega
theorem gs_of {bl:List ByteArray} (h:GS u a R m w) (hx:Read u x bl) (hm:m≤1000000000) (hl:0 < bl.length) (hl2:bl.length≤1000000) (hb:∀ b∈bl,b.size≤2) {K:ByteArray→World→Prop} (k:∀ s w',GS u a R (m+1) w'→s.size≤2→K s w'):
  Trip Tryz.prog 114 #[.pointer (some (a.add 0)),x.val] w fun r w'=>∃ s,r=.string s∧K s w':=by
 refine of114 _ _ _ _ ?_
 unfold vc114
 have hn:=hx.n
 refine gs_pick (n:=x.n) h hm (by omega) (by omega) fun j w' h' h0 h1 h2=>?_
 have hj:j < bl.length:=by omega
 refine ⟨hx.ix h0 hj,_,(hx.mono h'.sub).str h0 hj,_,rfl,k _ w' h' (hb _ (nth_mem h0 hj))⟩
def MtQ (u:World) (a:Addr) (R:Items) (m:Int) (N:Nat) (r:Value) (w:World):Prop:=∃ l':List UInt8,r=.string (str l')∧l'.length≤N∧∃ u',Sub u u'∧GS u' a R m w
theorem mtq {b:ByteArray} {N:Nat} (hu:Sub u u') (h:GS u' a R m w) (hn:m≤n) (hb:b.size≤N):MtQ u a R n N (.string b) w:=
 ⟨b.data.toList,by rw [str_toList],by rw [←Lib.size_eq];exact hb,u',hu,h.le hn⟩
theorem c_mutate (hl:l.length≤1000000) (hm:m+10≤999900000) (h:GS u a R m w):Trip Tryz.prog 62 #[.pointer (some (a.add 0)),.string (str l)] w (MtQ u a R (m+3) (l.length+l.length+2)):=by
 refine of62 _ _ _ _ ?_
 unfold vc62
 have hz:=str_size l
 refine go_wr (by omega) (by omega) ?_
 refine gs_pick h (by omega) (by omega) (by omega) fun k w1 h1 k0 k1 k2=>?_
 refine gs_pick h1 (by omega) (by omega) (by omega) fun j w2 h2 j0 j1 j2=>?_
 have hA:=cut_size (str l) 0 k
 have hB:=cut_size (str l) (k+1) (str l).size
 have hok:StrOk (str l) 0 k:=⟨by omega,by omega,by omega⟩
 have close:∀ (s:ByteArray) {w' u':World} {m':Int},s.size≤2→Sub u u'→GS u' a R m' w'→m'≤m+3→MtQ u a R (m+3) (l.length+l.length+2) (.string ((strCut (str l) 0 k++s)++strCut (str l) (k+1) (str l).size)) w':=fun s w' u' m' hs hu hg hmm=>
  mtq hu hg hmm (by rw [ByteArray.size_append,ByteArray.size_append];omega)
 have strs:∀ {K:Sl→World→Prop} {c:Nat} {ps:Array (Nat×Value)} {bl:List ByteArray} (hv:VsOf u (ps.toList.map (·.2)) bl) (hi:ps.toList.map (·.1)=List.range c) (hsz:c * Dat.sz ByteArray≤16777216),(∀ x w' u',Sub u u'→GS u' a R (m+1+1) w'→Read u' x bl→K x w')→StepT Tryz.prog (Instr.buildSlice 83 c ps) w2 fun r w'=>∃ x,r=x.val∧K x w':=
  fun hv hi hsz kk=>gs_bld h2 hv hi hsz fun x w' u' h1 _ h3 h4=>kk x w' u' h1 h3 h4
 have sz1:∀ s:ByteArray,s.size≤2→(((strCut (str l) 0 k).size+s.size:Nat):Int)≤9223372036854775807:=fun s hs=>by omega
 have sz2:∀ s:ByteArray,s.size≤2→(((strCut (str l) 0 k++s).size+(strCut (str l) (k+1) (str l).size).size:Nat):Int)≤9223372036854775807:=fun s hs=>by rw [ByteArray.size_append];omega
 have use9:∀ {x:Sl} {w' u':World} {bl:List ByteArray} {K:ByteArray→World→Prop},GS u' a R (m+1+1) w'→Read u' x bl→0 < bl.length→bl.length≤10→(∀ b∈bl,b.size≤2)→(∀ s w'',GS u' a R (m+1+1+1) w''→s.size≤2→K s w'')→Trip Tryz.prog 114 #[.pointer (some (a.add 0)),x.val] w' fun r w'=>∃ s,r=.string s∧K s w':=
  fun hg hx h0 h1 hb kk=>gs_of hg hx (by omega) h0 (by omega) hb kk
 have bld9:∀ {K:Sl→World→Prop},(∀ x w' u',Sub u u'→GS u' a R (m+1+1) w'→(∀ {K2:ByteArray→World→Prop},(∀ s w'',GS u' a R (m+1+1+1) w''→s.size≤2→K2 s w'')→Trip Tryz.prog 114 #[.pointer (some (a.add 0)),x.val] w' fun r w''=>∃ s,r=.string s∧K2 s w'')→K x w')→
   StepT Tryz.prog (Instr.buildSlice 83 9 #[(0,(.string (ByteArray.mk #[48]))),(1,(.string (ByteArray.mk #[49]))),(2,(.string (ByteArray.mk #[32]))),(3,(.string (ByteArray.mk #[45]))),(4,(.string (ByteArray.mk #[44]))),(5,(.string (ByteArray.mk #[40]))),(6,(.string (ByteArray.mk #[41]))),(7,(.string (ByteArray.mk #[118]))),(8,(.string (ByteArray.mk #[97])))]) w2 fun r w'=>∃ x,r=x.val∧K x w':=fun kk=>by
  refine strs (by (repeat' (first|exact VsOf.nil|apply VsOf.cons|(apply VOf.int;first|assumption|(constructor<;>first|omega|(simp only [lz] at *;omega)))|exact VOf.bool|exact VOf.str))) rfl (by decide) ?_
  intro x w' u' hu' hg' hx'
  exact kk x w' u' hu' hg' fun k2=>use9 hg' hx' (by decide) (by decide) (by decide) k2
 have last:∀ (s:ByteArray),s.size≤2→(((str l).size+s.size:Nat):Int)≤9223372036854775807:=fun s hs=>by omega
 have fin:∀ (s:ByteArray) {w' u':World} {m':Int},s.size≤2→Sub u u'→GS u' a R m' w'→m'≤m+3→MtQ u a R (m+3) (l.length+l.length+2) (.string (str l++s)) w':=fun s w' u' m' hs hu hg hmm=>
  mtq hu hg hmm (by rw [ByteArray.size_append];omega)
 refine ⟨fun hc=>⟨fun _=>⟨fun hk=>?_,fun hk=>mtq (.refl u) h2 (by omega) (by omega)⟩,fun hc2=>absurd hc (by rw [hc2];decide)⟩,fun hc=>⟨fun hc1=>⟨fun hk=>?_,fun hk=>mtq (.refl u) h2 (by omega) (by omega)⟩,fun hc1=>⟨fun hc2=>⟨hok,mtq (.refl u) h2 (by omega) (by omega)⟩,fun hc2=>⟨fun hc3=>?_,fun hc3=>mtq (.refl u) h2 (by omega) (by omega)⟩⟩⟩⟩
 ·have hrng:(0:Int)≤k+1∧k+1≤((str l).size:Int):=by
   simp only [bls] at hk
   exact ⟨by omega,by omega⟩
  refine go_wr (by omega) (by omega) ?_
  repeat' first
   | with_reducible exact hok
   | with_reducible exact hrng
   | with_reducible exact sz1 _ (by assumption)
   | with_reducible exact sz2 _ (by assumption)
   | (with_reducible refine bld9 ?_;intro x w' u' hu' hg' hof')
   | (with_reducible refine hof' ?_;intro s w'' hg'' hs'')
   | with_reducible refine And.intro ?_ ?_
  all_goals exact close s hs'' hu' hg'' (by omega)
 ·have hrng:(0:Int)≤k+1∧k+1≤((str l).size:Int):=by
   simp only [bls] at hk
   exact ⟨by omega,by omega⟩
  refine go_wr (by omega) (by omega) ?_
  repeat' first
   | with_reducible exact hok
   | with_reducible exact hrng
   | with_reducible exact sz1 _ (by assumption)
   | with_reducible exact sz2 _ (by assumption)
   | (with_reducible refine bld9 ?_;intro x w' u' hu' hg' hof')
   | (with_reducible refine hof' ?_;intro s w'' hg'' hs'')
   | with_reducible refine And.intro ?_ ?_
  all_goals exact close s hs'' hu' hg'' (by omega)
 ·refine strs (by (repeat' (first|exact VsOf.nil|apply VsOf.cons|(apply VOf.int;first|assumption|(constructor<;>first|omega|(simp only [lz] at *;omega)))|exact VOf.bool|exact VOf.str))) rfl (by decide) ?_
  intro x w' u' hu' hg' hx'
  refine use9 hg' hx' (by decide) (by decide) (by decide) ?_
  intro s w'' hg'' hs''
  exact ⟨last s hs'',fin s hs'' hu' hg'' (by omega)⟩
end
end Go.Vc
