/- Part of the proofs about the heaps and memories: a law is joined in the text whose name ends in W and the law. -/
import Derived.Shelf.Strings.IndexAnyAll
import Derived.Laws.Runes
import Derived.Laws.RangeAny
import Derived.Shelf.Small.Utf8
import Derived.WalkMore
import Derived.Lib.OthersKept
import Derived.Shelf.RegionOpenPlain
set_option linter.all false
namespace Go.Proofs
open Go.Shelf Go.RowKit Go.Lib
variable {P:Program} {ρ:Ren}
def setSP:ByteArray:=⟨#[32,41]⟩
set_option maxHeartbeats 8000000 in
set_option maxRecDepth 1000000 in
theorem Any.idxRune_bad (L:Lays.n152 P ρ) (w:World):
  Calls P (ρ.f 152) #[.string setSP,.int .i32 65533] w fun e w'=>e=.returned (.int .i64 (-1))∧Below w.heap.size w w':=by
 have t3:=L.t3;have a3:=L.a3;have z3:=L.z3;have v3:=L.v3
 have t4:=L.t4;have a4:=L.a4;have z4:=L.z4;have v4:=L.v4
 have t5:=L.t5;have a5:=L.a5;have z5:=L.z5;have v5:=L.v5
 have t9:=L.t9;have a9:=L.a9;have z9:=L.z9;have v9:=L.v9
 have t21:=L.t21;have a21:=L.a21;have z21:=L.z21;have v21:=L.v21
 go_enter L.f152,Body.n152_ntmps ρ
 go_wp2
 go_loopg [5,6] 2 (fun g _ _ wx=>∃ i:Nat,i+g=2∧wx=w.iter setSP i)
 case atStart=>exact ⟨0,rfl,rfl⟩
 case round=>
  obtain ⟨i,hig,rfl⟩:=hrel
  cases gk with
  | zero=>
   obtain rfl:i=2:=by omega
   have hnx:=fun ty=>run_next_end (P:=P) w setSP 2 ty (by decide)
   go_wp2
   go_ret
   exact ⟨rfl,(Below.refl _ _).alloc (Nat.le_refl _) _⟩
  | succ g=>
   have hi:i=0∨i=1:=by omega
   rcases hi with rfl|rfl
   ·have hnx:=fun ty=>run_next_ascii (P:=P) w setSP 0 ty (by decide) (by decide)
    rw [show ((setSP[0]'(by decide)).toNat:Int)=32 from rfl] at hnx
    go_wp2
    go_roundg g
    case measure=>omega
    case rel=>exact ⟨1,by omega,rfl⟩
   ·have hnx:=fun ty=>run_next_ascii (P:=P) w setSP 1 ty (by decide) (by decide)
    rw [show ((setSP[1]'(by decide)).toNat:Int)=41 from rfl] at hnx
    go_wp2
    go_roundg g
    case measure=>omega
    case rel=>exact ⟨2,by omega,rfl⟩
theorem enc_cases (r:Int) (hv:Utf8.valid r=true) (h128:128≤r):(∃ a b:UInt8,Utf8.encode r=⟨#[a,b]⟩∧128≤b.toNat)∨(∃ a b c:UInt8,Utf8.encode r=⟨#[a,b,c]⟩)∨(∃ a b c d:UInt8,Utf8.encode r=⟨#[a,b,c,d]⟩):=by
 have hc:¬ r.toNat < 128:=by omega
 unfold Utf8.encode
 simp only [hv,if_true,hc,if_false]
 split
 ·refine .inl ⟨_,_,rfl,?_⟩
  simp;omega
 ·split
  ·exact .inr (.inl ⟨_,_,_,rfl⟩)
  ·exact .inr (.inr ⟨_,_,_,_,rfl⟩)
set_option maxHeartbeats 8000000 in
set_option maxRecDepth 1000000 in
theorem Any.idxRune_high (L:Lays.n152 P ρ) (r:Int) (w:World) (h0:128≤r) (h1:r≤1114111) (h2:r≠65533):
  Calls P (ρ.f 152) #[.string ⟨#[32,41]⟩,.int .i32 r] w fun e w'=>e=.returned (.int .i64 (-1))∧Below w.heap.size w w':=by
 have mixed:=L.mixed
 have t3:=L.t3;have a3:=L.a3;have z3:=L.z3;have v3:=L.v3
 have t4:=L.t4;have a4:=L.a4;have z4:=L.z4;have v4:=L.v4
 have t5:=L.t5;have a5:=L.a5;have z5:=L.z5;have v5:=L.v5
 have t9:=L.t9;have a9:=L.a9;have z9:=L.z9;have v9:=L.v9
 have t21:=L.t21;have a21:=L.a21;have z21:=L.z21;have v21:=L.v21
 have e119:∀ args w,(callFunc (ρ.f 119) args).run P w=.ok (.enter (ρ.f 119) args) w:=enters_of L.f119 (by kernel_rfl) rfl
 have e137:∀ args w,(callFunc (ρ.f 137) args).run P w=.ok (.enter (ρ.f 137) args) w:=enters_of L.f137 (by kernel_rfl) rfl
 have hb:(r == 65533)=false:=beq_eq_false_iff_ne.2 h2
 have hlo:¬ r < 128:=by omega
 cases hv:Lib.validRune r with
 | false=>
  go_enter L.f152,Body.n152_ntmps ρ
  go_wp2_with (first|(go_at_fn (ρ.f 119);refine (Any.utf8_ValidRune { L with } _ _).mono ?_;rintro e w' ⟨rfl,hw⟩;rw [hw,hv]))
  go_ret
  exact ⟨rfl,Below.refl _ _⟩
 | true=>
  have hv2:Utf8.valid r=true:=by
   rw [Go.validRune_eq];exact hv
  have hcv:∀ w,(convert (ρ.t 21) (ρ.t 9) (.int .i32 r)).run P w=.ok (.string (Utf8.encode r)) w:=fun w=>run_convert_int_string w _ _ _ _ (by rw [t21];rfl) t9
  rcases enc_cases r hv2 h0 with ⟨a,b,he,hb2⟩|⟨a,b,c,he⟩|⟨a,b,c,d,he⟩
  ·rw [he] at hcv
   clear hv2 he
   have hib:∀ c,Lib.indexByte [] c=-1:=fun _=>rfl
   have hne:∀ (p1:1 < (⟨#[32,41]⟩:ByteArray).size) (p2:1 < (⟨#[a,b]⟩:ByteArray).size),((((⟨#[32,41]⟩:ByteArray)[1]'p1).toNat:Int) !=(((⟨#[a,b]⟩:ByteArray)[1]'p2).toNat:Int))=true:=by
    intro p1 p2
    rw [bne_iff_ne]
    show (41:Int)≠(b.toNat:Int)
    omega
   go_enter L.f152,Body.n152_ntmps ρ
   go_wp2_with (first|(go_at_fn (ρ.f 119);refine (Any.utf8_ValidRune { L with } _ _).mono ?_;rintro e w' ⟨rfl,hw⟩;rw [hw,hv]))
   go_step3
   go_wp2
   go_loopg [9] 1 (fun g s9 wx=>s9=.int .i64 1∧wx=w)
   case atStart=>exact ⟨rfl,rfl⟩
   case round=>
    obtain ⟨rfl,rfl⟩:=hrel
    go_wp2
    go_step3
    go_wp2_with fail
    go_region_o
    all_goals (go_wp2_with fail)
    all_goals (go_region_with_o (go_at_fn (ρ.f 137);refine (Any.strings_IndexByte { L with } _ _ _).mono ?_;rintro e w' ⟨rfl,hw⟩;rw [hw]))
    all_goals (go_wp2_with (first|(go_at_fn (ρ.f 137);refine (Any.strings_IndexByte { L with } _ _ _).mono ?_;rintro e w' ⟨rfl,hw⟩;rw [hw])))
    all_goals simp only [Exit.noGoto_ret]
    all_goals go_wp2
    all_goals simp only [Exit.noGoto_ret]
    all_goals go_wp2
    all_goals go_ret
    all_goals exact ⟨rfl,rfl,rfl,rfl,Nat.le_refl _,fun _ _=>rfl⟩
  ·rw [he] at hcv
   clear hv2 he
   go_enter L.f152,Body.n152_ntmps ρ
   go_wp2_with (first|(go_at_fn (ρ.f 119);refine (Any.utf8_ValidRune { L with } _ _).mono ?_;rintro e w' ⟨rfl,hw⟩;rw [hw,hv]))
   go_step3
   go_wp2
   go_loopg [9] 1 (fun g s9 wx=>s9=.int .i64 2∧wx=w)
   case atStart=>exact ⟨rfl,rfl⟩
   case round=>
    obtain ⟨rfl,rfl⟩:=hrel
    go_wp2
    simp only [Exit.noGoto_ret]
    go_wp2
    go_ret
    exact ⟨rfl,Below.refl _ _⟩
  ·rw [he] at hcv
   clear hv2 he
   go_enter L.f152,Body.n152_ntmps ρ
   go_wp2_with (first|(go_at_fn (ρ.f 119);refine (Any.utf8_ValidRune { L with } _ _).mono ?_;rintro e w' ⟨rfl,hw⟩;rw [hw,hv]))
   go_step3
   go_wp2
   go_loopg [9] 1 (fun g s9 wx=>s9=.int .i64 3∧wx=w)
   case atStart=>exact ⟨rfl,rfl⟩
   case round=>
    obtain ⟨rfl,rfl⟩:=hrel
    go_wp2
    simp only [Exit.noGoto_ret]
    go_wp2
    go_ret
    exact ⟨rfl,Below.refl _ _⟩
theorem Any.idxRune_sp (L:Lays.n152 P ρ) (r:Int) (w:World) (h0:128≤r) (h1:r≤1114111):
  Calls P (ρ.f 152) #[.string ⟨#[32,41]⟩,.int .i32 r] w fun e w'=>e=.returned (.int .i64 (-1))∧Below w.heap.size w w':=by
 by_cases h2:r=65533
 ·rw [h2];exact Any.idxRune_bad L w
 ·exact Any.idxRune_high L r w h0 h1 h2
theorem dec_skip (s:ByteArray) (i:Nat) (h:i < s.size) (ha:128≤(s[i]'h).toNat):∀ k,k < (Utf8.decode s i).2→i+k < s.size∧128≤(s.get! (i+k)).toNat:=by
 intro k hk
 have e0:=get_at s i h
 by_cases k0:k=0
 ·subst k0
  exact ⟨by omega,by rw [e0];exact ha⟩
 have hn:¬ (s.get! (i+0)).toNat < 128:=by rw [e0];omega
 simp only [Utf8.decode,hn,if_false] at hk
 repeat' split at hk
 all_goals simp_all
 all_goals (first|omega|(rcases (show k=1∨k=2∨k=3 by omega) with rfl|rfl|rfl<;>first|omega|(constructor<;>omega)))
theorem dec_one (s:ByteArray) (i:Nat):(Utf8.decode s i).1≤1114111:=by
 have hb:∀ k,(s.get! (i+k)).toNat < 256:=fun k=>(s.get! (i+k)).toNat_lt
 have h0:=hb 0;have h1:=hb 1;have h2:=hb 2;have h3:=hb 3
 simp only [Utf8.decode]
 repeat' split
 all_goals simp_all [Utf8.runeError,Utf8.valid]
 all_goals omega
theorem noAny_skip {l cs:List UInt8} {i:Nat}:∀ n,Lib.NoAny l cs i→(∀ k,k < n→∃ b,l[i+k]?=some b∧cs.contains b=false)→Lib.NoAny l cs (i+n)
 | 0,h,_=>h
 | n+1,h,hk=>by
  obtain ⟨b,h1,h2⟩:=hk n (by omega)
  exact (noAny_skip n h fun k hk'=>hk k (by omega)).succ h1 h2
theorem Below.iterAt {B:Nat} {w wx:World} (h:Below B w wx) (s:ByteArray) (pos:Nat) {k:Nat} (hk:B≤k):Below B w (wx.iterAt k s pos):=
 ⟨h.os,h.tape,h.output,by rw [Lib.iterAt_size];exact h.size,fun j hj=>by rw [Lib.iterAt_other _ _ _ _ _ (by omega)];exact h.block j hj⟩
set_option maxHeartbeats 8000000 in
set_option maxRecDepth 1000000 in
theorem Any.idxAny_short (L:Lays.n153 P ρ) (s:ByteArray) (w:World) (h8:s.size≤8):
  Calls P (ρ.f 153) #[.string s,.string ⟨#[32,41]⟩] w fun e w'=>e=.returned (.int .i64 (Lib.indexAny s.data.toList [32,41]))∧Below w.heap.size w w':=by
 have h8z:decide ((8:Int) < (s.size:Int))=false:=decide_eq_false (by omega)
 have t3:=L.t3;have a3:=L.a3;have z3:=L.z3;have v3:=L.v3
 have t4:=L.t4;have a4:=L.a4;have z4:=L.z4;have v4:=L.v4
 have t5:=L.t5;have a5:=L.a5;have z5:=L.z5;have v5:=L.v5
 have t9:=L.t9;have a9:=L.a9;have z9:=L.z9;have v9:=L.v9
 have t21:=L.t21;have a21:=L.a21;have z21:=L.z21;have v21:=L.v21
 have e152:∀ args w,(callFunc (ρ.f 152) args).run P w=.ok (.enter (ρ.f 152) args) w:=enters_of L.f152 (by kernel_rfl) rfl
 have e226:∀ args w,(callFunc (ρ.f 226) args).run P w=.ok (.enter (ρ.f 226) args) w:=enters_of L.f226 (by kernel_rfl) rfl
 go_enter L.f153,Body.n153_ntmps ρ
 go_wp2_with (go_at_fn (ρ.f 226);refine (Any.strings_shouldUseASCIISet { L with } _ _).mono ?_;rintro e w' ⟨rfl,hw⟩;rw [hw,h8z])
 go_loopg [9,10] s.size (fun g _ _ wx=>∃ i:Nat,s.size≤i+g∧i≤s.size∧wx.heap[w.heap.size]?=some (.stringIter s i)∧Below w.heap.size w wx∧Lib.NoAny s.data.toList [32,41] i)
 case atStart=>exact ⟨0,by omega,by omega,by rw [show (w.iter s 0).heap=w.heap.push (.stringIter s 0) from rfl];simp,(Below.refl _ _).alloc (Nat.le_refl _) _,Lib.NoAny.zero _ _⟩
 case round=>
  obtain ⟨i,hig,hle,hit,hbl,hno⟩:=hrel
  have HN:Aside (Lib.NoAny s.data.toList [32,41] i):=hno
  have HB:Aside (Below w.heap.size w wr):=hbl
  clear hno hbl
  by_cases hi:i < s.size
  ·have hgk:0 < gk:=by omega
   obtain ⟨x,hx⟩:∃ x:UInt8,s[i]'hi=x:=⟨_,rfl⟩
   have hxl:s.data.toList[i]?=some x:=by rw [←hx];exact Lib.data_getElem? s i hi
   have hnx:=fun ty=>run_next_any_at (P:=P) wr w.heap.size s i ty hit hi
   obtain ⟨r,n,hrn⟩:∃ r n,Utf8.decode s i=(r,n):=⟨_,_,rfl⟩
   have hdo:=dec_one s i
   have hds:=dec_skip s i hi
   rw [hrn] at hnx hdo hds
   simp only at hnx hdo hds
   have hblk:w.heap.size < wr.heap.size:=(Array.getElem?_eq_some_iff.1 hit).1
   have hit2:=iterAt_heap wr w.heap.size s i (i+n) hit
   have HIT2:Aside ((wr.iterAt w.heap.size s (i+n)).heap[w.heap.size]?=some (.stringIter s (i+n))):=hit2
   clear hit2
   have hsz:=iterAt_size wr w.heap.size s (i+n)
   by_cases hx128:x.toNat < 128
   ·have hda:=decode_ascii s i hi (by rw [hx];exact hx128)
    rw [hrn,hx] at hda
    obtain ⟨rfl,rfl⟩:=Prod.mk.inj hda
    have hcon:=Lib.contains_iff_indexByte [32,41] x
    have hback:((x.toNat:Int)).toNat.toUInt8=x:=by simp
    cases hin:([32,41]:List UInt8).contains x
    ·rw [hin] at hcon
     have hlt:¬ ((0:Int)≤Lib.indexByte [32,41] x):=of_decide_eq_false hcon.symm
     clear hcon hda hdo hds
     go_wp2_with (go_at_fn (ρ.f 152);refine (Any.strings_IndexRune_ascii { L with } _ _ _ (by omega) (by omega)).mono ?_;rintro e w' ⟨rfl,hw⟩;rw [hw,hback])
     go_roundg (gk - 1)
     case measure=>omega
     case rel=>exact ⟨i+1,by omega,by omega,HIT2.out,Below.iterAt HB.out s _ (Nat.le_refl _),HN.out.succ hxl hin⟩
    ·rw [hin] at hcon
     have hge:(0:Int)≤Lib.indexByte [32,41] x:=of_decide_eq_true hcon.symm
     clear hcon hda hdo hds
     go_wp2_with (go_at_fn (ρ.f 152);refine (Any.strings_IndexRune_ascii { L with } _ _ _ (by omega) (by omega)).mono ?_;rintro e w' ⟨rfl,hw⟩;rw [hw,hback])
     go_ret
     exact ⟨by rw [Lib.indexAny_hit HN.out hxl hin];rfl,Below.iterAt HB.out s _ (Nat.le_refl _)⟩
   ·have hdh:=decode_high s i hi (by rw [hx];omega)
    rw [hrn] at hdh
    simp only at hdh
    have hx2:128≤(s[i]'hi).toNat:=by rw [hx];omega
    have hds:=fun k hk=>hds hx2 k hk
    have HS:Aside (∀ k,k < n→i+k < s.size∧128≤(s.get! (i+k)).toNat):=hds
    have hlast:=hds (n - 1) (by omega)
    clear hds
    go_wp2_with (go_at_fn (ρ.f 152);refine (Any.idxRune_sp { L with } _ _ (by omega) (by omega)).mono ?_;rintro e w' ⟨rfl,hw⟩)
    go_roundg (gk - 1)
    case measure=>omega
    case rel=>
     refine ⟨i+n,by omega,by omega,?_,?_,noAny_skip n HN.out fun k hk=>?_⟩
     ·rw [hw.block _ (by rw [hsz];exact hblk)];exact HIT2.out
     ·exact (Below.iterAt HB.out s _ (Nat.le_refl _)).trans (hw.mono (by rw [hsz];omega))
     ·obtain ⟨k1,k2⟩:=HS.out k hk
      have e0:=get_at s (i+k) k1
      rw [show i+k+0=i+k from rfl] at e0
      refine ⟨s[i+k]'k1,Lib.data_getElem? s (i+k) k1,?_⟩
      rw [e0] at k2
      cases hc:([32,41]:List UInt8).contains (s[i+k]'k1)
      ·rfl
      ·exfalso
       simp at hc
       rcases hc with hc|hc<;>(rw [hc] at k2;exact absurd k2 (by decide))
  ·obtain rfl:i=s.size:=by omega
   have hnx:=fun ty=>run_next_end_at (P:=P) wr w.heap.size s s.size ty hit (by omega)
   go_wp2
   go_ret
   exact ⟨by rw [Lib.indexAny_none (by rw [←Lib.size_eq];exact HN.out)];rfl,HB.out⟩
theorem Any.idxAny_sp (L:Lays.n153 P ρ) (h116:(P.info? (ρ.t 116)).map (fun i=>(i.zero,i.size))=some (some (.agg (Array.replicate 256 (.bool false))),256)) (s:ByteArray) (w:World) (hs:s.size < 4294967281):
  Calls P (ρ.f 153) #[.string s,.string ⟨#[32,41]⟩] w fun e w'=>e=.returned (.int .i64 (Lib.indexAny s.data.toList [32,41]))∧Below w.heap.size w w':=by
 by_cases h8:s.size≤8
 ·exact Any.idxAny_short L s w h8
 ·refine (Any.strings_IndexAny_long L (zero_of_info h116).1 (zero_of_info h116).2 s ⟨#[32,41]⟩ w (by decide) (by omega) hs (by decide) (fun j b hj=>?_)).mono fun e w' ⟨h1,h2⟩=>⟨h1,?_⟩
  ·have:b∈([32,41]:List UInt8):=List.mem_of_getElem? hj
   simp at this
   rcases this with rfl|rfl<;>decide
  ·rw [h2]
   exact ((Below.refl _ _).alloc (Nat.le_refl _) _).alloc (by simp) _
end Go.Proofs
