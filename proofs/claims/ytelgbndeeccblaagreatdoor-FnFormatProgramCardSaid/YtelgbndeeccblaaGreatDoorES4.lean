/- Part of the proofs about the heaps and memories: a law is joined in the text whose name ends in W and the law. -/
import Derived.Test.YtelgbndeeccblaaGreatDoorES2
set_option linter.all false
namespace Go.Vc
open Go Go.Proofs Go.RowKit
def RSt (u:World) (a:Addr) (L:Items) (l m:List UInt8) (n:Int) (b:Bool) (w:World):Prop:=
 ∃ (I:Items) (pre:List UInt8),l=pre++m∧Cel a [.string (str l),.int .i64 (pre.length:Int),.int .i64 n,.bool b] I∧St u w (I++L)
def atR (w:World) (a:Addr):Nat:=match w.cell? (a.add 1) with
 | some (.int _ n)=>n.toNat
 | _=>0
section
variable {u v w:World} {l m:List UInt8} {a:Addr} {L I J K:Items} {n:Int} {b:Bool}
theorem RSt.perm {L':Items} (h:RSt u a L l m n b w) (hp:L'.Perm L):RSt u a L' l m n b w:=by
 obtain ⟨I,pre,h0,h1,h2⟩:=h
 exact ⟨I,pre,h0,h1,h2.perm (List.Perm.append_left I hp)⟩
theorem RSt.sub (h:RSt u a L l m n b w):Sub u w:=by
 obtain ⟨I,pre,h0,h1,h2⟩:=h
 exact h2.sub
theorem RSt.at_ (h:RSt u a L l m n b w):l.length - atR w a=m.length:=by
 obtain ⟨I,pre,rfl,h1,h2⟩:=h
 unfold atR
 rw [h1.load h2 (k:=1) rfl]
 simp
end
end Go.Vc
namespace Go.Vc
open Go Go.Proofs Go.RowKit
section
variable {u v w:World} {l m:List UInt8} {a:Addr} {L I J K:Items} {n:Int} {b:Bool}
end
end Go.Vc
namespace Go.Vc
open Go Go.Proofs Go.RowKit
section
variable {u v w:World} {l m:List UInt8} {a:Addr} {L I J K:Items} {n:Int} {b:Bool}
end
end Go.Vc
namespace Go.Vc
open Go Go.Proofs Go.RowKit
section
variable {u v w:World} {l m:List UInt8} {a:Addr} {L I J K:Items} {n:Int} {b:Bool}
end
end Go.Vc
