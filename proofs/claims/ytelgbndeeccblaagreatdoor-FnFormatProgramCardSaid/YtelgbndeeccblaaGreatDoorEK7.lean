/- Part of the proofs about the heaps and memories: a law is joined in the text whose name ends in W and the law. -/
import Derived.Test.YtelgbndeeccblaaGreatDoorEK6
set_option linter.all false
namespace Go.Vc
open Go Go.Proofs Go.RowKit
section
variable {u v w:World} {x y z xf s t cx px pl:Sl} {l ws fs ls:List Int} {ds:List DeclD} {ss:List SigD} {ps:List ProcD} {gs:List FuncD} {b m n k f a e i op num regs at_ end_ n1:Int} {c:InstrD} {p:ProcD} {code:List InstrD} {jl:Nat} {q:Bool}
end
end Go.Vc
namespace Go.Vc
open Go Go.Proofs Go.RowKit
class Shr (α:Type) [Dat α] [Cost α]:Prop where
 shr:∀ {B:Nat} {w:World} {cs:List Value} {a:α},Dat.cells B w cs a→Cost.cost a≤1099511627776→Dat.cells BB w cs a
theorem cost_mem {α:Type} [Cost α] {l:List α} {a:α} (h:a∈l):Cost.cost a≤(l.map Cost.cost).sum:=by
 induction l with
 | nil=>cases h
 | cons b r ih=>
  rw [List.map_cons,List.sum_cons]
  rcases List.mem_cons.1 h with rfl|h
  ·omega
  ·have:=ih h;omega
theorem ReadB.shr {α:Type} [Dat α] [Cost α] [Shr α] {B:Nat} {v:World} {x:Sl} {l:List α} (hx:ReadB B v x l) (h:costL l≤1099511627776):Read v x l:=by
 obtain ⟨rows,h1,h2,h3⟩:=hx
 unfold costL at h
 exact ⟨rows,h1,⟨h2.1,fun i r a hr ha=>Shr.shr (h2.2 i r a hr ha) (by have:=cost_mem (List.mem_of_getElem? ha);omega)⟩,by show l.length≤1099511627776;omega⟩
instance:Shr ConD:=⟨fun ⟨f,h0,r⟩ hc=>⟨f,h0,r.toInts hc⟩⟩
instance:Shr DeclD:=⟨fun ⟨f,h0,i1,i2,r⟩ hc=>⟨f,h0,i1,i2,r.shr hc⟩⟩
instance:Shr InstrD:=⟨fun {B w cs a} ⟨f,g,h0,i1,i2,i3,i4,r1,r2⟩ hc=>⟨f,g,h0,i1,i2,i3,i4,r1.toInts (by have:a.args.length+a.jumps.length≤1099511627776:=hc;show _≤1099511627776;omega),r2.toInts (by have:a.args.length+a.jumps.length≤1099511627776:=hc;show _≤1099511627776;omega)⟩⟩
instance:Shr ProcD:=⟨fun {B w cs a} ⟨f,g,k,h0,i1,i2,r1,r2,r3⟩ hc=>by
 have hc:a.params.length+a.lent.length+costL a.code≤1099511627776:=hc
 exact ⟨f,g,k,h0,i1,i2,r1.toInts (by show _≤1099511627776;omega),r2.toInts (by show _≤1099511627776;omega),r3.shr (by omega)⟩⟩
section
variable {u v w:World} {x y z xf s t cx px pl xd xp:Sl} {l ws fs ls:List Int} {ds:List DeclD} {ss:List SigD} {ps:List ProcD} {gs:List FuncD} {b m n k f e i op num regs at_ end_ n1:Int} {c:InstrD} {p:ProcD} {code:List InstrD} {jl:Nat} {q:Bool} {a:Addr} {I J K L R:Items}
theorem consL_sm (h:typesOk ds):(consL ds n).length≤3∧(0 < (consL ds n).length→1≤n∧n≤ds.length):=by
 unfold consL
 split
 ·rename_i hp
  have:=(declOk_easy (h.2 (n - 1) (by omega) (by omega))).2.2.1
  simp only [List.length_map,List.length_range]
  exact ⟨this,fun _=>hp⟩
 ·simp
end
end Go.Vc
namespace Go.Vc
open Go Go.Proofs Go.RowKit
section
variable {u v w:World} {x y z t s:Sl} {ds es:List DeclD} {ps qs:List ProcD} {b:Int} {a:Addr} {I J K L R:Items}
end
end Go.Vc
namespace Go.Vc
open Go Go.Proofs Go.RowKit
class Mark (α:Type) where
 room:α→Nat
 mark:Int→α→α
def rooms {α:Type} [Mark α] (l:List α):Nat:=(l.map Mark.room).sum
def markL {α:Type} [Mark α]:Int→List α→List α
 | _,[]=>[]
 | n,a ::r=>Mark.mark n a ::markL (n+Mark.room a) r
section
variable {α:Type} [Mark α]
end
instance:Mark ConD:=⟨fun c=>c.fields.length,fun n c=>⟨marks (n) c.fields.length⟩⟩
section
variable {u v w:World} {x y:Sl} {l m:List ConD} {n b i:Int} {I J L R:Items}
end
instance:Mark DeclD:=⟨fun c=>1+1+rooms c.cons,fun n c=>⟨n,n+1,markL (n+1+1) c.cons⟩⟩
section
variable {u v w:World} {x y:Sl} {l m:List DeclD} {n b i:Int} {I J L R:Items}
end
instance:Mark InstrD:=⟨fun c=>1+1+1+1+c.args.length+c.jumps.length,fun n c=>⟨n,n+1,n+1+1,n+1+1+1,marks (n+1+1+1+1) c.args.length,marks (n+1+1+1+1+c.args.length) c.jumps.length⟩⟩
section
variable {u v w:World} {x y:Sl} {l m:List InstrD} {n b i:Int} {I J L R:Items}
end
instance:Mark ProcD:=⟨fun c=>c.params.length+c.lent.length+1+1+rooms c.code,fun n c=>⟨marks (n) c.params.length,marks (n+c.params.length) c.lent.length,n+c.params.length+c.lent.length,n+c.params.length+c.lent.length+1,markL (n+c.params.length+c.lent.length+1+1) c.code⟩⟩
section
variable {u v w:World} {x y:Sl} {l m:List ProcD} {n b i:Int} {I J L R:Items}
end
end Go.Vc
namespace Go.Vc
open Go Go.Proofs Go.RowKit
def OwnI (x:Sl) (l:List Int) (J:Items):Prop:=∀ u,Own u x l J
structure ImD where
 decls:List DeclD
 procs:List ProcD
section
variable {α:Type} [Mark α] [Cost α]
end
section
variable {u v w:World} {x y z t s:Sl} {l ws:List Int} {m m':ImD} {b n:Int} {a:Addr} {I J K L R:Items} {F:Items→Items}
theorem Own.toI (h:Own u x l I):OwnI x l I:=h.toAll
theorem OwnI.read (h:OwnI x l I) (hS:St u w L) [p:Pos I L R F]:Read w x l:=Own.read (h u) hS
end
end Go.Vc
