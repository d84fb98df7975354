/- Part of the proofs about the heaps and memories: a law is joined in the text whose name ends in W and the law. -/
import Derived.WalkKit
import Derived.Deep.Quiet
set_option linter.all false
namespace Go.Vc
open Go
def absent:Obj:=.deferred .none
structure Sub (v w:World):Prop where
  size:v.heap.size≤w.heap.size
  at_:∀ (b:Nat) (o:Obj),v.heap[b]?=some o→o≠absent→w.heap[b]?=some o
def Out (v:World) (b:Nat):Prop:=∀ o,v.heap[b]?=some o→o=absent
structure Fr (v w v' w':World):Prop where
  sub:Sub v' w'
  size:w.heap.size≤w'.heap.size
  os:w'.os=w.os
  tape:w'.tape=w.tape
  output:w'.output=w.output
  out:∀ b,b < w.heap.size→Out v b→Out v' b∧w'.heap[b]?=w.heap[b]?
structure Sl where
  a:Option Addr
  n:Nat
  c:Nat
def Sl.val (x:Sl):Value:=.slice x.a x.n x.c
def Trip (P:Program) (f:FuncId) (args:Array Value) (v:World) (Q:Value→World→Prop):Prop:=
  (∀ w:World,(callFunc f args).run P w=.ok (.enter f args) w)∧
  ∀ w:World,Sub v w→Calls P f args w fun e w'=>∃ r v',e=.returned r∧Fr v w v' w'∧Q r v'
def StepT (P:Program) (s:Sem Value) (v:World) (Q:Value→World→Prop):Prop:=
  ∀ w:World,Sub v w→∃ r w' v',s.run P w=.ok r w'∧Fr v w v' w'∧Q r v'
def StepU (P:Program) (s:Sem Unit) (v:World) (Q:World→Prop):Prop:=
  ∀ w:World,Sub v w→∃ w' v',s.run P w=.ok () w'∧Fr v w v' w'∧Q v'
def PureT (P:Program) (s:Sem Value) (v:World) (r:Value):Prop:=
  ∀ w:World,Sub v w→s.run P w=.ok r w
structure Vl where
  x:Value
  h:x.oneCell'=true
inductive SV where
  | num (k:IntKind) (n:Int)
  | b (q:Bool)
  | tt
  | ff
  | st (x:ByteArray)
  | sl (x:Sl)
  | v (x:Vl)
  | bx (i off:Nat)
  | pt (a:Addr) (off:Nat)
  | ag (l:List SV)
  | tp (l:List SV)
  | clo (f:Nat) (l:List SV)
  | gd (c:List (Nat×Bool)) (x:SV)
def den0 (β:List Nat):SV→Value
  | .num k n=>.int k n
  | .b q=>.bool q
  | .tt=>.bool true
  | .ff=>.bool false
  | .st x=>.string x
  | .sl x=>.slice x.a x.n x.c
  | .v x=>x.x
  | .bx i off=>.pointer (some ⟨β.getD i 0,off,none⟩)
  | .pt a off=>.pointer (some (a.add off))
  | _=>undef
def den1 (β:List Nat):SV→Value
  | .ag l=>.agg (l.map (den0 β)).toArray
  | .clo f l=>.func (.func f) #[] (l.map (den0 β)).toArray
  | x=>den0 β x
def den (β:List Nat):SV→Value
  | .tp l=>.tuple (l.map (den1 β)).toArray
  | x=>den1 β x
def clean0:SV→Bool
  | .bx ..|.ag _|.tp _|.clo ..|.gd ..=>false
  | _=>true
def clean1:SV→Bool
  | .ag l=>l.all clean0
  | .clo _ l=>l.all clean0
  | x=>clean0 x
def clean:SV→Bool
  | .tp l=>l.all clean1
  | x=>clean1 x
def wf0 (m:Nat):SV→Bool
  | .bx i _=>Nat.blt i m
  | .ag _|.tp _|.clo ..|.gd ..=>false
  | _=>true
def wf1 (m:Nat):SV→Bool
  | .ag l=>l.all (wf0 m)
  | .clo _ l=>l.all (wf0 m)
  | x=>wf0 m x
def wf2 (m:Nat):SV→Bool
  | .tp l=>l.all (wf1 m)
  | .gd _ _=>false
  | x=>wf1 m x
def ofCell:Value→Option SV
  | .int k n=>some (.num k n)
  | .bool true=>some .tt
  | .bool false=>some .ff
  | .string x=>some (.st x)
  | .slice a n c=>some (.sl ⟨a,n,c⟩)
  | .pointer a=>some (.v ⟨.pointer a,rfl⟩)
  | .map a=>some (.v ⟨.map a,rfl⟩)
  | .nilFunc=>some (.v ⟨.nilFunc,rfl⟩)
  | .nilIface=>some (.v ⟨.nilIface,rfl⟩)
  | _=>none
def ofCells:List Value→Option (List SV)
  | []=>some []
  | x ::r=>match ofCell x,ofCells r with
    | some y,some l=>some (y ::l)
    | _,_=>none
def ofValue:Value→Option SV
  | .agg cs=>match ofCells cs.toList with
    | some l=>some (.ag l)
    | none=>none
  | x=>ofCell x
inductive K where
  | int (k:IntKind)
  | bool
  | str
  | sl
  | ptr
  | val
structure Sy where
  env:List (Nat×SV)
  box:List (Nat×List SV)
inductive X where
  | normal
  | exit (id:Nat)
  | ret
structure Ann where
  loops:List (Nat×List (Nat×K)×List (Nat×Nat×K))
  joins:List (Nat×List (Nat×K)×List (Nat×Nat×K))
  orders:List (Nat×List Nat)
  pubs:List Nat
  pures:List Nat
def lookN {α:Type} (i:Nat):List (Nat×α)→Option α
  | []=>none
  | (j,x) ::r=>bif Nat.beq i j then some x else lookN i r
def memN (i:Nat):List Nat→Bool
  | []=>false
  | j ::r=>bif Nat.beq i j then true else memN i r
def refs (d:Nat):SV→Bool
  | .gd c _=>c.any fun p=>Nat.beq p.1 d
  | _=>false
def setE (d:Nat) (x:SV) (e:List (Nat×SV)):List (Nat×SV):=
  (d,x) ::e.filter fun p=>!(Nat.beq p.1 d) && !(refs d p.2)
def subC (c C:List (Nat×Bool)):Bool:=
  c.all fun p=>C.any fun q=>Nat.beq p.1 q.1 && (p.2 == q.2)
def ev (s:Sy) (C:List (Nat×Bool)):Operand→Option SV
  | .tmp t=>match lookN t s.env with
    | some (.gd c x)=>bif subC c C then some x else none
    | r=>r
  | .const x=>ofValue x
  | .global g=>some (.pt ⟨g,0,none⟩ 0)
  | .func f=>some (.clo f [])
def evs (s:Sy) (C:List (Nat×Bool)):List Operand→Option (List SV)
  | []=>some []
  | x ::r=>match ev s C x,evs s C r with
    | some y,some l=>some (y ::l)
    | _,_=>none
def boolOf:SV→Option Bool
  | .b q=>some q
  | .tt=>some true
  | .ff=>some false
  | _=>none
def imp (s:Sy):List (Nat×Bool)→Prop→Prop
  | [],O=>O
  | (t,want) ::r,O=>match lookN t s.env with
    | some (.b q)|some (.gd _ (.b q))=>q=want→imp s r O
    | _=>imp s r O
def kindOf (P:Program) (t:TypeId):K:=
  match P.underlying t with
  | some (.int k)=>.int k
  | some .bool=>.bool
  | some .string=>.str
  | some (.slice _)=>.sl
  | some (.pointer _)=>.ptr
  | _=>.val
def isAggT (P:Program) (t:TypeId):Bool:=
  match P.underlying t with
  | some (.struct _)|some (.array _ _)=>true
  | _=>false
def aggT (P:Program) (t:TypeId):Option Bool:=
  match P.underlying t with
  | some (.struct _)|some (.array _ _)=>some true
  | some _=>some false
  | none=>none
def sizeT (P:Program) (t:TypeId):Nat:=match P.info? t with|some i=>i.size|none=>0
def cellKinds (P:Program):Nat→TypeId→List K
  | 0,_=>[]
  | d+1,t=>match P.underlying t with
    | some (.struct fs)=>(fs.toList.map fun f=>cellKinds P d f.type).flatten
    | some (.pointer _)=>[.val]
    | _=>[kindOf P t]
def exK:List K→(List SV→Prop)→Prop
  | [],f=>f []
  | .int k ::r,f=>∃ n:Int,exK r fun l=>f (.num k n ::l)
  | .bool ::r,f=>∃ q:Bool,exK r fun l=>f (.b q ::l)
  | .str ::r,f=>∃ x:ByteArray,exK r fun l=>f (.st x ::l)
  | .sl ::r,f=>∃ x:Sl,exK r fun l=>f (.sl x ::l)
  | .ptr ::r,f=>∃ a:Addr,exK r fun l=>f (.pt a 0 ::l)
  | .val ::r,f=>∃ x:Vl,exK r fun l=>f (.v x ::l)
def allK:List K→(List SV→Prop)→Prop
  | [],f=>f []
  | .int k ::r,f=>∀ n:Int,allK r fun l=>f (.num k n ::l)
  | .bool ::r,f=>∀ q:Bool,allK r fun l=>f (.b q ::l)
  | .str ::r,f=>∀ x:ByteArray,allK r fun l=>f (.st x ::l)
  | .sl ::r,f=>∀ x:Sl,allK r fun l=>f (.sl x ::l)
  | .ptr ::r,f=>∀ a:Addr,allK r fun l=>f (.pt a 0 ::l)
  | .val ::r,f=>∀ x:Vl,allK r fun l=>f (.v x ::l)
def KTy (R:Type):List K→Type
  | []=>World→R
  | .int _ ::r=>Int→KTy R r
  | .bool ::r=>Bool→KTy R r
  | .str ::r=>ByteArray→KTy R r
  | .sl ::r=>Sl→KTy R r
  | .ptr ::r=>Addr→KTy R r
  | .val ::r=>Vl→KTy R r
def app {R:Type} (d:R):(ks:List K)→KTy R ks→List SV→World→R
  | [],I,[],w=>I w
  | .int _ ::r,I,.num _ n ::l,w=>app d r (I n) l w
  | .bool ::r,I,.b q ::l,w=>app d r (I q) l w
  | .str ::r,I,.st x ::l,w=>app d r (I x) l w
  | .sl ::r,I,.sl x ::l,w=>app d r (I x) l w
  | .ptr ::r,I,.pt a _ ::l,w=>app d r (I a) l w
  | .val ::r,I,.v x ::l,w=>app d r (I x) l w
  | _,_,_,_=>d
def conv:K→SV→Option SV
  | .int k,.num k' n=>if k=k' then some (.num k n) else none
  | .bool,.b q=>some (.b q)
  | .bool,.tt=>some (.b true)
  | .bool,.ff=>some (.b false)
  | .str,.st x=>some (.st x)
  | .sl,.sl x=>some (.sl x)
  | .ptr,.pt a off=>some (.pt (a.add off) 0)
  | .val,.v x=>some (.v x)
  | .val,.num k n=>some (.v ⟨.int k n,rfl⟩)
  | .val,.b q=>some (.v ⟨.bool q,rfl⟩)
  | .val,.sl x=>some (.v ⟨.slice x.a x.n x.c,rfl⟩)
  | .val,.pt a off=>some (.v ⟨.pointer (some (a.add off)),rfl⟩)
  | _,_=>none
def valsE (s:Sy):List (Nat×K)→Option (List SV)
  | []=>some []
  | (t,k) ::r=>match (lookN t s.env).bind (conv k),valsE s r with
    | some x,some l=>some (x ::l)
    | _,_=>none
def valsB (s:Sy):List (Nat×Nat×K)→Option (List SV)
  | []=>some []
  | (i,j,k) ::r=>match ((s.box[i]?).bind fun p=>(p.2[j]?)).bind (conv k),valsB s r with
    | some x,some l=>some (x ::l)
    | _,_=>none
def vals (s:Sy) (sl:List (Nat×K)) (bl:List (Nat×Nat×K)):Option (List SV):=
  match valsE s sl,valsB s bl with
  | some a,some b=>some (a++b)
  | _,_=>none
def setB (i j:Nat) (x:SV) (bx:List (Nat×List SV)):List (Nat×List SV):=
  match bx[i]? with
  | some (t,cs)=>bx.set i (t,cs.set j x)
  | none=>bx
def putB:List (Nat×Nat×K)→List SV→List (Nat×List SV)→List (Nat×List SV)
  | (i,j,_) ::r,x ::l,bx=>putB r l (setB i j x bx)
  | _,_,bx=>bx
def putE:List (Nat×K)→List SV→List (Nat×SV)→List (Nat×SV)
  | (t,_) ::r,x ::l,e=>(t,x) ::putE r l e
  | _,_,e=>e
def kindsOf (sl:List (Nat×K)) (bl:List (Nat×Nat×K)):List K:=sl.map (·.2)++bl.map (·.2.2)
def writes:Code→List Nat
  | .region _ ops _=>ops.toList.filterMap (·.dst)
  | .seq a b=>writes a++writes b
  | .cond _ a b=>writes a++writes b
  | .block _ a=>writes a
  | .loop a=>writes a
  | .scope a=>writes a
  | _=>[]
def firstRegion:Code→Nat
  | .region id _ _=>id
  | .seq a _=>firstRegion a
  | .cond _ a _=>firstRegion a
  | .block _ a=>firstRegion a
  | .loop a=>firstRegion a
  | .scope a=>firstRegion a
  | _=>1000000
def headOf (s:Sy) (ws:List Nat) (sl:List (Nat×K)) (bl:List (Nat×Nat×K)) (l:List SV):Sy:=
  { env:=putE sl l (s.env.filter fun p=>!(memN p.1 ws) && wf2 s.box.length p.2)
    box:=putB bl (l.drop sl.length) s.box }
def declared (i j:Nat):List (Nat×Nat×K)→Bool
  | []=>false
  | (i',j',_) ::r=>bif Nat.beq i i' && Nat.beq j j' then true else declared i j r
def sameC (bl:List (Nat×Nat×K)) (i:Nat):Nat→List SV→List SV→Prop→Prop
  | _,[],[],Q=>Q
  | j,x ::r,y ::r',Q=>match declared i j bl with
    | true=>sameC bl i (j+1) r r' Q
    | false=>x=y∧sameC bl i (j+1) r r' Q
  | _,_,_,_=>False
def sameB (bl:List (Nat×Nat×K)):Nat→List (Nat×List SV)→List (Nat×List SV)→Prop→Prop
  | _,[],_,Q=>Q
  | i,(t,cs) ::r,(t',cs') ::r',Q=>match Nat.beq t t' with
    | true=>sameC bl i 0 cs cs' (sameB bl (i+1) r r' Q)
    | false=>False
  | _,_,_,_=>False
def CellsAt (w:World) (a:Addr):Nat→List Value→Prop
  | _,[]=>True
  | off,[x]=>w.cell? (a.add off)=some x
  | off,x ::r=>w.cell? (a.add off)=some x∧CellsAt w a (off+1) r
def InK (k:IntKind) (n:Int):Prop:=k.wrap n=n
def Wr (k:IntKind) (n r:Int):Prop:=k.wrap n=r
def elA (x:Sl) (i:Int) (sz:Nat):Addr:=(x.a.getD default).add (i.toNat * sz)
def IxOk (x:Sl) (i:Int):Prop:=x.a.isSome=true∧0≤i∧i < x.n
def Sl.cut (x:Sl) (l h:Int) (sz:Nat):Sl:=
  ⟨if x.c=l.toNat then x.a else x.a.map (·.add (l.toNat * sz)),h.toNat - l.toNat,x.c - l.toNat⟩
def CutOk (x:Sl) (l h:Int):Prop:=0≤l∧l≤h∧h≤x.c
def StrOk (x:ByteArray) (l h:Int):Prop:=0≤l∧l≤h∧h≤x.size
def strCut (x:ByteArray) (l h:Int):ByteArray:=x.extract l.toNat h.toNat
def strIx (x:ByteArray) (i:Int):Int:=((x.data.getD i.toNat 0).toNat:Int)
def StrIxOk (x:ByteArray) (i:Int):Prop:=0≤i∧i < x.size
def ArrIx (len:Nat) (l:List Value) (n:Int) (y:Value):Prop:=0≤n∧n < len∧l[n.toNat]?=some y
def setCellsW (w:World) (a:Addr):Nat→List Value→World
  | _,[]=>w
  | off,x ::r=>setCellsW (w.setCell (a.add off) x) a (off+1) r
def CanSet (w:World) (a:Addr):Nat→List Value→Prop
  | _,[]=>True
  | off,[_]=>(∃ u,w.cell? (a.add off)=some u)∧w.frozen? (a.add off)=false
  | off,_ ::r=>(∃ u,w.cell? (a.add off)=some u)∧w.frozen? (a.add off)=false∧CanSet w a (off+1) r
def StoreAt (w:World) (a:Addr) (off:Nat) (l:List Value) (Q:World→Prop):Prop:=
  CanSet w a off l∧Q (setCellsW w a off l)
def NewAt (w:World) (o:Obj) (Q:Addr→World→Prop):Prop:=
  ∀ (g:Nat) (w':World),w.heap.size≤g→Sub w w'→w'.heap[g]?=some o→Q ⟨g,0,.none⟩ w'
def orB:SV→SV→Option SV
  | .b p,.b q=>some (.b (p || q))
  | .b p,.ff=>some (.b p)
  | .b _,.tt=>some .tt
  | .tt,_=>some .tt
  | .ff,x=>some x
  | _,_=>none
def pickB:SV→SV→SV→Option SV
  | .tt,x,_=>some x
  | .ff,_,y=>some y
  | .b c,.tt,.b q=>some (.b (c || q))
  | .b c,.tt,.ff=>some (.b c)
  | .b _,.tt,.tt=>some .tt
  | .b c,.b q,.ff=>some (.b (c && q))
  | .b _,.ff,.ff=>some .ff
  | .b c,.b p,.b q=>some (.b (bif c then p else q))
  | .b c,.b p,.tt=>some (.b (!c || p))
  | .b c,.ff,.b q=>some (.b (!c && q))
  | .b c,.ff,.tt=>some (.b (!c))
  | _,_,_=>none
def intCmpB (op:BinOp) (x y:Int):Option Bool:=
  match op with
  | .eql=>some (decide (x=y))
  | .neq=>some (!decide (x=y))
  | .lss=>some (decide (x < y))
  | .leq=>some (decide (x≤y))
  | .gtr=>some (decide (x > y))
  | .geq=>some (decide (x≥y))
  | _=>none
def intBin (op:BinOp) (k:IntKind) (x y:Int) (im:Prop→Prop) (Kt:SV→Prop):Prop:=
  match op with
  | .add=>∃ r:Int,im (Wr k (x+y) r)∧Kt (.num k r)
  | .sub=>∃ r:Int,im (Wr k (x - y) r)∧Kt (.num k r)
  | .mul=>∃ r:Int,im (Wr k (x * y) r)∧Kt (.num k r)
  | .quo=>∃ r:Int,im (y≠0∧Wr k (x.tdiv y) r)∧Kt (.num k r)
  | .rem=>im (y≠0)∧Kt (.num k (x.tmod y))
  | .and|.or|.xor|.andNot|.shl|.shr=>False
  | op=>match intCmpB op x y with
    | some q=>Kt (.b q)
    | none=>False
def takeC (cs:List SV) (off n:Nat):Option (List SV):=
  match Nat.ble (off+n) cs.length with
  | true=>some ((cs.drop off).take n)
  | false=>none
def updC (cs:List SV) (off:Nat):List SV→Option (List SV)
  | []=>some cs
  | x ::r=>match Nat.blt off cs.length with
    | true=>updC (cs.set off x) (off+1) r
    | false=>none
def cellsS:SV→List SV
  | .ag l=>l
  | .clo f l=>match l.all clean0 with
    | true=>[.v ⟨.func (.func f) #[] (l.map (den0 [])).toArray,rfl⟩]
    | false=>[.clo f l]
  | x=>[x]
def fillS (fs:Array Field) (P:Program) (cs:List SV):List (Nat×SV)→Option (List SV)
  | []=>some cs
  | (i,x) ::r=>match fs[i]? with
    | some f=>match Nat.beq (cellsS x).length (sizeT P f.type) && Nat.ble (f.offset+(cellsS x).length) cs.length with
      | true=>match updC cs f.offset (cellsS x) with
        | some cs'=>fillS fs P cs' r
        | none=>none
      | false=>none
    | none=>none
def fillA (sz:Nat) (cs:List SV):List (Nat×SV)→Option (List SV)
  | []=>some cs
  | (i,x) ::r=>match Nat.beq (cellsS x).length sz && Nat.ble (i * sz+(cellsS x).length) cs.length with
    | true=>match updC cs (i * sz) (cellsS x) with
      | some cs'=>fillA sz cs' r
      | none=>none
    | false=>none
def zeroS (P:Program) (t:TypeId):Option (List SV):=
  match P.info? t with
  | some i=>match i.zero with
    | some z=>ofCells z.cells.toList
    | none=>none
  | none=>none
def ev? (s:Sy) (C:List (Nat×Bool)):Option Operand→Option (Option SV)
  | none=>some none
  | some x=>match ev s C x with
    | some y=>some (some y)
    | none=>none
def evP (s:Sy) (C:List (Nat×Bool)):List (Nat×Operand)→Option (List (Nat×SV))
  | []=>some []
  | (i,x) ::r=>match ev s C x,evP s C r with
    | some y,some l=>some ((i,y) ::l)
    | _,_=>none
def evd (s:Sy) (C:List (Nat×Bool)) (x:Operand):Option Value:=
  match ev s C x with
  | some y=>match clean y with
    | true=>some (den [] y)
    | false=>none
  | none=>none
def semOf (s:Sy) (C:List (Nat×Bool)) (o:Oper):Option (Sem Value):=
  match o.op with
  | .makeSlice t l c=>match evd s C l,evd s C c with
    | some l',some c'=>some (Instr.makeSlice t l' c')
    | _,_=>none
  | .buildSlice t n parts=>match evP s C parts.toList with
    | some ps=>match ps.all fun p=>clean p.2 with
      | true=>some (Instr.buildSlice t n (ps.map fun p=>(p.1,den [] p.2)).toArray)
      | false=>none
    | none=>none
  | .makeMap t r=>match r with
    | none=>some (Instr.makeMap t none)
    | some x=>match evd s C x with
      | some y=>some (Instr.makeMap t (some y))
      | none=>none
  | .lookup t x i ok=>match evd s C x,evd s C i with
    | some x',some i'=>some (Instr.lookup t x' i' ok)
    | _,_=>none
  | .range t x=>(evd s C x).map (Instr.range t)
  | .next x q=>(evd s C x).map fun y=>Instr.next y q o.type
  | .convert a b x=>(evd s C x).map (convert a b)
  | .binOp op t x y _=>match evd s C x,evd s C y with
    | some x',some y'=>some (do eqGuard op t x y x' y';binOp op t x' y')
    | _,_=>none
  | .call c=>match c.callee,evs s C c.args.toList with
    | .builtin b,some l=>match l.all clean with
      | true=>
        let as:=(l.map (den [])).toArray
        match b with
        | .append=>some (Builtin.append_ c.argTypes o.type as)
        | .copy=>some (Builtin.copy_ c.argTypes o.type as)
        | .clear=>some (Builtin.clear_ c.argTypes o.type as)
        | .delete=>some (Builtin.delete_ c.argTypes o.type as)
        | .len=>some (Builtin.len_ c.argTypes o.type as)
        | .cap=>some (Builtin.cap_ c.argTypes o.type as)
        | .min=>some (Builtin.min_ c.argTypes o.type as)
        | .max=>some (Builtin.max_ c.argTypes o.type as)
        | _=>none
      | false=>none
    | _,_=>none
  | _=>none
def pureSem (P:Program) (C:List (Nat×Bool)) (o:Oper) (s:Sy) (w:World) (Kt:SV→Prop):Prop:=
  match semOf s C o with
  | some e=>exK [kindOf P o.type] fun l=>match l with
    | [y]=>imp s C (PureT P e w (den0 [] y))∧Kt y
    | _=>False
  | none=>False
def isBit:BinOp→Bool
  | .and|.or|.xor|.andNot|.shl|.shr=>true
  | _=>false
def pureOp (P:Program) (C:List (Nat×Bool)) (o:Oper) (s:Sy) (w:World) (Kt:SV→Prop):Prop:=
  match o.op with
  | .move x|.assign x=>match ev s C x with
    | some y=>Kt y
    | none=>False
  | .pick c x y=>match c with
    | .tmp t=>match ev s C c,ev s ((t,true) ::C) x,ev s ((t,false) ::C) y with
      | some c',some x',some y'=>match pickB c' x' y' with
        | some r=>Kt r
        | none=>False
      | _,_,_=>False
    | _=>False
  | .binOp op t x y _=>match ev s C x,ev s C y with
    | some (.num k m),some (.num k' n)=>match isBit op with
      | true=>pureSem P C o s w Kt
      | false=>if k=k' then intBin op k m n (imp s C) Kt else False
    | some (.st m),some (.st n)=>match op with
      | .eql=>Kt (.b (m.toList == n.toList))
      | .neq=>Kt (.b (!(m.toList == n.toList)))
      | .lss=>Kt (.b (Op.bytesLess m.toList n.toList))
      | .add=>imp s C (((m.size+n.size:Nat):Int)≤9223372036854775807)∧Kt (.st (m++n))
      | _=>False
    | some p,some q=>match P.underlying t,boolOf p,boolOf q with
      | some .bool,some p',some q'=>match op with
        | .eql=>Kt (.b (p' == q'))
        | .neq=>Kt (.b (!(p' == q')))
        | _=>False
      | _,_,_=>pureSem P C o s w Kt
    | _,_=>False
  | .unOp op _ x=>match op,ev s C x with
    | .not,some (.b q)=>Kt (.b (!q))
    | .not,some .tt=>Kt .ff
    | .not,some .ff=>Kt .tt
    | .neg,some (.num k n)=>∃ r:Int,imp s C (Wr k (0 - n) r)∧Kt (.num k r)
    | _,_=>False
  | .nilCheck x=>match ev s C x with
    | some (.pt a off)=>Kt (.pt a off)
    | some (.bx i off)=>Kt (.bx i off)
    | some (.v y)=>∃ a:Addr,imp s C (y.x=.pointer (some a))∧Kt (.pt a 0)
    | _=>False
  | .fieldAddr t x f=>match P.underlying t with
    | some (.struct fs)=>match fs[f]? with
      | some fl=>match P.info? fl.type with
        | some i=>match Nat.beq i.size 0,ev s C x with
          | false,some (.pt a off)=>Kt (.pt a (off+fl.offset))
          | false,some (.bx i off)=>Kt (.bx i (off+fl.offset))
          | _,_=>False
        | none=>False
      | none=>False
    | _=>False
  | .indexAddr t x i=>match P.underlying t with
    | some (.slice e)=>match P.info? e with
      | some inf=>match ev s C x,ev s C i with
        | some (.sl y),some (.num _ n)=>imp s C (IxOk y n)∧Kt (.pt (elA y n inf.size) 0)
        | _,_=>False
      | none=>False
    | _=>False
  | .index t x i=>match P.underlying t with
    | some .string=>match ev s C x,ev s C i with
      | some (.st y),some (.num _ n)=>imp s C (StrIxOk y n)∧Kt (.num .u8 (strIx y n))
      | _,_=>False
    | some (.array len e)=>match ev s C x,ev s C i,P.info? e,aggT P e with
      | some (.ag l),some (.num _ n),some ie,some false=>match Nat.beq ie.size 1,l.all clean0 with
        | true,true=>exK [kindOf P e] fun r=>match r with
          | [y]=>imp s C (ArrIx len (l.map (den0 [])) n (den0 [] y))∧Kt y
          | _=>False
        | _,_=>False
      | _,_,_,_=>False
    | _=>False
  | .field t x f=>match P.underlying t with
    | some (.struct fs)=>match fs[f]? with
      | some fl=>match P.info? fl.type,ev s C x with
        | some i,some (.ag l)=>match aggT P fl.type with
          | some true=>match takeC l fl.offset i.size with
            | some l'=>Kt (.ag l')
            | none=>False
          | some false=>match l[fl.offset]? with
            | some y=>Kt y
            | none=>False
          | none=>False
        | _,_=>False
      | none=>False
    | _=>False
  | .load t x=>match P.info? t with
    | some inf=>match ev s C x with
      | some (.bx i off)=>match s.box[i]? with
        | some (_,cs)=>match takeC cs off inf.size with
          | some l=>match aggT P t,l with
            | some true,l=>Kt (.ag l)
            | some false,[y]=>Kt y
            | _,_=>False
          | none=>False
        | none=>False
      | some (.pt a off)=>match Nat.beq (cellKinds P 9 t).length inf.size,Nat.blt 0 inf.size with
        | true,true=>exK (cellKinds P 9 t) fun l=>imp s C (CellsAt w a off (l.map (den0 [])))∧match aggT P t,l with
          | some true,l=>Kt (.ag l)
          | some false,[y]=>Kt y
          | _,_=>False
        | _,_=>False
      | _=>False
    | none=>False
  | .extract x i=>match ev s C x with
    | some (.tp l)=>match l[i]? with
      | some y=>Kt y
      | none=>False
    | _=>False
  | .build t parts=>match P.underlying t,zeroS P t,evP s C parts.toList with
    | some (.struct fs),some cs,some ps=>match ps.all (fun p=>(cellsS p.2).all (wf0 s.box.length)),fs.toList.all (fun f=>match P.info? f.type with|some _=>true|none=>false),fillS fs P cs ps with
      | true,true,some l=>Kt (.ag l)
      | _,_,_=>False
    | some (.array _ e),some cs,some ps=>match P.info? e with
      | some ie=>match ps.all (fun p=>(cellsS p.2).all (wf0 s.box.length)),fillA ie.size cs ps with
        | true,some l=>Kt (.ag l)
        | _,_=>False
      | none=>False
    | _,_,_=>False
  | .makeFunc (.func f) first caps=>match first.size,evs s C caps.toList with
    | 0,some l=>match l.all (wf0 s.box.length) with
      | true=>Kt (.clo f l)
      | false=>False
    | _,_=>False
  | .convert a b x=>match P.underlying a,P.underlying b,ev s C x with
    | some (.int _),some (.int k),some (.num _ n)=>∃ r:Int,imp s C (Wr k n r)∧Kt (.num k r)
    | some .string,some .string,some (.st y)=>Kt (.st y)
    | _,_,_=>pureSem P C o s w Kt
  | .slice t x lo hi mx=>match mx with
    | some _=>False
    | none=>match P.underlying t,ev s C x,ev? s C lo,ev? s C hi with
      | some (.slice e),some (.sl y),some lo',some hi'=>match P.info? e with
        | some inf=>
          match lo',hi' with
          | some (.num _ l),some (.num _ h)=>imp s C (CutOk y l h)∧Kt (.sl (y.cut l h inf.size))
          | some (.num _ l),none=>imp s C (0≤l∧l≤y.n)∧Kt (.sl (y.cut l y.n inf.size))
          | none,some (.num _ h)=>imp s C (CutOk y 0 h)∧Kt (.sl (y.cut 0 h inf.size))
          | none,none=>Kt (.sl (y.cut 0 y.n inf.size))
          | _,_=>False
        | none=>False
      | some .string,some (.st y),some lo',some hi'=>
          match lo',hi' with
          | some (.num _ l),some (.num _ h)=>imp s C (StrOk y l h)∧Kt (.st (strCut y l h))
          | some (.num _ l),none=>imp s C (0≤l∧l≤y.size)∧Kt (.st (strCut y l y.size))
          | none,some (.num _ h)=>imp s C (StrOk y 0 h)∧Kt (.st (strCut y 0 h))
          | none,none=>Kt (.st y)
          | _,_=>False
      | _,_,_,_=>False
  | .call c=>match c.callee with
    | .builtin .min|.builtin .max=>pureSem P C o s w Kt
    | .builtin .len=>match (c.argTypes[0]?).bind P.underlying,(c.args[0]?).bind (ev s C) with
      | some (.slice _),some (.sl y)=>Kt (.num .i64 y.n)
      | some .string,some (.st y)=>Kt (.num .i64 y.size)
      | _,_=>False
    | _=>False
  | _=>False
def resK (P:Program) (t:TypeId) (Kt:SV→Prop) (v:Value):Prop:=
  match P.underlying t with
  | some (.tuple ts)=>exK (ts.toList.map (kindOf P)) fun l=>v=.tuple (l.map (den0 [])).toArray∧Kt (.tp l)
  | some (.struct _)=>exK (cellKinds P 9 t) fun l=>v=.agg (l.map (den0 [])).toArray∧Kt (.ag l)
  | _=>exK [kindOf P t] fun l=>match l with
    | [y]=>v=den0 [] y∧Kt y
    | _=>False
def kindV (nv:Bool) (k:K):K:=
  match nv with
  | false=>k
  | true=>match k with
    | .ptr=>.val
    | k=>k
def partK (P:Program) (nv:Bool):List TypeId→(List SV→Prop)→Prop
  | [],f=>f []
  | t ::r,f=>match isAggT P t with
    | true=>exK (cellKinds P 9 t) fun l=>partK P nv r fun m=>f (.ag l ::m)
    | false=>exK [kindV nv (kindOf P t)] fun l=>partK P nv r fun m=>f (l++m)
def resultK (P:Program) (nv:Bool) (t:TypeId) (Kt:SV→Prop) (v:Value):Prop:=
  match P.underlying t with
  | some (.tuple ts)=>partK P nv ts.toList fun l=>v=.tuple (l.map (den1 [])).toArray∧Kt (.tp l)
  | _=>partK P nv [t] fun l=>match l with
    | [y]=>v=den1 [] y∧Kt y
    | _=>False
def callArgs (s:Sy) (C:List (Nat×Bool)) (c:Call):Option (FuncId×List SV):=
  match c.callee with
  | .value x=>match ev s C x,evs s C c.args.toList with
    | some (.clo f caps),some l=>some (f,l++caps)
    | _,_=>none
  | _=>none
def callVal (s:Sy) (C:List (Nat×Bool)) (c:Call):Option (Vl×List SV):=
  match c.callee with
  | .value x=>match ev s C x,evs s C c.args.toList with
    | some (.v y),some l=>some (y,l)
    | _,_=>none
  | _=>none
def semUOf (s:Sy) (C:List (Nat×Bool)) (o:Oper):Option (Sem Unit):=
  match o.op with
  | .mapUpdate t m k x=>match evd s C m,evd s C k,evd s C x with
    | some m',some k',some x'=>some (Instr.mapUpdate t m' k' x')
    | _,_,_=>none
  | _=>none
def effOp (P:Program) (A:Ann) (C:List (Nat×Bool)) (o:Oper) (s:Sy) (w:World) (Kt:SV→Sy→World→Prop):Prop:=
  match o.op with
  | .alloc t=>match zeroS P t,P.info? t,o.dst with
    | some cs,some _,some d=>match memN d A.pubs with
      | false=>Kt (.bx s.box.length 0) { s with box:=s.box++[(t,cs)] } w
      | true=>NewAt w (.cells (cs.map (den0 [])).toArray t (0,0)) fun a w'=>Kt (.pt a 0) s w'
    | _,_,_=>False
  | .box t x=>match ev s C x,o.dst with
    | some y,some d=>match (cellsS y).all (wf0 s.box.length) with
      | true=>match memN d A.pubs with
        | false=>Kt (.bx s.box.length 0) { s with box:=s.box++[(t,cellsS y)] } w
        | true=>match (cellsS y).all clean0 with
          | true=>NewAt w (.cells ((cellsS y).map (den0 [])).toArray t (0,0)) fun a w'=>Kt (.pt a 0) s w'
          | false=>False
      | false=>False
    | _,_=>False
  | .store t p x=>match o.dst with
   | some _=>False
   | none=>match P.info? t,ev s C p,ev s C x with
    | some inf,some (.bx i off),some y=>match Nat.beq (cellsS y).length inf.size,s.box[i]? with
      | true,some (tb,cs)=>match (cellsS y).all (wf0 s.box.length),updC cs off (cellsS y) with
        | true,some cs'=>Kt .ff { s with box:=s.box.set i (tb,cs') } w
        | _,_=>False
      | _,_=>False
    | some inf,some (.pt a off),some y=>match Nat.beq (cellsS y).length inf.size,(cellsS y).all clean0 with
      | true,true=>StoreAt w a off ((cellsS y).map (den0 [])) fun w'=>Kt .ff s w'
      | _,_=>False
    | _,_,_=>False
  | _=>match semUOf s C o with
    | some e=>match o.dst with
      | some _=>False
      | none=>StepU P e w fun w'=>Kt .ff s w'
    | none=>match semOf s C o with
      | some e=>StepT P e w fun v w'=>resultK P (memN 999998 A.pubs) o.type (fun y=>Kt y s w') v
      | none=>match o.op with
        | .call c=>match callArgs s C c with
          | some (f,l)=>match l.all clean with
            | true=>Trip P f (l.map (den [])).toArray w fun v w'=>resultK P (memN 999998 A.pubs) o.type (fun y=>Kt y s w') v
            | false=>False
          | none=>match callVal s C c with
            | some (y,l)=>match l.all clean with
              | true=>∃ (f:Nat) (caps:List Value),y.x=.func (.func f) #[] caps.toArray∧Trip P f (l.map (den [])++caps).toArray w fun v w'=>resultK P (memN 999998 A.pubs) o.type (fun y=>Kt y s w') v
              | false=>False
            | none=>False
        | _=>False
def pureCall (P:Program) (C:List (Nat×Bool)) (o:Oper) (s:Sy) (w:World) (Kt:SV→Prop):Prop:=
  match o.op with
  | .call c=>match callArgs s C c with
    | some (f,l)=>match l.all clean with
      | true=>partK P false (match P.underlying o.type with|some (.tuple ts)=>ts.toList|_=>[o.type]) fun r=>
          match P.underlying o.type,r with
          | some (.tuple _),r=>imp s C (Trip P f (l.map (den [])).toArray w fun v w'=>v=.tuple (r.map (den1 [])).toArray∧Sub w w')∧Kt (.tp r)
          | _,[y]=>imp s C (Trip P f (l.map (den [])).toArray w fun v w'=>v=den1 [] y∧Sub w w')∧Kt y
          | _,_=>False
      | false=>False
    | none=>False
  | _=>False
def isEff (A:Ann) (o:Oper):Bool:=
  match o.op with
  | .alloc _|.box ..|.store ..|.makeSlice ..|.buildSlice ..|.makeMap ..|.lookup ..|.range ..|.next ..|.mapUpdate ..=>true
  | .call c=>match c.callee with
    | .builtin .len|.builtin .min|.builtin .max=>false
    | .value (.func f)=>!(memN f A.pures)
    | _=>true
  | _=>false
def isPureCall (A:Ann) (o:Oper):Bool:=
  match o.op with
  | .call c=>match c.callee with
    | .value (.func f)=>memN f A.pures
    | _=>false
  | _=>false
def guardOf (ops:Array Oper) (s:Sy) (g:Option (Nat×Bool)):Option (List (Nat×Bool)):=
  match g with
  | none=>some []
  | some (j,want)=>match (ops[j]?).bind (·.dst) with
    | some t=>match lookN t s.env with
      | some (.b _)=>some [(t,want)]
      | some (.tt)=>some [(t,want)]
      | some (.ff)=>some [(t,want)]
      | some (.gd c (.b _))=>some ((t,want) ::c)
      | some (.gd c .tt)=>some ((t,want) ::c)
      | some (.gd c .ff)=>some ((t,want) ::c)
      | _=>none
    | none=>none
def gdSV (C:List (Nat×Bool)) (x:SV):SV:=match C with
  | []=>x
  | C=>.gd C x
def put (n:Nat) (dst:Option Nat) (x:SV) (s:Sy) (Kt:Sy→Prop):Prop:=
  match dst with
  | none=>Kt s
  | some d=>match Nat.blt d n && !(refs d x) with
    | true=>Kt { s with env:=setE d x s.env }
    | false=>False
def relit (s:Sy) (t:Nat) (q:Bool):Sy:={ s with env:=s.env.map fun p=>bif Nat.beq p.1 t then (t,bif q then .tt else .ff) else p }
def skips (s:Sy):List (Nat×Bool)→Bool
  | (t,want) ::r=>match lookN t s.env with
    | some .tt=>!want || skips s r
    | some (.gd _ .tt)=>!want || skips s r
    | some .ff=>want || skips s r
    | some (.gd _ .ff)=>want || skips s r
    | _=>skips s r
  | []=>false
def oneOp (P:Program) (A:Ann) (n:Nat) (ops:Array Oper) (o:Oper) (s:Sy) (w:World) (Kt:Sy→World→Prop):Prop:=
  match guardOf ops s o.guard with
  | none=>False
  | some C=>match skips s C with
   | true=>put n o.dst (gdSV C .ff) s fun s'=>Kt s' w
   | false=>match isEff A o,isPureCall A o with
    | false,false=>pureOp P C o s w fun x=>put n o.dst (gdSV C x) s fun s'=>Kt s' w
    | false,true=>pureCall P C o s w fun x=>put n o.dst (gdSV C x) s fun s'=>Kt s' w
    | true,_=>match C with
      | []=>effOp P A [] o s w fun x s' w'=>put n o.dst x s' fun s''=>Kt s'' w'
      | [(t,want)]=>match lookN t s.env with
        | some (.b q)=>(q=want→effOp P A [(t,want)] o (relit s t want) w fun x s' w'=>put n o.dst (.gd [(t,want)] x) s' fun s''=>Kt s'' w')
          ∧(q=!want→put n o.dst (.gd [(t,want)] .ff) (relit s t (!want)) fun s''=>Kt s'' w)
        | some .tt|some .ff=>effOp P A [(t,want)] o s w fun x s' w'=>put n o.dst (.gd [(t,want)] x) s' fun s''=>Kt s'' w'
        | _=>False
      | [(t,want),(t1,want1)]=>match lookN t s.env,lookN t1 s.env with
        | some (.gd [(t2,want2)] (.b q)),some (.b q1)=>match Nat.beq t2 t1 && (want2 == want1) with
          | true=>(q1=want1→q=want→effOp P A [(t,want),(t1,want1)] o s w fun x s' w'=>put n o.dst (.gd [(t,want),(t1,want1)] x) s' fun s''=>Kt s'' w')
            ∧(¬(q1=want1∧q=want)→put n o.dst (.gd [(t,want),(t1,want1)] .ff) s fun s''=>Kt s'' w)
          | false=>False
        | some (.gd [(t2,want2)] (.b q)),some .tt=>match Nat.beq t2 t1 && (want2 == want1) && want1 with
          | true=>(q=want→effOp P A [(t,want),(t1,want1)] o s w fun x s' w'=>put n o.dst (.gd [(t,want),(t1,want1)] x) s' fun s''=>Kt s'' w')
            ∧(q=!want→put n o.dst (.gd [(t,want),(t1,want1)] .ff) s fun s''=>Kt s'' w)
          | false=>False
        | _,_=>False
      | _=>False
def opsVc (P:Program) (A:Ann) (n:Nat) (ops:Array Oper):List Oper→Sy→World→(Sy→World→Prop)→Prop
  | [],s,w,Kt=>Kt s w
  | o ::r,s,w,Kt=>oneOp P A n ops o s w fun s' w'=>opsVc P A n ops r s' w' Kt
def closedB (ops:Array Oper) (i:Nat) (S:Array Bool):Bool:=
  (List.range ops.size).all fun j=>match ops[j]? with
    | some o=>!(o.after.all fun e=>!Region.binds .any e || S.getD e.on false) || Nat.beq j i || S.getD j false
    | none=>true
def within (listed S:Array Bool) (n:Nat):Bool:=(List.range n).all fun j=>!(listed.getD j false) || S.getD j false
def freeOp (o:Oper):Bool:=
  match o.op with
  | .move _|.assign _|.extract ..=>true
  | _=>false
def okWhile (ops:Array Oper) (q ext:Nat→Bool) (i:Nat) (listed S:Array Bool):Bool:=
  (List.range ops.size).all fun j=>Nat.beq j i || listed.getD j false || !(S.getD j false) || match ops[i]?,ops[j]? with
    | some oi,some oj=>oi.apart ops oj && (q j || ext j || freeOp oi)
    | _,_=>false
def growS (ops:Array Oper) (i:Nat) (S:Array Bool):Array Bool:=
  (List.range ops.size).foldl (fun S j=>match ops[j]? with
    | some o=>bif (o.after.all fun e=>!Region.binds .any e || S.getD e.on false) && !(Nat.beq j i) then S.setIfInBounds j true else S
    | none=>S) S
def growN (ops:Array Oper) (i:Nat):Nat→Array Bool→Array Bool
  | 0,S=>S
  | n+1,S=>growN ops i n (growS ops i S)
def tb (m j:Nat):Bool:=Nat.beq (Nat.land (Nat.shiftRight m j) 1) 1
def mskL:List Bool→Nat
  | []=>0
  | b ::r=>Nat.add (Nat.mul 2 (mskL r)) (bif b then 1 else 0)
def aftL:List Edge→Nat
  | []=>0
  | e ::r=>bif Region.binds .any e then Nat.lor (Nat.shiftLeft 1 e.on) (aftL r) else aftL r
def subM (a m:Nat):Bool:=Nat.beq (Nat.land a m) a
def growL (i:Nat):List Oper→Nat→Nat→Nat
  | [],_,m=>m
  | o ::r,j,m=>growL i r (Nat.succ j) (bif !(Nat.beq j i) && subM (aftL o.after.toList) m then Nat.lor m (Nat.shiftLeft 1 j) else m)
def closedL (i m:Nat):List Oper→Nat→Bool
  | [],_=>true
  | o ::r,j=>(tb m j || Nat.beq j i || !(subM (aftL o.after.toList) m)) && closedL i m r (Nat.succ j)
def firstOk (ops:Array Oper) (q ext:Nat→Bool) (i:Nat) (listed:Array Bool):Bool:=
  let lm:=mskL listed.toList
  let m:=growL i ops.toList 0 (growL i ops.toList 0 lm)
  closedL i m ops.toList 0 && subM lm m && (List.range ops.size).all fun j=>Nat.beq j i || tb lm j || !(tb m j) || match ops[i]?,ops[j]? with
    | some oi,some oj=>oi.apart ops oj && (q j || ext j || freeOp oi)
    | _,_=>false
def kbAt (ops:Array Oper) (i:Nat):Bool:=match ops[i]? with
  | some o=>match o.op with
    | .store ..=>false
    | _=>true
  | none=>true
def okWhileB (ops:Array Oper) (q:Nat→Bool) (i:Nat) (listed S:Array Bool):Bool:=
  (List.range ops.size).all fun j=>Nat.beq j i || listed.getD j false || !(S.getD j false) || match ops[i]?,ops[j]? with
    | some oi,some oj=>oi.apart ops oj && (q j || kbAt ops j)
    | _,_=>false
def firstOkB (ops:Array Oper) (q:Nat→Bool) (i:Nat) (listed:Array Bool):Bool:=
  let lm:=mskL listed.toList
  let m:=growL i ops.toList 0 (growL i ops.toList 0 lm)
  closedL i m ops.toList 0 && subM lm m && (List.range ops.size).all fun j=>Nat.beq j i || tb lm j || !(tb m j) || match ops[i]?,ops[j]? with
    | some oi,some oj=>oi.apart ops oj && (q j || kbAt ops j)
    | _,_=>false
def noLook (s:Sy) (o:Oper):Bool:=
  match o.op with
  | .move _|.assign _|.extract ..|.nilCheck _|.fieldAddr ..=>true
  | .load _ x=>match ev s [] x with
    | some (.bx _ _)=>true
    | _=>false
  | .binOp op _ x y _=>match ev s [] x,ev s [] y with
    | some (.num _ _),some (.num _ _)=>!(isBit op)
    | _,_=>false
  | .call c=>match c.callee with
    | .builtin .len=>true
    | _=>false
  | _=>false
def boxAt (A:Ann) (ops:Array Oper) (s:Sy) (i:Nat):Bool:=match ops[i]? with
  | some o=>!(isEff A o) && !(isPureCall A o) && o.guard.isNone && noLook s o
  | none=>false
def allC:List Nat→(Nat→Prop)→Prop
  | [],_=>True
  | [i],f=>f i
  | i ::r,f=>f i∧allC r f
def isStore (o:Oper):Bool:=
  match o.op with
  | .store ..=>true
  | _=>false
def quietAt (A:Ann) (ops:Array Oper) (i:Nat):Bool:=match ops[i]? with
  | some o=>!(isEff A o)
  | none=>true
def extAt (ops:Array Oper) (ext:List Nat) (i:Nat):Bool:=match ops[i]? with
  | some o=>memN i ext && !(isStore o)
  | none=>false
def autoVc (P:Program) (A:Ann) (n:Nat) (ops:Array Oper) (ext:List Nat):Nat→Array Bool→Sy→World→(Sy→World→Prop)→Prop
  | 0,listed,s,w,Kt=>match (Region.ready .any ops listed).isEmpty with
    | true=>Kt s w
    | false=>False
  | fuel+1,listed,s,w,Kt=>match Region.ready .any ops listed with
    | []=>Kt s w
    | l=>match l.find? (fun i=>quietAt A ops i && firstOk ops (quietAt A ops) (extAt ops ext) i listed) with
      | some i=>match ops[i]? with
        | some o=>oneOp P A n ops o s w fun s' w'=>autoVc P A n ops ext fuel (listed.setIfInBounds i true) s' w' Kt
        | none=>False
      | none=>match l.find? (fun i=>boxAt A ops s i && firstOkB ops (quietAt A ops) i listed) with
       | some i=>match ops[i]? with
        | some o=>oneOp P A n ops o s w fun s' w'=>autoVc P A n ops ext fuel (listed.setIfInBounds i true) s' w' Kt
        | none=>False
       | none=>allC l fun i=>match ops[i]? with
        | some o=>match extAt ops ext i with
          | true=>oneOp P A n ops o s w fun s' w'=>Sub w w'∧autoVc P A n ops ext fuel (listed.setIfInBounds i true) s' w' Kt
          | false=>oneOp P A n ops o s w fun s' w'=>autoVc P A n ops ext fuel (listed.setIfInBounds i true) s' w' Kt
        | none=>False
def noGd (s:Sy):Sy:={ s with env:=s.env.filter fun p=>match p.2 with|.gd _ _=>false|_=>true }
def testOf (s:Sy) (c:Operand):Option SV:=match ev s [] c with
  | some (.b q)=>some (.b q)
  | some .tt=>some .tt
  | some .ff=>some .ff
  | _=>none
def lit (A:Ann) (s:Sy) (c:Operand) (q:Bool):Sy:=
  match memN 999999 A.pubs,c with
  | true,.tmp t=>match lookN t s.env with
    | some (.b _)=>{ s with env:=(t,bif q then .tt else .ff) ::s.env }
    | _=>s
  | _,_=>s
def vc (P:Program) (A:Ann) (n:Nat):Code→Sy→World→(X→Sy→World→Prop)→Prop
  | .skip,s,w,Kt=>Kt .normal s w
  | .label _,s,w,Kt=>Kt .normal s w
  | .ret,s,w,Kt=>Kt .ret s w
  | .exit id,s,w,Kt=>Kt (.exit id) s w
  | .seq a b,s,w,Kt=>match lookN (firstRegion b) A.joins with
    | none=>vc P A n a s w fun x s' w'=>match x with
      | .normal=>vc P A n b s' w' Kt
      | x=>Kt x s' w'
    | some (sl,bl)=>match sl.all fun p=>memN p.1 (writes a) with
     | false=>False
     | true=>∃ J:KTy Prop (kindsOf sl bl),
      (vc P A n a s w fun x s' w'=>match x with
        | .normal=>match vals s' sl bl with
          | some l=>sameB bl 0 s.box s'.box (app False _ J l w')
          | none=>False
        | x=>Kt x s' w')∧
      allK (kindsOf sl bl) fun l=>∀ w':World,app False _ J l w'→vc P A n b (headOf s (writes a) sl bl l) w' Kt
  | .cond c a b,s,w,Kt=>match testOf s c with
    | some .tt=>vc P A n a s w Kt
    | some .ff=>vc P A n b s w Kt
    | some (.b q)=>(q=true→vc P A n a (lit A s c true) w Kt)∧(q=false→vc P A n b (lit A s c false) w Kt)
    | _=>False
  | .block id a,s,w,Kt=>vc P A n a s w fun x s' w'=>match x with
    | .exit j=>match Nat.beq j id with
      | true=>Kt .normal s' w'
      | false=>Kt (.exit j) s' w'
    | x=>Kt x s' w'
  | .loop a,s,w,Kt=>match lookN (firstRegion a) A.loops with
    | none=>False
    | some (sl,bl)=>match sl.all fun p=>memN p.1 (writes a) with
     | false=>False
     | true=>∃ (I:KTy Prop (kindsOf sl bl)) (m:KTy Nat (kindsOf sl bl)),
      (match vals s sl bl with
        | some l=>app False _ I l w
        | none=>False)∧
      allK (kindsOf sl bl) fun l=>∀ w':World,app False _ I l w'→vc P A n a (headOf s (writes a) sl bl l) w' fun x s' w''=>match x with
        | .normal=>match vals s' sl bl with
          | some l'=>sameB bl 0 s.box s'.box (app False _ I l' w''∧app 0 _ m l' w'' < app 0 _ m l w')
          | none=>False
        | x=>Kt x s' w''
  | .region id ops draw,s,w,Kt=>match draw with
    | false=>opsVc P A n ops ops.toList s w fun s' w'=>Kt .normal (noGd s') w'
    | true=>match lookN id A.orders with
      | none=>match (ops.toList.all fun o=>!(isEff A o)) && Region.lexB .any ops && P.follows .mixedOrders with
        | true=>opsVc P A n ops ops.toList s w fun s' w'=>Kt .normal (noGd s') w'
        | false=>False
      | some ext=>match P.follows .mixedOrders && Region.noSelect ops with
        | true=>autoVc P A n ops ext ops.size (Array.replicate ops.size false) s w fun s' w'=>Kt .normal (noGd s') w'
        | false=>False
  | _,_,_,_=>False
def resV (P:Program) (s:Sy):List ResultVar→Option (List SV)
  | []=>some []
  | .tmp t ::r=>match lookN t s.env,resV P s r with
    | some (.gd _ _),_=>none
    | some x,some l=>some (x ::l)
    | _,_=>none
  | .cell a t ::r=>match lookN a s.env,resV P s r with
    | some (.bx i 0),some l=>match s.box[i]?,P.info? t with
      | some (_,cs),some inf=>match takeC cs 0 inf.size,aggT P t with
        | some c,some true=>some (.ag c ::l)
        | some [y],some false=>some (y ::l)
        | _,_=>none
      | _,_=>none
    | _,_=>none
def retK (P:Program) (rs:List ResultVar) (Q:Value→World→Prop) (x:X) (s:Sy) (w:World):Prop:=
  match x with
  | .exit _=>False
  | _=>match resV P s rs with
    | some [y]=>match clean1 y with
      | true=>Q (den1 [] y) w
      | false=>False
    | some l=>match l.all clean1 with
      | true=>Q (.tuple (l.map (den1 [])).toArray) w
      | false=>False
    | none=>False
def initE:Nat→List SV→List (Nat×SV)
  | _,[]=>[]
  | i,x ::r=>(i,x) ::initE (i+1) r
def fnVc (P:Program) (A:Ann) (fn:Func) (c:Code) (args:List SV) (w:World) (Q:Value→World→Prop):Prop:=
  match args.all clean1,Nat.ble args.length fn.ntmps with
  | true,true=>vc P A fn.ntmps c { env:=initE 0 args,box:=[] } w (retK P fn.results.toList Q)
  | _,_=>False
end Go.Vc
