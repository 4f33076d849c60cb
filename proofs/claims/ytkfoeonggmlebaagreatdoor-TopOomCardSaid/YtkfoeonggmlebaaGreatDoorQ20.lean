/-
  Contracts of the program's functions, and plain facts, towards the laws of millpondtop. No condition beyond those that each theorem bears.
-/
import Derived.Test.YtkfoeonggmlebaaGreatDoorQ04
import Derived.Test.YtkfoeonggmlebaaGreatDoorQ09
import Derived.Test.YtkfoeonggmlebaaGreatDoorQ10
import Derived.Test.YtkfoeonggmlebaaGreatDoorQ15
import Derived.Test.YtkfoeonggmlebaaGreatDoorQ16
import Derived.Test.YtkfoeonggmlebaaGreatDoorQ18
import Derived.Test.YtkfoeonggmlebaaGreatDoorQAA
set_option maxRecDepth 100000
set_option maxHeartbeats 4000000
namespace Go.Proofs.YtkfoeonggmlebaaGreatDoor
section
open Pag (PG PT)
open Tre (Grp)
structure StM where
 pool:List Bool
 bytes:List (List Int)
 used:Cnt.CU
structure GuM where
 min:Int
 low:Int
 whole:Bool
structure CoM where
 tree:List Grp
 fr:StM
 sl:StM
 files:Fil.FU
 gens:Gen.GL
 log:List (Int × Int)
 pages:PT
 kept:List (Int × Option (Nat × Nat))
 guards:List GuM
 up:List Int
def wentO (L:List (Int × Int)) (g:Int):Option (Nat × Nat):=if Sha.groupB g=true then (if (Sha.logAtL L g).1 < 0 then none else some (g.toNat,((Sha.logAtL L g).1%1099511627776).toNat)) else none
structure Nd where
 up:Int
 use:Int
 own:Int
def okN (i:Nat) (x:Nd):Bool:=((i==0&&x.up==-1)||(decide (0≤x.up)&&decide (x.up < i)))&&Cnt.amountB x.use&&Cnt.amountB x.own
def validF:Nat→List Nd→Bool
 | _,[]=>true
 | i,x::r=>okN i x&&validF (i+1) r
def validN (l:List Nd):Bool:=validF 0 l&&decide (l.length≤64)
def nd (l:List Nd) (g:Int):Nd:=l.getD g.toNat ⟨0,0,0⟩
def ownN (x:Nd):Int:=min x.own x.use
def upN:Nat→List Nd→Int→Int→List Int
 | 0,_,_,_=>[]
 | n+1,l,g,t=>if g=t then [] else if g < 0 then [g] else g::upN n l (nd l g).up t
def upsN (l:List Nd) (g t:Int):List Int:=upN ((g+1).toNat+1) l g t
def belowN (l:List Nd) (g t:Int):Bool:=(upsN l g t).all fun x=>decide (0≤x)
def addAt (l:List Int) (i:Int) (n:Int):List Int:=l.set i.toNat (IntKind.i64.wrap (l.getD i.toNat 0+n))
def sumsN (l:List Nd):List Int:=(l.drop 1).foldl (fun s x=>addAt s x.up (ownN x)) (List.replicate l.length 0)
def partN (a p s:Int):Int:=a * p / s
def effOf (l:List Nd) (t:Int) (S out:List Int) (i:Nat) (x:Nd):List Int :=
 if (i:Int)=t∨belowN l i t=false then out
 else if x.up≠t∧out.getD x.up.toNat 0 < S.getD x.up.toNat 0 then out.set i (partN (ownN x) (out.getD x.up.toNat 0) (S.getD x.up.toNat 0)) else out.set i (ownN x)
def effF (l:List Nd) (t:Int) (S:List Int):Nat→List Nd→List Int→List Int
 | _,[],out=>out
 | i,x::r,out=>effF l t S (i+1) r (effOf l t S out i x)
def effN (l:List Nd) (t:Int):List Int :=
 if validN l=true∧0≤t∧t < l.length then effF l t (sumsN l) 0 l (List.replicate l.length 0) else []
def heldN (l:List Nd) (eff:List Int) (t g:Int):Bool :=
 validN l&&decide (eff.length=l.length)&&decide (0≤t)&&decide (t < l.length)&&decide (0≤g)&&decide (g < l.length)&&belowN l g t&&(upsN l g t).any fun x=>decide ((nd l x).use≤eff.getD x.toNat 0)
namespace CoM
def newSt (n:Int):StM:=⟨List.replicate (min n 1024).toNat false,List.replicate (min n 1024).toNat Byt.zeroT,Cnt.newU⟩
def new (f s:Int) (sizes:List Int):CoM :=
 { tree:=Tre.newT,fr:=newSt f,sl:=newSt s,files:=Fil.newFU sizes,gens:=[],log:=List.replicate 64 (0,0),pages:=⟨[],[],[],0⟩,kept:=[],guards:=[⟨0,0,false⟩],up:=[-1] }
def giveSt (s:StM) (a:Int) (ch:List Int):StM:=⟨Pol.giveP s.pool a,Byt.clearB s.bytes a,Cnt.giveU s.used ch 1⟩
def chain (c:CoM) (g:Int):List Int:=Tre.chainL c.tree g
def below (c:CoM) (g:Int):List Int:=Tre.belowL c.tree g
def live (c:CoM) (g:Int):Bool:=Tre.liveB c.tree g
def page (c:CoM) (id:Int):PG:=Pag.pageT c.pages id
def mem (c:CoM) (g:Int):Int:=(Cnt.ofU c.fr.used g).1
def swap (c:CoM) (g:Int):Int:=(Cnt.ofU c.sl.used g).1
def text (c:CoM) (p:PG):List Int:=if p.place=1 then Byt.textL c.fr.bytes p.at_ else if p.place=2 then Byt.textL c.sl.bytes p.at_ else Fil.readU c.files p.file p.index
def clean (c:CoM) (id:Int) (p:PG):CoM :=
 if 0≤p.file∧p.dirty=true then { c with files:=Fil.writeU c.files p.file p.index (c.text p),pages:=Pag.markT c.pages id false } else c
def away (c:CoM) (id:Int) (p:PG) (ch:List Int):Option CoM :=
 if ch.any (fun g=>decide ((Cnt.ofU c.sl.used g).2≤c.swap g)) then none
 else if Pol.freeIx c.sl.pool < 0 then none
 else some { c with sl:=⟨Pol.takeP c.sl.pool,Byt.setText c.sl.bytes (Pol.freeIx c.sl.pool) (c.text p),Cnt.tryU c.sl.used ch⟩,pages:=Pag.putT c.pages id 2 (Pol.freeIx c.sl.pool) }
def gone (c:CoM) (id:Int) (p:PG) (ch:List Int):CoM :=
 { c with fr:=giveSt c.fr p.at_ ch,gens:=dropA id c.gens,kept:=putA id (wentO c.log p.owner) c.kept,log:=Sha.wentL c.log p.owner }
def out (c:CoM) (id:Int):Option CoM :=
 let p:=c.page id
 let ch:=c.chain p.owner
 if 0≤p.file then some (gone { (c.clean id p) with pages:=Pag.putT (c.clean id p).pages id 0 0 } id p ch)
 else (c.away id p ch).map fun c'=>gone c' id p ch
def nodes (c:CoM) (own:GuM→Int):List Nd :=
 (List.range c.guards.length).map fun (i:Nat)=>if c.live i then ⟨c.up.getD i 0,c.mem i,own (c.guards.getD i ⟨0,0,false⟩)⟩ else ⟨c.up.getD i 0,0,0⟩
def held (c:CoM) (t:Int) (own:GuM→Int):List Bool :=
 (List.range c.guards.length).map fun (i:Nat)=>heldN (c.nodes own) (effN (c.nodes own) t) t i
def heldB (l:List Bool) (g:Int):Bool:=l.getD g.toNat false
def pass (c:CoM) (h:Int→Bool):List Int→Option CoM
 | []=>none
 | id::r=>if h (c.page id).owner=true then pass c h r else match c.out id with
   | some c'=>some c'
   | none=>pass c h r
def evict (c:CoM) (t:Int) (gs:List Int) (all:Bool):Option CoM :=
 if c.live t=true then
  match pass c (fun g=>heldB (c.held t GuM.min) g||heldB (c.held t GuM.low) g) (Gen.orderG c.gens gs) with
  | some c'=>some c'
  | none=>if all=true then pass c (fun g=>heldB (c.held t GuM.min) g) (Gen.orderG c.gens gs) else none
 else none
def evict1 (c:CoM) (t:Int):Option CoM:=c.evict t (c.below t) true
def takeF:Nat→CoM→Int→(Int × Int × Int) × CoM
 | 0,c,_=>((-1,-1,12),c)
 | n+1,c,g =>
   if Cnt.tryEU c.fr.used (c.chain g)=0 then
    if 0≤Pol.freeIx c.fr.pool then ((Pol.freeIx c.fr.pool,-1,0),{ c with fr:=⟨Pol.takeP c.fr.pool,c.fr.bytes,Cnt.tryU c.fr.used (c.chain g)⟩ })
    else match ({ c with fr:={ c.fr with used:=Cnt.giveU (Cnt.tryU c.fr.used (c.chain g)) (c.chain g) 1 } }:CoM).evict1 0 with
     | some c'=>takeF n c' g
     | none=>((-1,0,12),{ c with fr:={ c.fr with used:=Cnt.giveU (Cnt.tryU c.fr.used (c.chain g)) (c.chain g) 1 } })
   else match c.evict1 (Cnt.tryGU c.fr.used (c.chain g)) with
    | some c'=>takeF n c' g
    | none=>((-1,Cnt.tryGU c.fr.used (c.chain g),12),c)
def take (c:CoM) (g:Int):(Int × Int × Int) × CoM:=takeF (c.gens.length+1) c g
def place (c:CoM) (id a g:Int) (t:List Int) (old:Bool):CoM :=
 { c with fr:={ c.fr with bytes:=Byt.setText c.fr.bytes a t },pages:=Pag.putT (Pag.ownT c.pages id g) id 1 a,gens:=Gen.addGU id g old c.gens }
def withT (c:CoM) (g:Int) (t:List Int):(Int × Int × Int) × CoM :=
 let r:=c.take g
 if r.1.2.2≠0 then ((-1,r.1.2.1,r.1.2.2),r.2)
 else ((r.2.pages.next,-1,0),place { r.2 with pages:=Pag.makeT r.2.pages (-1) 0 g } r.2.pages.next r.1.1 g t false)
def fresh (c:CoM) (g:Int):(Int × Int × Int) × CoM:=if c.live g=true then c.withT g Byt.zeroT else ((-1,-1,2),c)
def copy (c:CoM) (id g:Int):(Int × Int × Int) × CoM :=
 if Pag.pageE c.pages id≠0∨c.live g=false∨(c.page id).place=0 then ((-1,-1,2),c) else c.withT g (c.text (c.page id))
def came (c:CoM) (id a g:Int) (p:PG):CoM :=
 let c1:CoM:=if p.place=2 then { c with sl:=giveSt c.sl p.at_ (c.chain g) } else c
 let o:=(getA id c1.kept).getD none
 place { c1 with log:=Sha.cameL c1.log o g (c1.mem g) } id a g (c.text p) (!Sha.cameB c1.log o (c1.mem g))
def bring (c:CoM) (id g:Int):(Int × Int) × CoM :=
 let p:=c.page id
 if Pag.pageE c.pages id≠0∨c.live g=false∨(p.place=0∧p.file < 0) then ((-1,2),c)
 else if p.place=1 then ((-1,0),{ c with gens:=Gen.touchG id c.gens })
 else
  let g':=if p.place=0 then g else p.owner
  let r:=c.take g'
  if r.1.2.2≠0 then ((r.1.2.1,r.1.2.2),r.2) else ((-1,0),r.2.came id r.1.1 g' p)
def openF (c:CoM) (f i g:Int):(Int × Int × Int) × CoM :=
 if Fil.hasU c.files f i=false∨c.live g=false then ((-1,-1,2),c)
 else if Pag.ofT c.pages f i < 0 then
  let r:=bring { c with pages:=Pag.makeT c.pages f i g } c.pages.next g
  if r.1.2=0 then ((c.pages.next,-1,0),r.2) else ((-1,r.1.1,r.1.2),{ r.2 with pages:=Pag.dropT r.2.pages c.pages.next })
 else
  let r:=c.bring (Pag.ofT c.pages f i) g
  if r.1.2=0 then ((Pag.ofT c.pages f i,-1,0),r.2) else ((-1,r.1.1,r.1.2),r.2)
def hereB (c:CoM) (id:Int):Bool:=decide (Pag.pageE c.pages id=0)&&decide ((c.page id).place=1)
def get (c:CoM) (id a:Int):(Int × Int) × CoM :=
 if c.hereB id=true then
  ((Byt.byteAt c.fr.bytes (c.page id).at_ a,Byt.byteE c.fr.bytes (c.page id).at_ a),if Byt.byteE c.fr.bytes (c.page id).at_ a=0 then { c with gens:=Gen.touchG id c.gens } else c)
 else ((0,2),c)
def put (c:CoM) (id a b:Int):Int × CoM :=
 if c.hereB id=true then
  (Byt.byteE c.fr.bytes (c.page id).at_ a,if Byt.byteE c.fr.bytes (c.page id).at_ a=0 then { c with fr:={ c.fr with bytes:=Byt.putByte c.fr.bytes (c.page id).at_ a b },gens:=Gen.touchG id c.gens,pages:=Pag.markT c.pages id true } else c)
 else (2,c)
def free (c:CoM) (id:Int):CoM :=
 let p:=c.page id
 let ch:=c.chain p.owner
 let c1:CoM:=if p.place=1 then { (c.clean id p) with fr:=giveSt (c.clean id p).fr p.at_ ch,gens:=dropA id c.gens } else if p.place=2 then { c with sl:=giveSt c.sl p.at_ ch } else c
 { c1 with pages:=Pag.dropT (Pag.putT c1.pages id 0 0) id }
def refer (c:CoM) (id n:Int):CoM :=
 let c1:CoM:={ c with pages:=Pag.referT c.pages id n }
 if Pag.referE c.pages id n≠0∨0 < Pag.referL c.pages id n then c1 else c1.free id
def addGroup (c:CoM) (p:Int):(Int × Int) × CoM :=
 ((Tre.addG c.tree p,Tre.addE c.tree p),if Tre.addE c.tree p=0 then { c with tree:=Tre.addS c.tree p,guards:=c.guards++[⟨0,0,false⟩],up:=c.up++[p] } else c)
def limit (c:CoM) (g what n:Int):Int × CoM :=
 if c.live g=false then (2,c)
 else if n < 0∨1099511627776 < n then (1,c)
 else if what=0 then (0,{ c with guards:=c.guards.set g.toNat { c.guards.getD g.toNat ⟨0,0,false⟩ with min:=n } })
 else if what=1 then (0,{ c with guards:=c.guards.set g.toNat { c.guards.getD g.toNat ⟨0,0,false⟩ with low:=n } })
 else if what=2 then (Cnt.setLimE g n,{ c with fr:={ c.fr with used:=Cnt.limU c.fr.used g n } })
 else if what=3 then (Cnt.setLimE g n,{ c with sl:={ c.sl with used:=Cnt.limU c.sl.used g n } })
 else if what=4 then (if 1 < n then (1,c) else (0,{ c with guards:=c.guards.set g.toNat { c.guards.getD g.toNat ⟨0,0,false⟩ with whole:=n==1 } }))
 else (1,c)
def wholes (c:CoM):List Bool:=c.guards.map (·.whole)
structure Inv (c:CoM):Prop where
 good:Tre.TGood c.tree
 gl:c.guards.length=c.tree.length
 ul:c.up.length=c.tree.length
 own:∀ e∈c.pages.pages,0≤e.2.owner∧e.2.owner < c.tree.length
 ids:∀ e∈c.gens,0≤e.1∧e.1≤16777216
 sh:∀ e∈c.kept,Sha.ShOk e.2
end CoM
end

section
open Ent (Ent)
open Vic (Prc)
structure Rg where
 a:Int
 b:Int
 k:Int
 f:Int
 i:Int
 wr:Bool
deriving DecidableEq
def Rg.zero:Rg:=⟨0,0,0,0,0,false⟩
def spanR (x:Rg):Bool:=decide (0≤x.a)&&decide (x.a < x.b)&&decide (x.b≤65536)
def validR (x:Rg):Bool:=spanR x &&
 (if x.k=1 then decide (x.f=0)&&decide (x.i=0) else if x.k=2 then decide (0≤x.f)&&decide (x.f≤1048576)&&decide (0≤x.i)&&decide (x.i≤2097152 - (x.b - x.a)) else false)
def rightR:Int→List Rg→Bool
 | _,[]=>true
 | z,x::r=>validR x&&decide (z≤x.a)&&rightR x.b r
def atR (l:List Rg) (p:Int):Nat:=l.findIdx fun y=>decide (p < y.b)
def addR (l:List Rg) (x:Rg):Int × List Rg :=
 if rightR 0 l=false∨validR x=false∨64≤l.length then (1,[])
 else if (l.drop (atR l x.a)).head?.any (fun y=>decide (y.a < x.b))=true then (4,[])
 else (0,l.take (atR l x.a)++x::l.drop (atR l x.a))
def partR (x:Rg) (p q:Int):Rg:={ x with a:=p,b:=q,i:=if x.k=2 then x.i+(p - x.a) else x.i }
def keepR (x:Rg) (p q:Int):List Rg:=if p < q then [partR x p q] else []
def cutR1 (p q:Int) (x:Rg):List Rg:=if q≤p then keepR x x.a x.b else keepR x x.a (min x.b p)++keepR x (max x.a q) x.b
def cutR (l:List Rg) (p q:Int):List Rg:=if rightR 0 l=true then l.flatMap (cutR1 p q) else []
def inR (p:Int) (x:Rg):Bool:=decide (x.a≤p)&&decide (p < x.b)
def findR (l:List Rg) (p:Int):Option Rg:=if rightR 0 l=true then l.find? (inR p) else none
def keyR (x:Rg) (p:Int):Int × Int:=if x.k=2 then (x.f,x.i+p - x.a) else (-1,p)
abbrev Tab:=List (Int × Ent)
def setS (p:Int) (e:Ent):Tab→Tab
 | []=>[(p,e)]
 | x::r=>if p < x.1 then (p,e)::x::r else if p=x.1 then (p,e)::r else x::setS p e r
structure SpM where
 regs:List Rg
 tab:Tab
namespace SpM
def new:SpM:=⟨[],[]⟩
def map (s:SpM) (x:Rg):Int × SpM:=((addR s.regs x).1,if (addR s.regs x).1=0 then { s with regs:=(addR s.regs x).2 } else s)
def entry (s:SpM) (p:Int):Option Ent:=getA p s.tab
def set (s:SpM) (p:Int) (e:Ent):SpM:=if (findR s.regs p).isSome=true then { s with tab:=setS p e s.tab } else s
def inT (p q:Int) (e:Int × Ent):Bool:=decide (p≤e.1)&&decide (e.1 < q)
def ids (s:SpM) (p q:Int):List Int:=(s.tab.filter (inT p q)).map fun e=>(e.2.page:Int)
def cut (s:SpM) (p q:Int):SpM:=⟨cutR s.regs p q,s.tab.filter fun e=>!inT p q e⟩
def touch (s:SpM) (p:Int):SpM:=match getA p s.tab with
 | some e=>{ s with tab:=setS p e.touch s.tab }
 | none=>s
end SpM
structure VmM where
 core:CoM
 procs:List (Int × Option SpM)
structure Ans where
 err:Int
 n:Int
 killed:List Int
deriving DecidableEq
def Ans.zero:Ans:=⟨0,0,[]⟩
def Ans.bad (e:Int):Ans:=⟨e,0,[]⟩
structure Opn where
 kind:Int
 a:Int
 b:Int
 c:Int
 d:Int
deriving DecidableEq
namespace VmM
def new (f s:Int) (sizes:List Int):VmM:=⟨CoM.new f s sizes,[]⟩
def prc (p:Int × Option SpM):Prc:=⟨p.1,(p.2.map fun s=>(s.tab.length:Int)).getD 0,p.2.isSome⟩
def prcs (v:VmM):List Prc:=v.procs.map prc
def space (v:VmM) (pid:Int):Option SpM:=if 0≤pid then (v.procs[pid.toNat]?).bind (·.2) else none
def group (v:VmM) (pid:Int):Int:=(v.procs.getD pid.toNat (0,none)).1
def setSp (v:VmM) (pid:Int) (s:Option SpM):VmM:={ v with procs:=v.procs.set pid.toNat (v.group pid,s) }
def letGo (c:CoM) (ids:List Int):CoM:=ids.foldl (fun c id=>c.refer id (-1)) c
def exit (v:VmM) (pid:Int):VmM:=match v.space pid with
 | some s=>setSp { v with core:=letGo v.core (s.ids 0 65536) } pid none
 | none=>v
def doomed (v:VmM) (t:Int):List Int:=Vic.doomL v.core.tree v.prcs t v.core.wholes
def kill (v:VmM) (a:Int) (o:Ans) (t:Int):Bool × Ans × VmM :=
 let d:=v.doomed t
 let v':=d.foldl exit v
 let o':Ans:={ o with killed:=o.killed++d }
 if d.length=0 then (false,{ o' with err:=12 },v') else if a∈d then (false,{ o' with err:=13 },v') else (true,o',v')
inductive What where
 | bring (id:Int)
 | open (f i:Int)
 | copy (id:Int)
 | fresh
def what (c:CoM) (g:Int):What→(Int × Int × Int) × CoM
 | .bring id=>let r:=c.bring id g;((id,r.1.1,r.1.2),r.2)
 | .open f i=>c.openF f i g
 | .copy id=>c.copy id g
 | .fresh=>c.fresh g
def lives (v:VmM):Nat:=(v.procs.filter fun p=>p.2.isSome).length
def tryF:Nat→VmM→Int→Ans→What→(Int × Bool) × Ans × VmM
 | 0,v,_,o,_=>((-1,false),o,v)
 | n+1,v,a,o,x =>
   let r:=what v.core (v.group a) x
   let v1:VmM:={ v with core:=r.2 }
   if r.1.2.2=0 then ((r.1.1,true),o,v1)
   else if r.1.2.2≠12 then ((-1,false),{ o with err:=r.1.2.2 },v1)
   else
    let k:=v1.kill a o r.1.2.1
    if k.1=true then tryF n k.2.2 a k.2.1 x else ((-1,false),k.2.1,k.2.2)
def try_ (v:VmM) (a:Int) (o:Ans) (x:What):(Int × Bool) × Ans × VmM:=tryF (v.lives+1) v a o x
def enter (v:VmM) (a p id:Int) (k:Nat) (wr:Bool):VmM:=match v.space a with
 | some s=>setSp { v with core:=v.core.refer id 1 } a (some (s.set p ⟨k,id.toNat,wr,false⟩))
 | none=>{ v with core:=v.core.refer id 1 }
def there (v:VmM) (a:Int) (o:Ans) (p:Int) (x:Rg):(Int × Bool) × Ans × VmM :=
 match (v.space a).bind (·.entry p) with
 | some e=>v.try_ a o (.bring e.page)
 | none =>
   let r:=v.try_ a o (.open (keyR x p).1 (keyR x p).2)
   if r.1.2=true then (r.1,r.2.1,r.2.2.enter a p r.1.1 2 x.wr) else r
def ownP (v:VmM) (a:Int) (o:Ans) (p:Int):(Int × Bool) × Ans × VmM :=
 match (v.space a).bind (·.entry p) with
 | some e =>
   if (v.core.page e.page).refs≤1 then v.try_ a o (.bring e.page)
   else
    let r:=v.try_ a o (.copy e.page)
    if r.1.2=true then (r.1,r.2.1,let v':=r.2.2.enter a p r.1.1 1 true;{ v' with core:=v'.core.refer e.page (-1) }) else r
 | none =>
   let r:=v.try_ a o .fresh
   if r.1.2=true then (r.1,r.2.1,r.2.2.enter a p r.1.1 1 true) else r
def touch (v:VmM) (a p:Int):VmM:=match v.space a with
 | some s=>setSp v a (some (s.touch p))
 | none=>v
def load (v:VmM) (a:Int) (s:SpM) (at_:Int):Ans × VmM :=
 match findR s.regs (at_ / 16) with
 | none=>(.bad 14,v)
 | some x =>
   if at_ < 0 then (.bad 14,v)
   else if (s.entry (at_ / 16)).isSome=false∧x.k=1 then (.zero,v)
   else
    let r:=v.there a .zero (at_ / 16) x
    if r.1.2=true then
     let g:=r.2.2.core.get r.1.1 (at_%16)
     ({ r.2.1 with n:=g.1.1 },touch { r.2.2 with core:=g.2 } a (at_ / 16))
    else r.2
def store (v:VmM) (a:Int) (s:SpM) (at_ b:Int):Ans × VmM :=
 if b < 0∨255 < b then (.bad 1,v)
 else match findR s.regs (at_ / 16) with
 | none=>(.bad 14,v)
 | some x =>
   if at_ < 0 then (.bad 14,v)
   else if x.wr=false then (.bad 15,v)
   else
    let r:=if x.k=2 then v.there a .zero (at_ / 16) x else v.ownP a .zero (at_ / 16)
    if r.1.2=true then (r.2.1,touch { r.2.2 with core:=(r.2.2.core.put r.1.1 (at_%16) b).2 } a (at_ / 16)) else r.2
def pagesB (b c:Int):Bool:=decide (0≤b)&&decide (b≤65536)&&(decide (0≤c)&&decide (c≤65536))
def mapX (v:VmM) (a:Int) (s:SpM) (x:Rg):Ans × VmM:=(.bad (s.map x).1,v.setSp a (some (s.map x).2))
def unmap (v:VmM) (a:Int) (s:SpM) (p q:Int):Ans × VmM :=
 (⟨0,((s.ids p q).length:Int),[]⟩,{ setSp v a (some (s.cut p q)) with core:=letGo v.core (s.ids p q) })
def add (v:VmM) (g:Int) (s:SpM):Ans × VmM:=(⟨0,(v.procs.length:Int),[]⟩,{ v with procs:=v.procs++[(g,some s)] })
def fork (v:VmM) (a:Int) (s:SpM):Ans × VmM :=
 if 64≤v.procs.length then (.bad 3,v)
 else add { v with core:=(s.ids 0 65536).foldl (fun c id=>c.refer id 1) v.core } (v.group a) s
def call (v:VmM) (o:Opn) (s:SpM):Ans × VmM :=
 if o.kind=4 then (if v.core.live o.b=true then (.zero,{ v with procs:=v.procs.set o.a.toNat (o.b,some s) }) else (.bad 2,v))
 else if o.kind=5 then (if pagesB o.b o.c=true then v.mapX o.a s ⟨o.c,o.c+o.b,1,0,0,true⟩ else (.bad 1,v))
 else if o.kind=6 then (if pagesB o.b o.c=true then (if o.d < 0∨(v.core.files.sizes.length:Int)≤o.d∨Fil.sizeU v.core.files o.d < o.b then (.bad 1,v) else v.mapX o.a s ⟨o.c,o.c+o.b,2,o.d,0,true⟩) else (.bad 1,v))
 else if o.kind=7 then (if pagesB o.b o.c=true then v.unmap o.a s o.c (o.c+o.b) else (.bad 1,v))
 else if o.kind=8 then v.load o.a s o.b
 else if o.kind=9 then v.store o.a s o.b o.c
 else if o.kind=10 then v.fork o.a s
 else (.zero,v.exit o.a)
end VmM
end

section
open Go.RowKit
def treeP (b:Nat) (l:List Tre.Grp):Part where
 at_ w F:=∃ g c,Tre.TreeAt w b g c l∧F=fun x=>x=b∨x=g
 keep:=by rintro S w w' F ⟨g,c,h,rfl⟩ hm hs;exact ⟨g,c,h.keep hm (hs b (.inl rfl)) (hs g (.inr rfl)),rfl⟩
 below:=by
  rintro w F ⟨g,c,h,rfl⟩ x (rfl | rfl)
  · exact h.blk.lt
  · exact h.glt
def poolP (b:Nat) (P:List Bool):Part where
 at_ w F:=∃ m g c,Pol.PoolAt w b m g c P∧F=fun x=>x=b∨x=m∨x=g
 keep:=by rintro S w w' F ⟨m,g,c,h,rfl⟩ hm hs;exact ⟨m,g,c,h.keep hm (hs b (.inl rfl)) (hs m (.inr (.inl rfl))) (hs g (.inr (.inr rfl))),rfl⟩
 below:=by
  rintro w F ⟨m,g,c,h,rfl⟩ x (rfl | rfl | rfl)
  · exact h.blk.lt
  · exact h.bits.blk.lt
  · exact ownsRow_lt h.bits.row _ rfl
def bytesP (b:Nat) (B:List (List Int)):Part where
 at_ w F:=∃ g,Byt.BytesAt w b g B∧F=fun x=>x=b∨x=g
 keep:=by rintro S w w' F ⟨g,h,rfl⟩ hm hs;exact ⟨g,h.keep hm (hs b (.inl rfl)) (hs g (.inr rfl)),rfl⟩
 below:=by
  rintro w F ⟨g,h,rfl⟩ x (rfl | rfl)
  · exact h.blk.lt
  · exact h.row.lt
def cntP (b:Nat) (U:Cnt.CU):Part where
 at_ w F:=Cnt.CntU w b U∧F=fun x=>x=b
 keep:=by rintro S w w' F ⟨h,rfl⟩ hm hs;exact ⟨h.keep hm (hs b rfl),rfl⟩
 below:=by rintro w F ⟨h,rfl⟩ x rfl;exact h.lt
def filP (b:Nat) (S:Fil.FU):Part where
 at_ w F:=Fil.FilU w b F S
 keep:=by rintro S w w' F h hm hs;exact h.keep hm hs
 below:=by rintro w F h;exact h.below
def gensP (b:Nat) (G:Gen.GL):Part where
 at_ w F:=∃ mb,Gen.GensAt w b mb G∧F=fun x=>x=b∨x=mb
 keep:=by rintro S w w' F ⟨mb,h,rfl⟩ hm hs;exact ⟨mb,h.keep hm (hs b (.inl rfl)) (hs mb (.inr rfl)),rfl⟩
 below:=by
  rintro w F ⟨mb,h,rfl⟩ x (rfl | rfl)
  · exact h.blk.lt
  · exact h.map.lt
def logP (b:Nat) (L:List (Int × Int)):Part where
 at_ w F:=Sha.LogAt w b L∧F=fun x=>x=b
 keep:=by rintro S w w' F ⟨h,rfl⟩ hm hs;exact ⟨h.keep hm (hs b rfl),rfl⟩
 below:=by rintro w F ⟨h,rfl⟩ x rfl;exact h.blk.lt
def pagesP (b:Nat) (T:Pag.PT):Part where
 at_ w F:=Pag.PagesAt w b F T
 keep:=by rintro S w w' F h hm hs;exact h.keep hm hs
 below:=by rintro w F ⟨mp,mf,ms,L,h⟩;exact h.below
def evK (o:Option (Nat × Nat)):Value:=.int .u64 (Sha.shW o:Nat)
def ecGu (x:GuM):List Value:=[.int .i64 x.min,.int .i64 x.low,.bool x.whole]
theorem ecGu_len (x:GuM):(ecGu x).length=3:=rfl
structure CK where
 b:Nat
 tb:Nat
 fp:Nat
 fs:Nat
 fu:Nat
 sp:Nat
 ss:Nat
 su:Nat
 fl:Nat
 gb:Nat
 lb:Nat
 pb:Nat
 km:Nat
 gv:Value
 uv:Value
def CK.cells (K:CK):Array Value:=#[.pointer (some ⟨K.tb,0,none⟩),.pointer (some ⟨K.fp,0,none⟩),.pointer (some ⟨K.fs,0,none⟩),.pointer (some ⟨K.fu,0,none⟩),.pointer (some ⟨K.sp,0,none⟩),.pointer (some ⟨K.ss,0,none⟩),.pointer (some ⟨K.su,0,none⟩),.pointer (some ⟨K.fl,0,none⟩),.pointer (some ⟨K.gb,0,none⟩),.pointer (some ⟨K.lb,0,none⟩),.pointer (some ⟨K.pb,0,none⟩),.map (some K.km),K.gv,K.uv]
def coreL (K:CK) (c:CoM):List Part :=
 [blkP K.b K.cells 89,treeP K.tb c.tree,poolP K.fp c.fr.pool,bytesP K.fs c.fr.bytes,cntP K.fu c.fr.used,poolP K.sp c.sl.pool,bytesP K.ss c.sl.bytes,cntP K.su c.sl.used,filP K.fl c.files,gensP K.gb c.gens,logP K.lb c.log,pagesP K.pb c.pages,mapP ekInt evK K.km c.kept,
  rowP 164 3 K.gv c.guards.length (c.guards.flatMap ecGu),rowP 3 1 K.uv c.up.length (c.up.map encI)]
def coreP (K:CK) (c:CoM):Part where
 at_ w F:=Sep (coreL K c) w F∧c.Inv
 keep:=by rintro S w w' F ⟨h,hi⟩ hm hs;exact ⟨h.keep hm hs,hi⟩
 below:=by rintro w F ⟨h,hi⟩;exact h.below
variable {w0 w:World} {F0:Nat→Prop} {K:CK} {c:CoM} {ls:List Part}
theorem coreInv (st:Step w0 F0 (coreP K c::ls) w):c.Inv:=by
 obtain ⟨F,h,_⟩:=st.head1
 exact h.2
theorem corePart (i:Nat) {A:Part} (st:Step w0 F0 (coreP K c::ls) w) (hi:(coreL K c)[i]?=some A) :
 ∃ F1,A.at_ w F1∧¬ F1 tabB∧(∀ x,F1 x→x < w.heap.size)∧(∀ B∈ls,∃ FB,B.at_ w FB∧∀ x,FB x→¬ F1 x) ∧
  ∀ (w':World) (A':Part) (F1':Nat→Prop) (c':CoM),Mod F1 w w'→A'.at_ w' F1'→(∀ x,F1' x→F1 x∨w.heap.size≤x)→(coreL K c).set i A'=coreL K c'→c'.Inv→Step w0 F0 (coreP K c'::ls) w':=by
 obtain ⟨F,FL,⟨hs,hv⟩,hL,hd,ht,hg,hst⟩:=st.headX
 obtain ⟨F1,h1,h2,h3⟩:=hs.upd i hi
 refine ⟨F1,h1,fun h=>ht (h2 _ h),fun x hx=>A.below h1 x hx,?_,?_⟩
 · intro B hB
   obtain ⟨FB,g1,g2⟩:=hL.mem hB
   exact ⟨FB,g1,fun x hx h=>hd x (h2 x h) (g2 x hx)⟩
 · intro w' A' F1' c' hm ha hgr he hi'
   have h4:=h3 w' A' F1' hm ha hgr
   rw [he] at h4
   refine hst w' [coreP K c'] (fun x=>F x∧¬ F1 x∨F1' x) (hm.mono h2) ⟨_,fun _=>False,⟨h4,hi'⟩,fun _ x=>x,fun _ _ x=>x,fun x=>by simp⟩ (fun x hx=>?_)
   rcases hx with hx | hx
   · exact .inl hx.1
   · rcases hgr x hx with h | h
     · exact .inl (h2 x h)
     · exact .inr h
end

section
open Go.RowKit
theorem mem_modA {κ α:Type} [DecidableEq κ] {k:κ} {f:α→α} {e:κ × α}:∀ {l:List (κ × α)},e∈Pag.modA k f l→e∈l∨∃ x,(k,x)∈l∧e=(k,f x):=by
 intro l
 induction l with
 | nil=>intro h;cases h
 | cons y l ih =>
   intro h
   simp only [Pag.modA] at h
   split at h
   · rename_i hk
     rcases List.mem_cons.1 h with rfl | h
     · right;exact ⟨y.2,by rw [hk];exact List.mem_cons_self,by rw [hk]⟩
     · exact .inl (List.mem_cons_of_mem _ h)
   · rcases List.mem_cons.1 h with rfl | h
     · exact .inl List.mem_cons_self
     · rcases ih h with h | ⟨x,h1,h2⟩
       · exact .inl (List.mem_cons_of_mem _ h)
       · exact .inr ⟨x,List.mem_cons_of_mem _ h1,h2⟩
def OwnOk (n:Nat) (T:Pag.PT):Prop:=∀ e∈T.pages,0≤e.2.owner∧e.2.owner < n
theorem OwnOk.mod {n:Nat} {T:Pag.PT} (h:OwnOk n T) (id:Int) (f:Pag.PG→Pag.PG) (hf:∀ p,(f p).owner=p.owner) {T':Pag.PT} (e:T'.pages=Pag.modA id f T.pages):OwnOk n T':=by
 intro x hx
 rw [e] at hx
 rcases mem_modA hx with hx | ⟨y,h1,rfl⟩
 · exact h x hx
 · simp only;rw [hf];exact h _ h1
theorem OwnOk.mark {n:Nat} {T:Pag.PT} (h:OwnOk n T) (id:Int) (d:Bool):OwnOk n (Pag.markT T id d):=h.mod id (fun p=>{ p with dirty:=d }) (fun _=>rfl) rfl
theorem OwnOk.put {n:Nat} {T:Pag.PT} (h:OwnOk n T) (id p a:Int):OwnOk n (Pag.putT T id p a):=by
 unfold Pag.putT
 split
 · exact h
 · split
   · exact h
   · exact h.mod id (fun x=>{ x with place:=p,at_:=a }) (fun _=>rfl) rfl
theorem OwnOk.refer {n:Nat} {T:Pag.PT} (h:OwnOk n T) (id k:Int):OwnOk n (Pag.referT T id k):=by
 unfold Pag.referT
 split
 · exact h
 · split
   · exact h
   · exact h.mod id (fun p=>{ p with refs:=IntKind.i64.wrap (p.refs+k) }) (fun _=>rfl) rfl
theorem OwnOk.drop {n:Nat} {T:Pag.PT} (h:OwnOk n T) (id:Int):OwnOk n (Pag.dropT T id):=by
 unfold Pag.dropT
 split
 · exact h
 · split
   · exact h
   · intro e he;exact h e (Pag.mem_dropA he)
theorem OwnOk.own {n:Nat} {T:Pag.PT} (h:OwnOk n T) (id:Int) {g:Int} (hg:0≤g∧g < n):OwnOk n (Pag.ownT T id g):=by
 intro x hx
 rcases mem_modA hx with hx | ⟨y,h1,rfl⟩
 · exact h x hx
 · exact hg
theorem OwnOk.make {n:Nat} {T:Pag.PT} (h:OwnOk n T) (f i:Int) {g:Int} (hg:0≤g∧g < n):OwnOk n (Pag.makeT T f i g):=by
 unfold Pag.makeT
 split
 all_goals
  intro x hx
  rcases Pag.mem_putA hx with rfl | hx
  · exact hg
  · exact h x hx
theorem live_lt {c:CoM} {g:Int} (h:c.live g=true):0≤g∧g < c.tree.length:=by
 unfold CoM.live Tre.liveB at h
 simp only [Bool.and_eq_true,decide_eq_true_eq] at h
 obtain ⟨h1,h2⟩:=h
 refine ⟨h1,?_⟩
 cases hx:c.tree[g.toNat]? with
 | none=>rw [hx] at h2;simp at h2
 | some x =>
   have:=(ζi.1 hx).1
   omega
def IdsOk (G:Gen.GL):Prop:=∀ e∈G,0≤e.1∧e.1≤16777216
theorem IdsOk.drop {G:Gen.GL} (h:IdsOk G) (id:Int):IdsOk (dropA id G):=fun e he=>h e (Pag.mem_dropA he)
theorem IdsOk.touch {G:Gen.GL} (h:IdsOk G) (id:Int):IdsOk (Gen.touchG id G):=by
 unfold Gen.touchG
 split
 · exact h
 · rename_i x hx
   intro e he
   rcases Pag.mem_putA he with rfl | he
   · have:=h _ (Pag.getA_mem hx);exact this
   · exact h e he
theorem IdsOk.add {G:Gen.GL} (h:IdsOk G) (id g:Int) (old:Bool):IdsOk (Gen.addGU id g old G):=by
 unfold Gen.addGU
 split
 · rename_i hc
   unfold Gen.addG
   split
   · intro e he
     rcases Pag.mem_putA he with rfl | he
     · exact ⟨hc.1,hc.2.1⟩
     · exact h e he
   · exact h
 · exact h
theorem wentO_ok (L:List (Int × Int)) (g:Int):Sha.ShOk (wentO L g):=by
 unfold wentO
 split
 · rename_i hg
   split
   · exact trivial
   · unfold Sha.groupB at hg
     simp only [Bool.and_eq_true,decide_eq_true_eq] at hg
     exact ⟨by omega,by omega⟩
 · exact trivial
theorem wentO_eq (L:List (Int × Int)) (g:Int):Sha.wentN L g=Sha.shW (wentO L g):=by
 unfold Sha.wentN wentO Sha.wentW
 split
 · split<;>rfl
 · rfl
def ShAll (l:List (Int × Option (Nat × Nat))):Prop:=∀ e∈l,Sha.ShOk e.2
theorem ShAll.put {l:List (Int × Option (Nat × Nat))} (h:ShAll l) (id:Int) {o:Option (Nat × Nat)} (ho:Sha.ShOk o):ShAll (putA id o l):=by
 intro e he
 rcases Pag.mem_putA he with rfl | he
 · exact ho
 · exact h e he
theorem ShAll.get {l:List (Int × Option (Nat × Nat))} (h:ShAll l) (id:Int):Sha.ShOk ((getA id l).getD none):=by
 cases hx:getA id l with
 | none=>exact trivial
 | some o=>exact h _ (Pag.getA_mem hx)
variable {w0 w:World} {F0:Nat→Prop} {K:CK} {c:CoM} {ls:List Part}
theorem coreHead (st:Step w0 F0 (coreP K c::ls) w):Blk w K.b K.cells 89:=by
 obtain ⟨F1,h,_⟩:=corePart 0 st rfl
 exact h.1
theorem c_live (g:Int) (st:Step w0 F0 (coreP K c::ls) w) :
 Calls Tryz.prog 51 #[.pointer (some ⟨K.tb,0,none⟩),.int .i64 g] w fun e w'=>e=.returned (.bool (c.live g))∧w=w':=by
 obtain ⟨F1,⟨g',c',h,rfl⟩,_⟩:=corePart 1 st rfl
 exact Tre.live_any _ _ _ _ g w h
theorem c_chain (g:Int) (st:Step w0 F0 (coreP K c::ls) w) :
 Calls Tryz.prog 131 #[.pointer (some ⟨K.tb,0,none⟩),.int .i64 g] w fun e w'=>∃ v,e=.returned v∧Step w0 F0 (coreP K c::rowP 3 1 v (c.chain g).length ((c.chain g).map encI)::ls) w':=by
 obtain ⟨F1,⟨g',c',h,rfl⟩,_⟩:=corePart 1 st rfl
 refine (Tre.ownChain_any _ _ _ _ g w h).mono ?_
 rintro e w' ⟨v,rfl,hm,hr⟩
 exact ⟨v,rfl,st.row hm hr⟩
theorem c_below (g:Int) (st:Step w0 F0 (coreP K c::ls) w) :
 Calls Tryz.prog 90 #[.pointer (some ⟨K.tb,0,none⟩),.int .i64 g] w fun e w'=>∃ v,e=.returned v∧Step w0 F0 (coreP K c::rowP 3 1 v (c.below g).length ((c.below g).map encI)::ls) w':=by
 obtain ⟨F1,⟨g',c',h,rfl⟩,_⟩:=corePart 1 st rfl
 refine (Tre.ownBelow_any _ _ _ _ g w h).mono ?_
 rintro e w' ⟨v,rfl,hm,hr⟩
 exact ⟨v,rfl,st.row hm hr⟩
theorem c_useF (g:Int) (st:Step w0 F0 (coreP K c::ls) w) :
 Calls Tryz.prog 87 #[.pointer (some ⟨K.fu,0,none⟩),.int .i64 g] w fun e w'=>e=.returned (.int .i64 (Cnt.ofU c.fr.used g).1)∧Step w0 F0 (coreP K c::ls) w':=by
 obtain ⟨F1,⟨h,rfl⟩,_⟩:=corePart 4 st rfl
 refine (Cnt.cuse_any _ _ g w h).mono ?_
 rintro e w' ⟨rfl,hm⟩
 exact ⟨rfl,st.still hm⟩
theorem c_setlimF (g n:Int) (st:Step w0 F0 (coreP K c::ls) w) :
 Calls Tryz.prog 88 #[.pointer (some ⟨K.fu,0,none⟩),.int .i64 g,.int .i64 n] w fun e w'=>e=.returned (.int .i64 (Cnt.setLimE g n))∧Step w0 F0 (coreP K { c with fr:={ c.fr with used:=Cnt.limU c.fr.used g n } }::ls) w':=by
 obtain ⟨F1,⟨h,rfl⟩,_,_,_,hup⟩:=corePart 4 st rfl
 refine (Cnt.csetlim_any _ _ g n w h).mono ?_
 rintro e w' ⟨rfl,hm,h'⟩
 exact ⟨rfl,hup w' (cntP K.fu _) _ _ hm ⟨h',rfl⟩ (fun x hx=>.inl hx) rfl (let i:=coreInv st;⟨i.good,i.gl,i.ul,i.own,i.ids,i.sh⟩)⟩
theorem c_tryF (ch:List Int) (v:Value) (n:Nat) (st:Step w0 F0 (coreP K c::ls) w) (hv:rowP 3 1 v n (ch.map encI)∈ls) (hn:n=ch.length) :
 Calls Tryz.prog 253 #[.pointer (some ⟨K.fu,0,none⟩),v,.int .i64 1] w fun e w'=>e=.returned (.tuple #[.int .i64 (Cnt.tryGU c.fr.used ch),.int .i64 (Cnt.tryEU c.fr.used ch)])∧Step w0 F0 (coreP K { c with fr:={ c.fr with used:=Cnt.tryU c.fr.used ch } }::ls) w':=by
 subst hn
 obtain ⟨F1,⟨h,rfl⟩,_,_,hap,hup⟩:=corePart 4 st rfl
 obtain ⟨FB,⟨hr,rfl⟩,hd⟩:=hap _ hv
 refine (Cnt.ctry_any _ _ ch v w h (ints_of_row (hr:w.ownsRow 0 _ _ _ _ _)) (fun _ g hg e=>hd g hg e)).mono ?_
 rintro e w' ⟨rfl,hm,h'⟩
 exact ⟨rfl,hup w' (cntP K.fu _) _ _ hm ⟨h',rfl⟩ (fun x hx=>.inl hx) rfl (let i:=coreInv st;⟨i.good,i.gl,i.ul,i.own,i.ids,i.sh⟩)⟩
theorem c_giveUF (ch:List Int) (k:Int) (v:Value) (n:Nat) (st:Step w0 F0 (coreP K c::ls) w) (hv:rowP 3 1 v n (ch.map encI)∈ls) (hn:n=ch.length) :
 Calls Tryz.prog 86 #[.pointer (some ⟨K.fu,0,none⟩),v,.int .i64 k] w fun e w'=>(∃ x:Int,e=.returned (.int .i64 x))∧Step w0 F0 (coreP K { c with fr:={ c.fr with used:=Cnt.giveU c.fr.used ch k } }::ls) w':=by
 subst hn
 obtain ⟨F1,⟨h,rfl⟩,_,_,hap,hup⟩:=corePart 4 st rfl
 obtain ⟨FB,⟨hr,rfl⟩,hd⟩:=hap _ hv
 refine (Cnt.cgive_any _ _ ch k v w h (ints_of_row (hr:w.ownsRow 0 _ _ _ _ _)) (fun _ g hg e=>hd g hg e)).mono ?_
 rintro e w' ⟨he,hm,h'⟩
 exact ⟨he,hup w' (cntP K.fu _) _ _ hm ⟨h',rfl⟩ (fun x hx=>.inl hx) rfl (let i:=coreInv st;⟨i.good,i.gl,i.ul,i.own,i.ids,i.sh⟩)⟩
theorem c_poolF (st:Step w0 F0 (coreP K c::ls) w) :
 Calls Tryz.prog 252 #[.pointer (some ⟨K.fp,0,none⟩)] w fun e w'=>e=.returned (.tuple #[.int .i64 (Pol.freeIx c.fr.pool),.int .i64 (if 0≤Pol.freeIx c.fr.pool then 0 else 3)])∧Step w0 F0 (coreP K { c with fr:={ c.fr with pool:=Pol.takeP c.fr.pool } }::ls) w':=by
 obtain ⟨F1,⟨m,g,cc,h,rfl⟩,_,_,_,hup⟩:=corePart 2 st rfl
 refine (Pol.take_any _ _ _ _ _ w h st.tab).mono ?_
 rintro e w' ⟨rfl,hm,h'⟩
 exact ⟨rfl,hup w' (poolP K.fp _) _ _ (hm.mono (fun x e=>.inr (.inr e))) ⟨m,g,cc,h',rfl⟩ (fun x hx=>.inl hx) rfl (let i:=coreInv st;⟨i.good,i.gl,i.ul,i.own,i.ids,i.sh⟩)⟩
theorem c_backF (a:Int) (st:Step w0 F0 (coreP K c::ls) w) :
 Calls Tryz.prog 198 #[.pointer (some ⟨K.fp,0,none⟩),.int .i64 a] w fun e w'=>(∃ x:Int,e=.returned (.int .i64 x))∧Step w0 F0 (coreP K { c with fr:={ c.fr with pool:=Pol.giveP c.fr.pool a } }::ls) w':=by
 obtain ⟨F1,⟨m,g,cc,h,rfl⟩,_,_,_,hup⟩:=corePart 2 st rfl
 refine (Pol.give_any _ _ _ _ _ a w h).mono ?_
 rintro e w' ⟨he,hm,h'⟩
 exact ⟨he,hup w' (poolP K.fp _) _ _ (hm.mono (fun x e=>.inr (.inr e))) ⟨m,g,cc,h',rfl⟩ (fun x hx=>.inl hx) rfl (let i:=coreInv st;⟨i.good,i.gl,i.ul,i.own,i.ids,i.sh⟩)⟩
theorem c_readF (a:Int) (st:Step w0 F0 (coreP K c::ls) w) :
 Calls Tryz.prog 236 #[.pointer (some ⟨K.fs,0,none⟩),.int .i64 a] w fun e w'=>(∃ n:Int,e=.returned (.tuple #[.string (strOf (Byt.textL c.fr.bytes a)),.int .i64 n]))∧Step w0 F0 (coreP K c::ls) w':=by
 obtain ⟨F1,⟨g,h,rfl⟩,_⟩:=corePart 3 st rfl
 refine (Byt.bread_any _ _ _ a w h).mono ?_
 rintro e w' ⟨he,hm⟩
 exact ⟨he,st.still hm⟩
theorem c_writeF (a:Int) (t:List Int) (ht:∀ n∈t,0≤n∧n < 256) (hl:t.length < 1000000) (st:Step w0 F0 (coreP K c::ls) w) :
 Calls Tryz.prog 254 #[.pointer (some ⟨K.fs,0,none⟩),.int .i64 a,.string (strOf t)] w fun e w'=>(∃ n:Int,e=.returned (.int .i64 n))∧Step w0 F0 (coreP K { c with fr:={ c.fr with bytes:=Byt.setText c.fr.bytes a t } }::ls) w':=by
 obtain ⟨F1,⟨g,h,rfl⟩,_,_,_,hup⟩:=corePart 3 st rfl
 refine (Byt.bwrite_any _ _ _ a t w h ht hl).mono ?_
 rintro e w' ⟨he,hm,h'⟩
 exact ⟨he,hup w' (bytesP K.fs _) _ _ (hm.mono (fun x e=>.inr e)) ⟨g,h',rfl⟩ (fun x hx=>.inl hx) rfl (let i:=coreInv st;⟨i.good,i.gl,i.ul,i.own,i.ids,i.sh⟩)⟩
theorem c_clearF (a:Int) (st:Step w0 F0 (coreP K c::ls) w) :
 Calls Tryz.prog 197 #[.pointer (some ⟨K.fs,0,none⟩),.int .i64 a] w fun e w'=>(∃ n:Int,e=.returned (.int .i64 n))∧Step w0 F0 (coreP K { c with fr:={ c.fr with bytes:=Byt.clearB c.fr.bytes a } }::ls) w':=by
 obtain ⟨F1,⟨g,h,rfl⟩,_,_,_,hup⟩:=corePart 3 st rfl
 refine (Byt.byclear_any _ _ _ a w h).mono ?_
 rintro e w' ⟨he,hm,h'⟩
 exact ⟨he,hup w' (bytesP K.fs _) _ _ (hm.mono (fun x e=>.inr e)) ⟨g,h',rfl⟩ (fun x hx=>.inl hx) rfl (let i:=coreInv st;⟨i.good,i.gl,i.ul,i.own,i.ids,i.sh⟩)⟩
theorem c_useS (g:Int) (st:Step w0 F0 (coreP K c::ls) w) :
 Calls Tryz.prog 87 #[.pointer (some ⟨K.su,0,none⟩),.int .i64 g] w fun e w'=>e=.returned (.int .i64 (Cnt.ofU c.sl.used g).1)∧Step w0 F0 (coreP K c::ls) w':=by
 obtain ⟨F1,⟨h,rfl⟩,_⟩:=corePart 7 st rfl
 refine (Cnt.cuse_any _ _ g w h).mono ?_
 rintro e w' ⟨rfl,hm⟩
 exact ⟨rfl,st.still hm⟩
theorem c_limS (g:Int) (st:Step w0 F0 (coreP K c::ls) w) :
 Calls Tryz.prog 251 #[.pointer (some ⟨K.su,0,none⟩),.int .i64 g] w fun e w'=>e=.returned (.int .i64 (Cnt.ofU c.sl.used g).2)∧Step w0 F0 (coreP K c::ls) w':=by
 obtain ⟨F1,⟨h,rfl⟩,_⟩:=corePart 7 st rfl
 refine (Cnt.climit_any _ _ g w h).mono ?_
 rintro e w' ⟨rfl,hm⟩
 exact ⟨rfl,st.still hm⟩
theorem c_setlimS (g n:Int) (st:Step w0 F0 (coreP K c::ls) w) :
 Calls Tryz.prog 88 #[.pointer (some ⟨K.su,0,none⟩),.int .i64 g,.int .i64 n] w fun e w'=>e=.returned (.int .i64 (Cnt.setLimE g n))∧Step w0 F0 (coreP K { c with sl:={ c.sl with used:=Cnt.limU c.sl.used g n } }::ls) w':=by
 obtain ⟨F1,⟨h,rfl⟩,_,_,_,hup⟩:=corePart 7 st rfl
 refine (Cnt.csetlim_any _ _ g n w h).mono ?_
 rintro e w' ⟨rfl,hm,h'⟩
 exact ⟨rfl,hup w' (cntP K.su _) _ _ hm ⟨h',rfl⟩ (fun x hx=>.inl hx) rfl (let i:=coreInv st;⟨i.good,i.gl,i.ul,i.own,i.ids,i.sh⟩)⟩
theorem c_tryS (ch:List Int) (v:Value) (n:Nat) (st:Step w0 F0 (coreP K c::ls) w) (hv:rowP 3 1 v n (ch.map encI)∈ls) (hn:n=ch.length) :
 Calls Tryz.prog 253 #[.pointer (some ⟨K.su,0,none⟩),v,.int .i64 1] w fun e w'=>e=.returned (.tuple #[.int .i64 (Cnt.tryGU c.sl.used ch),.int .i64 (Cnt.tryEU c.sl.used ch)])∧Step w0 F0 (coreP K { c with sl:={ c.sl with used:=Cnt.tryU c.sl.used ch } }::ls) w':=by
 subst hn
 obtain ⟨F1,⟨h,rfl⟩,_,_,hap,hup⟩:=corePart 7 st rfl
 obtain ⟨FB,⟨hr,rfl⟩,hd⟩:=hap _ hv
 refine (Cnt.ctry_any _ _ ch v w h (ints_of_row (hr:w.ownsRow 0 _ _ _ _ _)) (fun _ g hg e=>hd g hg e)).mono ?_
 rintro e w' ⟨rfl,hm,h'⟩
 exact ⟨rfl,hup w' (cntP K.su _) _ _ hm ⟨h',rfl⟩ (fun x hx=>.inl hx) rfl (let i:=coreInv st;⟨i.good,i.gl,i.ul,i.own,i.ids,i.sh⟩)⟩
theorem c_giveUS (ch:List Int) (k:Int) (v:Value) (n:Nat) (st:Step w0 F0 (coreP K c::ls) w) (hv:rowP 3 1 v n (ch.map encI)∈ls) (hn:n=ch.length) :
 Calls Tryz.prog 86 #[.pointer (some ⟨K.su,0,none⟩),v,.int .i64 k] w fun e w'=>(∃ x:Int,e=.returned (.int .i64 x))∧Step w0 F0 (coreP K { c with sl:={ c.sl with used:=Cnt.giveU c.sl.used ch k } }::ls) w':=by
 subst hn
 obtain ⟨F1,⟨h,rfl⟩,_,_,hap,hup⟩:=corePart 7 st rfl
 obtain ⟨FB,⟨hr,rfl⟩,hd⟩:=hap _ hv
 refine (Cnt.cgive_any _ _ ch k v w h (ints_of_row (hr:w.ownsRow 0 _ _ _ _ _)) (fun _ g hg e=>hd g hg e)).mono ?_
 rintro e w' ⟨he,hm,h'⟩
 exact ⟨he,hup w' (cntP K.su _) _ _ hm ⟨h',rfl⟩ (fun x hx=>.inl hx) rfl (let i:=coreInv st;⟨i.good,i.gl,i.ul,i.own,i.ids,i.sh⟩)⟩
theorem c_poolS (st:Step w0 F0 (coreP K c::ls) w) :
 Calls Tryz.prog 252 #[.pointer (some ⟨K.sp,0,none⟩)] w fun e w'=>e=.returned (.tuple #[.int .i64 (Pol.freeIx c.sl.pool),.int .i64 (if 0≤Pol.freeIx c.sl.pool then 0 else 3)])∧Step w0 F0 (coreP K { c with sl:={ c.sl with pool:=Pol.takeP c.sl.pool } }::ls) w':=by
 obtain ⟨F1,⟨m,g,cc,h,rfl⟩,_,_,_,hup⟩:=corePart 5 st rfl
 refine (Pol.take_any _ _ _ _ _ w h st.tab).mono ?_
 rintro e w' ⟨rfl,hm,h'⟩
 exact ⟨rfl,hup w' (poolP K.sp _) _ _ (hm.mono (fun x e=>.inr (.inr e))) ⟨m,g,cc,h',rfl⟩ (fun x hx=>.inl hx) rfl (let i:=coreInv st;⟨i.good,i.gl,i.ul,i.own,i.ids,i.sh⟩)⟩
theorem c_backS (a:Int) (st:Step w0 F0 (coreP K c::ls) w) :
 Calls Tryz.prog 198 #[.pointer (some ⟨K.sp,0,none⟩),.int .i64 a] w fun e w'=>(∃ x:Int,e=.returned (.int .i64 x))∧Step w0 F0 (coreP K { c with sl:={ c.sl with pool:=Pol.giveP c.sl.pool a } }::ls) w':=by
 obtain ⟨F1,⟨m,g,cc,h,rfl⟩,_,_,_,hup⟩:=corePart 5 st rfl
 refine (Pol.give_any _ _ _ _ _ a w h).mono ?_
 rintro e w' ⟨he,hm,h'⟩
 exact ⟨he,hup w' (poolP K.sp _) _ _ (hm.mono (fun x e=>.inr (.inr e))) ⟨m,g,cc,h',rfl⟩ (fun x hx=>.inl hx) rfl (let i:=coreInv st;⟨i.good,i.gl,i.ul,i.own,i.ids,i.sh⟩)⟩
theorem c_readS (a:Int) (st:Step w0 F0 (coreP K c::ls) w) :
 Calls Tryz.prog 236 #[.pointer (some ⟨K.ss,0,none⟩),.int .i64 a] w fun e w'=>(∃ n:Int,e=.returned (.tuple #[.string (strOf (Byt.textL c.sl.bytes a)),.int .i64 n]))∧Step w0 F0 (coreP K c::ls) w':=by
 obtain ⟨F1,⟨g,h,rfl⟩,_⟩:=corePart 6 st rfl
 refine (Byt.bread_any _ _ _ a w h).mono ?_
 rintro e w' ⟨he,hm⟩
 exact ⟨he,st.still hm⟩
theorem c_writeS (a:Int) (t:List Int) (ht:∀ n∈t,0≤n∧n < 256) (hl:t.length < 1000000) (st:Step w0 F0 (coreP K c::ls) w) :
 Calls Tryz.prog 254 #[.pointer (some ⟨K.ss,0,none⟩),.int .i64 a,.string (strOf t)] w fun e w'=>(∃ n:Int,e=.returned (.int .i64 n))∧Step w0 F0 (coreP K { c with sl:={ c.sl with bytes:=Byt.setText c.sl.bytes a t } }::ls) w':=by
 obtain ⟨F1,⟨g,h,rfl⟩,_,_,_,hup⟩:=corePart 6 st rfl
 refine (Byt.bwrite_any _ _ _ a t w h ht hl).mono ?_
 rintro e w' ⟨he,hm,h'⟩
 exact ⟨he,hup w' (bytesP K.ss _) _ _ (hm.mono (fun x e=>.inr e)) ⟨g,h',rfl⟩ (fun x hx=>.inl hx) rfl (let i:=coreInv st;⟨i.good,i.gl,i.ul,i.own,i.ids,i.sh⟩)⟩
theorem c_clearS (a:Int) (st:Step w0 F0 (coreP K c::ls) w) :
 Calls Tryz.prog 197 #[.pointer (some ⟨K.ss,0,none⟩),.int .i64 a] w fun e w'=>(∃ n:Int,e=.returned (.int .i64 n))∧Step w0 F0 (coreP K { c with sl:={ c.sl with bytes:=Byt.clearB c.sl.bytes a } }::ls) w':=by
 obtain ⟨F1,⟨g,h,rfl⟩,_,_,_,hup⟩:=corePart 6 st rfl
 refine (Byt.byclear_any _ _ _ a w h).mono ?_
 rintro e w' ⟨he,hm,h'⟩
 exact ⟨he,hup w' (bytesP K.ss _) _ _ (hm.mono (fun x e=>.inr e)) ⟨g,h',rfl⟩ (fun x hx=>.inl hx) rfl (let i:=coreInv st;⟨i.good,i.gl,i.ul,i.own,i.ids,i.sh⟩)⟩
end
end Go.Proofs.YtkfoeonggmlebaaGreatDoor
