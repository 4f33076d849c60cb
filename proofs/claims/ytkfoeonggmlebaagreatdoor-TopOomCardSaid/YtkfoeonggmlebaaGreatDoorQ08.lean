/-
  Contracts of the program's functions, and plain facts, towards the laws of millpondtop. No condition beyond those that each theorem bears.
-/
import Derived.Test.YtkfoeonggmlebaaGreatDoorQ05
import Derived.Test.YtkfoeonggmlebaaGreatDoorQAA
set_option maxRecDepth 100000
set_option maxHeartbeats 4000000
namespace Go.Proofs.YtkfoeonggmlebaaGreatDoor
namespace Pag
open Go.RowKit
section
variable {κ α β:Type} [DecidableEq κ]
def modA (k:κ) (f:α→α):List (κ × α)→List (κ × α)
 | []=>[]
 | e::l=>if k=e.1 then (e.1,f e.2)::l else e::modA k f l
def mapV (g:α→β) (l:List (κ × α)):List (κ × β):=l.map fun e=>(e.1,g e.2)
theorem getA_map (g:α→β) (k:κ) (l:List (κ × α)):getA k (mapV g l)=(getA k l).map g:=by
 unfold mapV
 induction l with
 | nil=>rfl
 | cons e l ih =>
   simp only [List.map_cons,getA]
   split
   · rfl
   · exact ih
theorem modA_map (g:α→β) (k:κ) (f:α→α) (f':β→β) (h:∀ x,g (f x)=f' (g x)) (l:List (κ × α)):mapV g (modA k f l)=modA k f' (mapV g l):=by
 unfold mapV
 induction l with
 | nil=>rfl
 | cons e l ih =>
   simp only [List.map_cons,modA]
   split
   · simp [h]
   · simp [ih]
theorem modA_map_id (g:α→β) (k:κ) (f:α→α) (h:∀ x,g (f x)=g x) (l:List (κ × α)):mapV g (modA k f l)=mapV g l:=by
 unfold mapV
 induction l with
 | nil=>rfl
 | cons e l ih =>
   simp only [List.map_cons,modA]
   split
   · simp [h]
   · simp [ih]
theorem putA_map (g:α→β) (k:κ) (v:α) (l:List (κ × α)):mapV g (putA k v l)=putA k (g v) (mapV g l):=by
 unfold mapV
 induction l with
 | nil=>rfl
 | cons e l ih =>
   simp only [List.map_cons,putA]
   split
   · rfl
   · simp [ih]
theorem dropA_map (g:α→β) (k:κ) (l:List (κ × α)):mapV g (dropA k l)=dropA k (mapV g l):=by
 unfold mapV
 induction l with
 | nil=>rfl
 | cons e l ih =>
   simp only [List.map_cons,dropA]
   split
   · rfl
   · simp [ih]
theorem getA_mem {k:κ} {v:α} {l:List (κ × α)} (h:getA k l=some v):(k,v)∈l:=by
 induction l with
 | nil=>cases h
 | cons e l ih =>
   simp only [getA] at h
   split at h
   · rename_i hk;injection h with h;subst h;rw [hk];exact List.mem_cons_self
   · exact List.mem_cons_of_mem _ (ih h)
theorem mem_dropA {k:κ} {e:κ × α} {l:List (κ × α)} (h:e∈dropA k l):e∈l:=by
 induction l with
 | nil=>cases h
 | cons x l ih =>
   simp only [dropA] at h
   split at h
   · exact List.mem_cons_of_mem _ h
   · rcases List.mem_cons.1 h with rfl | h
     · exact List.mem_cons_self
     · exact List.mem_cons_of_mem _ (ih h)
theorem mem_putA {k:κ} {v:α} {e:κ × α} {l:List (κ × α)} (h:e∈putA k v l):e=(k,v)∨e∈l:=by
 induction l with
 | nil=>left;simpa [putA] using h
 | cons x l ih =>
   simp only [putA] at h
   split at h
   · rcases List.mem_cons.1 h with rfl | h
     · exact .inl rfl
     · exact .inr (List.mem_cons_of_mem _ h)
   · rcases List.mem_cons.1 h with rfl | h
     · exact .inr List.mem_cons_self
     · exact (ih h).imp (fun x=>x) (List.mem_cons_of_mem _)
theorem dropA_sub (k:κ) (l:List (κ × α)):(dropA k l).Sublist l:=by
 induction l with
 | nil=>exact List.Sublist.refl _
 | cons x l ih =>
   simp only [dropA]
   split
   · exact List.sublist_cons_self _ _
   · exact ih.cons_cons _
end
structure PG where
 file:Int
 index:Int
 place:Int
 at_:Int
 owner:Int
 refs:Int
 dirty:Bool
deriving DecidableEq
def PG.cells (p:PG):Array Value:=#[.int .i64 p.file,.int .i64 p.index,.int .i64 p.place,.int .i64 p.at_,.int .i64 p.owner,.int .i64 p.refs,.int .i64 0,.bool false,.bool p.dirty]
def PG.val (p:PG):Value:=.agg p.cells
def PG.zero:PG:=⟨0,0,0,0,0,0,false⟩
structure PT where
 pages:List (Int × PG)
 files:List ((Int × Int) × Int)
 spots:List ((Int × Int) × Int)
 next:Int
def ofT (T:PT) (f i:Int):Int:=(getA (f,i) T.files).getD (-1)
def atT (T:PT) (p a:Int):Int:=(getA (p,a) T.spots).getD (-1)
def pageT (T:PT) (id:Int):PG:=(getA id T.pages).getD PG.zero
def pageE (T:PT) (id:Int):Int:=if (getA id T.pages).isSome then 0 else 2
def makeT (T:PT) (f i owner:Int):PT :=
 if f < 0 then { T with next:=IntKind.i64.wrap (T.next+1),pages:=putA T.next ⟨-1,T.next,0,0,owner,0,false⟩ T.pages }
 else { T with next:=IntKind.i64.wrap (T.next+1),files:=putA (f,i) T.next T.files,pages:=putA T.next ⟨f,i,0,0,owner,0,false⟩ T.pages }
def putT (T:PT) (id place a:Int):PT :=
 match getA id T.pages with
 | none=>T
 | some p =>
   if 0≤atT T place a∧atT T place a≠id then T else
   { T with pages:=modA id (fun p=>{ p with place:=place,at_:=a }) T.pages,spots:=if place=0 then dropA (p.place,p.at_) T.spots else putA (place,a) id (dropA (p.place,p.at_) T.spots) }
def referL (T:PT) (id n:Int):Int:=match getA id T.pages with
 | none=>0
 | some p=>if IntKind.i64.wrap (p.refs+n) < 0 then 0 else IntKind.i64.wrap (p.refs+n)
def referE (T:PT) (id n:Int):Int:=match getA id T.pages with
 | none=>2
 | some p=>if IntKind.i64.wrap (p.refs+n) < 0 then 1 else 0
def referT (T:PT) (id n:Int):PT:=match getA id T.pages with
 | none=>T
 | some p=>if IntKind.i64.wrap (p.refs+n) < 0 then T else { T with pages:=modA id (fun p=>{ p with refs:=IntKind.i64.wrap (p.refs+n) }) T.pages }
def dropE (T:PT) (id:Int):Int:=match getA id T.pages with
 | none=>2
 | some p=>if 0 < p.refs∨p.place≠0 then 4 else 0
def dropT (T:PT) (id:Int):PT:=match getA id T.pages with
 | none=>T
 | some p=>if 0 < p.refs∨p.place≠0 then T else { T with files:=dropA (p.file,p.index) T.files,pages:=dropA id T.pages }
def ownT (T:PT) (id owner:Int):PT:={ T with pages:=modA id (fun p=>{ p with owner:=owner }) T.pages }
def markT (T:PT) (id:Int) (d:Bool):PT:={ T with pages:=modA id (fun p=>{ p with dirty:=d }) T.pages }
def evP (x:Nat):Value:=.pointer (some ⟨x,0,none⟩)
def Blks (w:World) (T:TypeId) (L:List (Int × (Nat × PG))):Prop:=(∀ e∈L,Blk w e.2.1 e.2.2.cells T)∧(L.map (fun e=>e.2.1)).Nodup
theorem Blks.keep {S:Nat→Prop} {w w':World} {T:TypeId} {L:List (Int × (Nat × PG))} (h:Blks w T L) (hm:Mod S w w') (hs:∀ e∈L,¬ S e.2.1):Blks w' T L :=
 ⟨fun e he=>(h.1 e he).keep hm (hs e he),h.2⟩
theorem Blks.drop {w:World} {T:TypeId} {L:List (Int × (Nat × PG))} (h:Blks w T L) (id:Int):Blks w T (dropA id L) :=
 ⟨fun e he=>h.1 e (mem_dropA he),h.2.sublist ((dropA_sub id L).map _)⟩
theorem modA_blocks (id:Int) (f:PG→PG) (L:List (Int × (Nat × PG))):(modA id (fun x=>(x.1,f x.2)) L).map (fun e=>e.2.1)=L.map (fun e=>e.2.1):=by
 induction L with
 | nil=>rfl
 | cons e L ih =>
   simp only [modA]
   split
   · simp
   · simp only [List.map_cons,ih]
theorem Blks.mod {w w':World} {T:TypeId} {id:Int} {blk:Nat} {p:PG} {f:PG→PG}:∀ {L:List (Int × (Nat × PG))},Blks w T L→getA id L=some (blk,p)→Mod (fun x=>x=blk) w w'→Blk w' blk (f p).cells T→Blks w' T (modA id (fun x=>(x.1,f x.2)) L):=by
 intro L h hg hm hb
 refine ⟨?_,by rw [modA_blocks];exact h.2⟩
 obtain ⟨h1,h2⟩:=h
 induction L with
 | nil=>cases hg
 | cons e L ih =>
   simp only [getA] at hg
   rw [List.map_cons,List.nodup_cons] at h2
   intro x hx
   simp only [modA] at hx
   split at hg
   · rename_i hk
     rw [if_pos hk] at hx
     injection hg with hg
     rcases List.mem_cons.1 hx with rfl | hx
     · simp only [hg];exact hb
     · refine (h1 x (List.mem_cons_of_mem _ hx)).keep hm (fun e'=>h2.1 ?_)
       rw [hg]
       exact List.mem_map.2 ⟨x,hx,e'⟩
   · rename_i hk
     rw [if_neg hk] at hx
     rcases List.mem_cons.1 hx with rfl | hx
     · refine (h1 x List.mem_cons_self).keep hm (fun e'=>h2.1 ?_)
       have:=getA_mem hg
       exact List.mem_map.2 ⟨_,this,e'.symm⟩
     · exact ih hg (fun y hy=>h1 y (List.mem_cons_of_mem _ hy)) h2.2 x hx
theorem Blks.put {w:World} {T:TypeId} {L:List (Int × (Nat × PG))} (h:Blks w T L) (id:Int) {blk:Nat} {p:PG} (hb:Blk w blk p.cells T) (hn:∀ e∈L,e.2.1≠blk):Blks w T (putA id (blk,p) L):=by
 refine ⟨fun e he=>?_,?_⟩
 · rcases mem_putA he with rfl | he
   · exact hb
   · exact h.1 e he
 · obtain ⟨h1,h2⟩:=h
   induction L with
   | nil=>simp [putA]
   | cons e L ih =>
     rw [List.map_cons,List.nodup_cons] at h2
     simp only [putA]
     split
     · rw [List.map_cons,List.nodup_cons]
       refine ⟨fun hx=>?_,h2.2⟩
       obtain ⟨y,hy,e'⟩:=List.mem_map.1 hx
       exact hn y (List.mem_cons_of_mem _ hy) e'
     · rw [List.map_cons,List.nodup_cons]
       refine ⟨fun hx=>?_,ih (fun y hy=>hn y (List.mem_cons_of_mem _ hy)) (fun y hy=>h1 y (List.mem_cons_of_mem _ hy)) h2.2⟩
       obtain ⟨y,hy,e'⟩:=List.mem_map.1 hx
       rcases mem_putA hy with rfl | hy
       · exact hn e List.mem_cons_self e'.symm
       · exact h2.1 (List.mem_map.2 ⟨y,hy,e'⟩)
end Pag

namespace Pag
open Go.RowKit
theorem keyA_eq (a b:Int × Int) (w:World):(Op.equal 190 (ekTwo a) (ekTwo b)).run Tryz.prog w=.ok (decide (a=b)) w:=by
 have h:=run_equalIn_struct (P:=Tryz.prog) w 9999 190 #[.int .i64 a.1,.int .i64 a.2] #[.int .i64 b.1,.int .i64 b.2] (by kernel_rfl) (by kernel_rfl)
 show (Op.equalIn (9999+1) 190 (ekTwo a) (ekTwo b)).run Tryz.prog w=_
 unfold ekTwo
 rw [h]
 simp [go_sem]
 obtain ⟨a1,a2⟩:=a
 obtain ⟨b1,b2⟩:=b
 by_cases h1:a1=b1<;>by_cases h2:a2=b2<;>simp [h1,h2]
theorem keyA_check (em:Bool) (k:Int × Int) (w:World):(Instr.checkKey em 10000 190 (ekTwo k)).run Tryz.prog w=.ok () w:=by
 show (Instr.checkKey em (9999+1) 190 (ekTwo k)).run Tryz.prog w=_
 have h:=fun x w=>run_checkKey_int (P:=Tryz.prog) Tryz.underlying3 em 9998 x w
 unfold ekTwo Instr.checkKey
 simp [go_sem,h]
theorem mkey_api:MKey Tryz.prog 190 ekTwo:=mkey_two keyA_eq (fs:=Tryz.prog.fieldsOf 190) (by kernel_rfl) keyA_check
theorem keyS_eq (a b:Int × Int) (w:World):(Op.equal 269 (ekTwo a) (ekTwo b)).run Tryz.prog w=.ok (decide (a=b)) w:=by
 have h:=run_equalIn_struct (P:=Tryz.prog) w 9999 269 #[.int .i64 a.1,.int .i64 a.2] #[.int .i64 b.1,.int .i64 b.2] (by kernel_rfl) (by kernel_rfl)
 show (Op.equalIn (9999+1) 269 (ekTwo a) (ekTwo b)).run Tryz.prog w=_
 unfold ekTwo
 rw [h]
 simp [go_sem]
 obtain ⟨a1,a2⟩:=a
 obtain ⟨b1,b2⟩:=b
 by_cases h1:a1=b1<;>by_cases h2:a2=b2<;>simp [h1,h2]
theorem keyS_check (em:Bool) (k:Int × Int) (w:World):(Instr.checkKey em 10000 269 (ekTwo k)).run Tryz.prog w=.ok () w:=by
 show (Instr.checkKey em (9999+1) 269 (ekTwo k)).run Tryz.prog w=_
 have h:=fun x w=>run_checkKey_int (P:=Tryz.prog) Tryz.underlying3 em 9998 x w
 have h':=fun x w=>run_checkKey_int (P:=Tryz.prog) Tryz.underlying196 em 9998 x w
 unfold ekTwo Instr.checkKey
 simp [go_sem,h,h']
theorem mkey_spot:MKey Tryz.prog 269 ekTwo:=mkey_two keyS_eq (fs:=Tryz.prog.fieldsOf 269) (by kernel_rfl) keyS_check
structure PagesR (w:World) (b mp mf ms:Nat) (F:Nat→Prop) (T:PT) (L:List (Int × (Nat × PG))):Prop where
 blk:Blk w b #[.map (some mp),.map (some mf),.map (some ms),.int .i64 T.next] 117
 mpg:MapA ekInt evP w mp (mapV (·.1) L)
 mfl:MapA ekTwo encI w mf T.files
 msp:MapA ekTwo encI w ms T.spots
 eq:mapV (·.2) L=T.pages
 blks:Blks w 198 L
 ne:mp≠mf∧mp≠ms∧mf≠ms
 inF:F b∧F mp∧F mf∧F ms∧∀ e∈L,F e.2.1
 below:∀ x,F x→x < w.heap.size
def PagesAt (w:World) (b:Nat) (F:Nat→Prop) (T:PT):Prop:=∃ mp mf ms L,PagesR w b mp mf ms F T L
theorem PagesR.keep {S:Nat→Prop} {w w':World} {b mp mf ms:Nat} {F:Nat→Prop} {T:PT} {L:List (Int × (Nat × PG))} (h:PagesR w b mp mf ms F T L) (hm:Mod S w w') (hs:∀ x,F x→¬ S x):PagesR w' b mp mf ms F T L where
 blk:=h.blk.keep hm (hs _ h.inF.1)
 mpg:=h.mpg.keep hm (hs _ h.inF.2.1)
 mfl:=h.mfl.keep hm (hs _ h.inF.2.2.1)
 msp:=h.msp.keep hm (hs _ h.inF.2.2.2.1)
 eq:=h.eq
 blks:=h.blks.keep hm (fun e he=>hs _ (h.inF.2.2.2.2 e he))
 ne:=h.ne
 inF:=h.inF
 below:=fun x hx=>Nat.lt_of_lt_of_le (h.below x hx) hm.size
theorem PagesAt.keep {S:Nat→Prop} {w w':World} {b:Nat} {F:Nat→Prop} {T:PT} (h:PagesAt w b F T) (hm:Mod S w w') (hs:∀ x,F x→¬ S x):PagesAt w' b F T:=by
 obtain ⟨mp,mf,ms,L,h⟩:=h;exact ⟨mp,mf,ms,L,h.keep hm hs⟩
theorem PagesR.keepN {w w':World} {b mp mf ms:Nat} {F:Nat→Prop} {T:PT} {L:List (Int × (Nat × PG))} (h:PagesR w b mp mf ms F T L) (hm:Mod (fun _=>False) w w'):PagesR w' b mp mf ms F T L:=h.keep hm (fun _ _ x=>x)
theorem PagesAt.keepN {w w':World} {b:Nat} {F:Nat→Prop} {T:PT} (h:PagesAt w b F T) (hm:Mod (fun _=>False) w w'):PagesAt w' b F T:=h.keep hm (fun _ _ x=>x)
theorem PagesR.head {w:World} {b mp mf ms:Nat} {F:Nat→Prop} {T:PT} {L:List (Int × (Nat × PG))} (h:PagesR w b mp mf ms F T L) :
 w.cell? ⟨b,0,none⟩=some (.map (some mp))∧w.cell? ⟨b,1,none⟩=some (.map (some mf))∧w.cell? ⟨b,2,none⟩=some (.map (some ms))∧w.cell? ⟨b,3,none⟩=some (.int .i64 T.next):=by
 rw [h.blk.cell,h.blk.cell,h.blk.cell,h.blk.cell];exact ⟨rfl,rfl,rfl,rfl⟩
theorem PagesR.page {w:World} {b mp mf ms:Nat} {F:Nat→Prop} {T:PT} {L:List (Int × (Nat × PG))} (h:PagesR w b mp mf ms F T L) (id:Int) :
 (∃ blk p,getA id L=some (blk,p)∧getA id T.pages=some p∧Blk w blk p.cells 198∧F blk)∨(getA id L=none∧getA id T.pages=none):=by
 have e:getA id T.pages=(getA id L).map (·.2):=by rw [←h.eq,getA_map]
 cases hx:getA id L with
 | none=>right;rw [e,hx];exact ⟨rfl,rfl⟩
 | some x =>
   left
   obtain ⟨blk,p⟩:=x
   have hm:=getA_mem hx
   exact ⟨blk,p,rfl,by rw [e,hx];rfl,h.blks.1 _ hm,h.inF.2.2.2.2 _ hm⟩
theorem zero_ptr (w:World):(zeroValue 223).run Tryz.prog w=.ok (.pointer none) w:=by kernel_rfl
theorem PagesR.look {w:World} {b mp mf ms:Nat} {F:Nat→Prop} {T:PT} {L:List (Int × (Nat × PG))} (h:PagesR w b mp mf ms F T L) (id:Int) :
 (Instr.lookup 113 (.map (some mp)) (.int .i64 id) false).run Tryz.prog w=.ok (.pointer ((getA id L).map fun x=>⟨x.1,0,none⟩)) w:=by
 have:=h.mpg.lookup_one key_int Tryz.underlying113 (zero_ptr w) id
 rw [show ekInt id=.int .i64 id from rfl] at this
 rw [this,getA_map]
 cases getA id L<;>rfl
theorem pgget_any (b:Nat) (F:Nat→Prop) (T:PT) (id:Int) (w:World) (h:PagesAt w b F T) :
 Calls Tryz.prog 130 #[.pointer (some ⟨b,0,none⟩),.int .i64 id] w fun e w'=>e=.returned (.tuple #[(pageT T id).val,.int .i64 (pageE T id)])∧Mod (fun _=>False) w w':=by
 obtain ⟨mp,mf,ms,L,h⟩:=h
 unfold pageT pageE
 rcases h.page id with ⟨blk,p,e1,e2,hb,hF⟩ | ⟨e1,e2⟩
 · rw [e2]
   go_enter Tryz.func130,Tryz.ntmps130
   go_upto_region 1 with fail
   obtain ⟨w1,hw1⟩:∃ w1,w1=w.alloc (.cells #[.int .i64 0,.int .i64 0,.int .i64 0,.int .i64 0,.int .i64 0,.int .i64 0,.int .i64 0,.bool false,.bool false] 198):=⟨_,rfl⟩
   obtain ⟨r,hr⟩:∃ r,r=w.heap.size:=⟨_,rfl⟩
   have hbr:Blk w1 r #[.int .i64 0,.int .i64 0,.int .i64 0,.int .i64 0,.int .i64 0,.int .i64 0,.int .i64 0,.bool false,.bool false] 198:=by rw [hw1,hr];exact Blk.new w _ _
   have m1:Mod (fun _=>False) w w1:=by rw [hw1];exact Mod.alloc' _ _ _
   rw [←hw1,←hr]
   have h1:=h.keepN m1
   have hlk:=h1.look id
   obtain ⟨c0,_,_,_⟩:=h1.head
   have hrl:w.heap.size≤r:=by omega
   have hbZ:=hbr
   have hbr0:=hbr.cell 0
   have hbr1:=hbr.cell 1
   have hbr2:=hbr.cell 2
   have hbr3:=hbr.cell 3
   have hbr4:=hbr.cell 4
   have hbr5:=hbr.cell 5
   have hbr6:=hbr.cell 6
   have hbr7:=hbr.cell 7
   have hbr8:=hbr.cell 8
   simp only [ζa,ζb,ζc] at hbr0 hbr1 hbr2 hbr3 hbr4 hbr5 hbr6 hbr7 hbr8
   have f0:=hbZ.frozen 0
   have f1:=hbZ.frozen 1
   have f2:=hbZ.frozen 2
   have f3:=hbZ.frozen 3
   have f4:=hbZ.frozen 4
   have f5:=hbZ.frozen 5
   have f6:=hbZ.frozen 6
   have f7:=hbZ.frozen 7
   have f8:=hbZ.frozen 8
   have hb:=hb.keep m1 (fun x=>x)
   rw [e1] at hlk
   simp only [Option.map_some] at hlk
   unfold PG.cells at hb
   have hb0:=hb.cell 0
   have hb1:=hb.cell 1
   have hb2:=hb.cell 2
   have hb3:=hb.cell 3
   have hb4:=hb.cell 4
   have hb5:=hb.cell 5
   have hb6:=hb.cell 6
   have hb7:=hb.cell 7
   have hb8:=hb.cell 8
   simp only [ζa,ζb,ζc] at hb0 hb1 hb2 hb3 hb4 hb5 hb6 hb7 hb8
   clear e1 e2 hw1 hr h h1
   go_wp2_with fail
   (try simp only [Exit.inBlock,Exit.then])
   have hbF:=(((((((((hbr.set 0 (.int .i64 p.file)).set 1 (.int .i64 p.index)).set 2 (.int .i64 p.place)).set 3 (.int .i64 p.at_)).set 4 (.int .i64 p.owner)).set 5 (.int .i64 p.refs)).set 6 (.int .i64 0)).set 7 (.bool false)).set 8 (.bool p.dirty))
   simp only [List.setIfInBounds_toArray,List.set_cons_zero,List.set_cons_succ] at hbF
   refine bodyPost_ret (res_cell rfl rfl hbF Tryz.underlying198 rfl (by kernel_rfl)) rfl ⟨rfl,?_⟩
   repeat' (refine Mod.setCell ?_ (.inr hrl) _)
   exact m1
 · rw [e2]
   go_enter Tryz.func130,Tryz.ntmps130
   go_upto_region 1 with fail
   obtain ⟨w1,hw1⟩:∃ w1,w1=w.alloc (.cells #[.int .i64 0,.int .i64 0,.int .i64 0,.int .i64 0,.int .i64 0,.int .i64 0,.int .i64 0,.bool false,.bool false] 198):=⟨_,rfl⟩
   obtain ⟨r,hr⟩:∃ r,r=w.heap.size:=⟨_,rfl⟩
   have hbr:Blk w1 r #[.int .i64 0,.int .i64 0,.int .i64 0,.int .i64 0,.int .i64 0,.int .i64 0,.int .i64 0,.bool false,.bool false] 198:=by rw [hw1,hr];exact Blk.new w _ _
   have m1:Mod (fun _=>False) w w1:=by rw [hw1];exact Mod.alloc' _ _ _
   rw [←hw1,←hr]
   have h1:=h.keepN m1
   have hlk:=h1.look id
   obtain ⟨c0,_,_,_⟩:=h1.head
   have hrl:w.heap.size≤r:=by omega
   have hbZ:=hbr
   have hbr0:=hbr.cell 0
   have hbr1:=hbr.cell 1
   have hbr2:=hbr.cell 2
   have hbr3:=hbr.cell 3
   have hbr4:=hbr.cell 4
   have hbr5:=hbr.cell 5
   have hbr6:=hbr.cell 6
   have hbr7:=hbr.cell 7
   have hbr8:=hbr.cell 8
   simp only [ζa,ζb,ζc] at hbr0 hbr1 hbr2 hbr3 hbr4 hbr5 hbr6 hbr7 hbr8
   have f0:=hbZ.frozen 0
   have f1:=hbZ.frozen 1
   have f2:=hbZ.frozen 2
   have f3:=hbZ.frozen 3
   have f4:=hbZ.frozen 4
   have f5:=hbZ.frozen 5
   have f6:=hbZ.frozen 6
   have f7:=hbZ.frozen 7
   have f8:=hbZ.frozen 8
   rw [e1] at hlk
   simp only [Option.map_none] at hlk
   clear e1 e2 hw1 hr h h1
   go_wp2_with fail
   (try simp only [Exit.inBlock,Exit.then])
   have hbF:=(((((((((hbr.set 0 (.int .i64 0)).set 1 (.int .i64 0)).set 2 (.int .i64 0)).set 3 (.int .i64 0)).set 4 (.int .i64 0)).set 5 (.int .i64 0)).set 6 (.int .i64 0)).set 7 (.bool false)).set 8 (.bool false))
   simp only [List.setIfInBounds_toArray,List.set_cons_zero,List.set_cons_succ] at hbF
   refine bodyPost_ret (res_cell rfl rfl hbF Tryz.underlying198 rfl (by kernel_rfl)) rfl ⟨rfl,?_⟩
   repeat' (refine Mod.setCell ?_ (.inr hrl) _)
   exact m1
theorem zero_int (w:World):(zeroValue 3).run Tryz.prog w=.ok (.int .i64 0) w:=by kernel_rfl
theorem PagesR.lookF {w:World} {b mp mf ms:Nat} {F:Nat→Prop} {T:PT} {L:List (Int × (Nat × PG))} (h:PagesR w b mp mf ms F T L) (f i:Int) :
 (Instr.lookup 114 (.map (some mf)) (.agg #[.int .i64 f,.int .i64 i]) true).run Tryz.prog w=.ok (.tuple #[.int .i64 ((getA (f,i) T.files).getD 0),.bool (getA (f,i) T.files).isSome]) w:=by
 have:=h.mfl.lookup_ok mkey_api Tryz.underlying114 (zero_int w) (f,i)
 rw [show ekTwo (f,i)=.agg #[.int .i64 f,.int .i64 i] from rfl] at this
 rw [this]
 cases getA (f,i) T.files<;>rfl
theorem PagesR.lookS {w:World} {b mp mf ms:Nat} {F:Nat→Prop} {T:PT} {L:List (Int × (Nat × PG))} (h:PagesR w b mp mf ms F T L) (f i:Int) :
 (Instr.lookup 115 (.map (some ms)) (.agg #[.int .i64 f,.int .i64 i]) true).run Tryz.prog w=.ok (.tuple #[.int .i64 ((getA (f,i) T.spots).getD 0),.bool (getA (f,i) T.spots).isSome]) w:=by
 have:=h.msp.lookup_ok mkey_spot Tryz.underlying115 (zero_int w) (f,i)
 rw [show ekTwo (f,i)=.agg #[.int .i64 f,.int .i64 i] from rfl] at this
 rw [this]
 cases getA (f,i) T.spots<;>rfl
theorem pgof_any (b:Nat) (F:Nat→Prop) (T:PT) (f i:Int) (w:World) (h:PagesAt w b F T) :
 Calls Tryz.prog 187 #[.pointer (some ⟨b,0,none⟩),.agg #[.int .i64 f,.int .i64 i]] w fun e w'=>e=.returned (.int .i64 (ofT T f i))∧Mod (fun _=>False) w w':=by
 obtain ⟨mp,mf,ms,L,h⟩:=h
 unfold ofT
 cases hx:getA (f,i) T.files
 case none =>
  go_enter Tryz.func187,Tryz.ntmps187
  go_upto_region 1 with fail
  obtain ⟨w1,hw1⟩:∃ w1,w1=w.alloc (.cells #[.int .i64 f,.int .i64 i] 190):=⟨_,rfl⟩
  obtain ⟨r,hr⟩:∃ r,r=w.heap.size:=⟨_,rfl⟩
  have hbr:Blk w1 r #[.int .i64 f,.int .i64 i] 190:=by rw [hw1,hr];exact Blk.new w _ _
  have m1:Mod (fun _=>False) w w1:=by rw [hw1];exact Mod.alloc' _ _ _
  rw [←hw1,←hr]
  have h1:=h.keepN m1
  have hlk:=fun n=>(h1.keepN (Mod.drewN' (fun _=>False) w1 n)).lookF f i
  rw [hx] at hlk
  simp only [Option.getD_none,Option.getD_some,Option.isSome_none,Option.isSome_some] at hlk
  obtain ⟨_,c1,_,_⟩:=h1.head
  have hbr0:=hbr.cell 0
  have hbr1:=hbr.cell 1
  simp only [ζa,ζb,ζc] at hbr0 hbr1
  clear hw1 hr h h1 hx
  go_wp2_with fail
  go_quiet (fail)
  go_wp2_with fail
  go_ret
  exact ⟨rfl,m1.drewN _⟩
 case some v =>
  go_enter Tryz.func187,Tryz.ntmps187
  go_upto_region 1 with fail
  obtain ⟨w1,hw1⟩:∃ w1,w1=w.alloc (.cells #[.int .i64 f,.int .i64 i] 190):=⟨_,rfl⟩
  obtain ⟨r,hr⟩:∃ r,r=w.heap.size:=⟨_,rfl⟩
  have hbr:Blk w1 r #[.int .i64 f,.int .i64 i] 190:=by rw [hw1,hr];exact Blk.new w _ _
  have m1:Mod (fun _=>False) w w1:=by rw [hw1];exact Mod.alloc' _ _ _
  rw [←hw1,←hr]
  have h1:=h.keepN m1
  have hlk:=fun n=>(h1.keepN (Mod.drewN' (fun _=>False) w1 n)).lookF f i
  rw [hx] at hlk
  simp only [Option.getD_none,Option.getD_some,Option.isSome_none,Option.isSome_some] at hlk
  obtain ⟨_,c1,_,_⟩:=h1.head
  have hbr0:=hbr.cell 0
  have hbr1:=hbr.cell 1
  simp only [ζa,ζb,ζc] at hbr0 hbr1
  clear hw1 hr h h1 hx
  go_wp2_with fail
  go_quiet (fail)
  go_wp2_with fail
  go_ret
  exact ⟨rfl,m1.drewN _⟩
theorem pgat_any (b:Nat) (F:Nat→Prop) (T:PT) (p a:Int) (w:World) (h:PagesAt w b F T) :
 Calls Tryz.prog 199 #[.pointer (some ⟨b,0,none⟩),.int .i64 p,.int .i64 a] w fun e w'=>e=.returned (.int .i64 (atT T p a))∧w=w':=by
 obtain ⟨mp,mf,ms,L,h⟩:=h
 unfold atT
 have hlk:=h.lookS p a
 obtain ⟨_,_,c2,_⟩:=h.head
 cases hx:getA (p,a) T.spots
 all_goals
  rw [hx] at hlk
  simp only [Option.getD_none,Option.getD_some,Option.isSome_none,Option.isSome_some] at hlk
  clear hx h
  go_enter Tryz.func199,Tryz.ntmps199
  go_wp2_with fail
  go_ret
  exact ⟨rfl,rfl⟩
theorem PagesR.setPage {w w':World} {b mp mf ms:Nat} {F:Nat→Prop} {T:PT} {L:List (Int × (Nat × PG))} {id:Int} {blk:Nat} {p:PG} (f:PG→PG) (h:PagesR w b mp mf ms F T L) (hx:getA id L=some (blk,p)) (hm:Mod (fun x=>x=blk) w w') (hb:Blk w' blk (f p).cells 198) :
 PagesR w' b mp mf ms F { T with pages:=modA id f T.pages } (modA id (fun x=>(x.1,f x.2)) L):=by
 have hb0:=h.blks.1 _ (getA_mem hx)
 exact {
  blk:=h.blk.keep hm (fun e=>h.blk.ne hb0 (by decide) e)
  mpg:=by rw [modA_map_id (fun x:Nat × PG=>x.1) id (fun x=>(x.1,f x.2)) (fun _=>rfl)];exact h.mpg.keep hm (fun e=>h.mpg.ne hb0 e)
  mfl:=h.mfl.keep hm (fun e=>h.mfl.ne hb0 e)
  msp:=h.msp.keep hm (fun e=>h.msp.ne hb0 e)
  eq:=by rw [modA_map (fun x:Nat × PG=>x.2) id (fun x=>(x.1,f x.2)) f (fun _=>rfl),h.eq]
  blks:=h.blks.mod hx hm hb
  ne:=h.ne
  inF:=by
   obtain ⟨h1,h2,h3,h4,h5⟩:=h.inF
   refine ⟨h1,h2,h3,h4,fun e he=>?_⟩
   have:e.2.1∈(modA id (fun x=>(x.1,f x.2)) L).map (fun e=>e.2.1):=List.mem_map.2 ⟨e,he,rfl⟩
   rw [modA_blocks] at this
   obtain ⟨y,hy,e'⟩:=List.mem_map.1 this
   rw [←e']
   exact h5 y hy
  below:=fun x hx=>Nat.lt_of_lt_of_le (h.below x hx) hm.size }
theorem modA_none {κ α:Type} [DecidableEq κ] (k:κ) (f:α→α):∀ l:List (κ × α),getA k l=none→modA k f l=l:=by
 intro l
 induction l with
 | nil=>intro _;rfl
 | cons e l ih =>
   intro h
   simp only [getA] at h
   split at h
   · cases h
   · rename_i hk
     simp only [modA,hk,if_false,ih h]
theorem pgrefer_any (b:Nat) (F:Nat→Prop) (T:PT) (id n:Int) (w:World) (h:PagesAt w b F T) (hn:-1000≤n∧n≤1000) :
 Calls Tryz.prog 129 #[.pointer (some ⟨b,0,none⟩),.int .i64 id,.int .i64 n] w fun e w'=>e=.returned (.tuple #[.int .i64 (referL T id n),.int .i64 (referE T id n)])∧Mod F w w'∧PagesAt w' b F (referT T id n):=by
 obtain ⟨mp,mf,ms,L,h⟩:=h
 unfold referL referE referT
 have hlk:=h.look id
 obtain ⟨c0,_,_,_⟩:=h.head
 have d0:decide (n < -1000)=false:=decide_eq_false (by omega)
 have d1:decide (1000 < n)=false:=decide_eq_false (by omega)
 rcases h.page id with ⟨blk,p,e1,e2,hb,hF⟩ | ⟨e1,e2⟩
 · rw [e1] at hlk
   simp only [e2]
   simp only [Option.map_some] at hlk
   have hset:=fun w'=>h.setPage (w':=w') (fun p=>{ p with refs:=IntKind.i64.wrap (p.refs+n) }) e1
   obtain ⟨y,hy⟩:∃ y,y=IntKind.i64.wrap (p.refs+n):=⟨_,rfl⟩
   rw [←hy]
   have hy':=hy.symm
   unfold PG.cells at hb
   have hset':PagesR (w.setCell ⟨blk,5,none⟩ (.int .i64 y)) b mp mf ms F { T with pages:=modA id (fun p=>{ p with refs:=IntKind.i64.wrap (p.refs+n) }) T.pages } (modA id (fun x=>(x.1,{ x.2 with refs:=IntKind.i64.wrap (x.2.refs+n) })) L):=by
    refine hset _ (mod_setCell _ _ _ _) ?_
    have:=hb.set 5 (.int .i64 y)
    simp only [List.setIfInBounds_toArray,List.set_cons_zero,List.set_cons_succ] at this
    rw [hy] at this ⊢
    exact this
   have hmS:Mod F w (w.setCell ⟨blk,5,none⟩ (.int .i64 y)):=(mod_setCell _ _ _ _).mono (fun x e=>by rw [e];exact hF)
   have hf:=hb.frozen 5
   have cb:=hb.cell 5
   simp only [ζa,ζb,ζc] at cb
   have cc:=(hb.set 5 (.int .i64 y)).cell 5
   simp only [List.setIfInBounds_toArray,List.set_cons_zero,List.set_cons_succ,ζa,ζb,ζc] at cc
   have HS:=ζh (show PagesAt _ b F _ from ⟨mp,mf,ms,_,hset'⟩)
   have HH:=ζh (show PagesAt _ b F _ from ⟨mp,mf,ms,_,h⟩)
   clear hset hset' e1 e2 hy h hb
   by_cases hlt:y < 0
   · have d2:decide (y < 0)=true:=decide_eq_true hlt
     rw [if_pos hlt,if_pos hlt,if_pos hlt]
     go_enter Tryz.func129,Tryz.ntmps129
     go_wp2_with fail
     go_ret2
     exact ⟨rfl,Mod.refl _ _,HH.out⟩
   · have d2:decide (y < 0)=false:=decide_eq_false hlt
     rw [if_neg hlt,if_neg hlt,if_neg hlt]
     go_enter Tryz.func129,Tryz.ntmps129
     go_wp2_with fail
     go_ret2
     exact ⟨rfl,hmS,HS.out⟩
 · rw [e1] at hlk
   simp only [e2]
   simp only [Option.map_none] at hlk
   have HH:=ζh (show PagesAt _ b F _ from ⟨mp,mf,ms,_,h⟩)
   clear e1 e2 h
   go_enter Tryz.func129,Tryz.ntmps129
   go_wp2_with fail
   go_ret2
   exact ⟨rfl,Mod.refl _ _,HH.out⟩
theorem PagesR.mapF {w w':World} {b mp mf ms:Nat} {F:Nat→Prop} {T:PT} {L:List (Int × (Nat × PG))} {G:List ((Int × Int) × Int)} (h:PagesR w b mp mf ms F T L) (hm:Mod (fun x=>x=mf) w w') (hG:MapA ekTwo encI w' mf G) :
 PagesR w' b mp mf ms F { T with files:=G } L where
 blk:=h.blk.keep hm (fun e=>h.mfl.ne h.blk e.symm)
 mpg:=h.mpg.keep hm h.ne.1
 mfl:=hG
 msp:=h.msp.keep hm (fun e=>h.ne.2.2 e.symm)
 eq:=h.eq
 blks:=h.blks.keep hm (fun e he e'=>h.mfl.ne (h.blks.1 e he) e'.symm)
 ne:=h.ne
 inF:=h.inF
 below:=fun x hx=>Nat.lt_of_lt_of_le (h.below x hx) hm.size
theorem PagesR.mapS {w w':World} {b mp mf ms:Nat} {F:Nat→Prop} {T:PT} {L:List (Int × (Nat × PG))} {G:List ((Int × Int) × Int)} (h:PagesR w b mp mf ms F T L) (hm:Mod (fun x=>x=ms) w w') (hG:MapA ekTwo encI w' ms G) :
 PagesR w' b mp mf ms F { T with spots:=G } L where
 blk:=h.blk.keep hm (fun e=>h.msp.ne h.blk e.symm)
 mpg:=h.mpg.keep hm h.ne.2.1
 mfl:=h.mfl.keep hm h.ne.2.2
 msp:=hG
 eq:=h.eq
 blks:=h.blks.keep hm (fun e he e'=>h.msp.ne (h.blks.1 e he) e'.symm)
 ne:=h.ne
 inF:=h.inF
 below:=fun x hx=>Nat.lt_of_lt_of_le (h.below x hx) hm.size
theorem PagesR.mapP {w w':World} {b mp mf ms:Nat} {F:Nat→Prop} {T:PT} {L:List (Int × (Nat × PG))} (id:Int) (h:PagesR w b mp mf ms F T L) (hm:Mod (fun x=>x=mp) w w') (hG:MapA ekInt evP w' mp (dropA id (mapV (·.1) L))) :
 PagesR w' b mp mf ms F { T with pages:=dropA id T.pages } (dropA id L) where
 blk:=h.blk.keep hm (fun e=>h.mpg.ne h.blk e.symm)
 mpg:=by rw [dropA_map];exact hG
 mfl:=h.mfl.keep hm (fun e=>h.ne.1 e.symm)
 msp:=h.msp.keep hm (fun e=>h.ne.2.1 e.symm)
 eq:=by rw [dropA_map,h.eq]
 blks:=(h.blks.drop id).keep hm (fun e he e'=>h.mpg.ne (h.blks.1 e (mem_dropA he)) e'.symm)
 ne:=h.ne
 inF:=by
  obtain ⟨h1,h2,h3,h4,h5⟩:=h.inF
  exact ⟨h1,h2,h3,h4,fun e he=>h5 e (mem_dropA he)⟩
 below:=fun x hx=>Nat.lt_of_lt_of_le (h.below x hx) hm.size
theorem pgdrop_any (b:Nat) (F:Nat→Prop) (T:PT) (id:Int) (w:World) (h:PagesAt w b F T) :
 Calls Tryz.prog 136 #[.pointer (some ⟨b,0,none⟩),.int .i64 id] w fun e w'=>e=.returned (.int .i64 (dropE T id))∧Mod F w w'∧PagesAt w' b F (dropT T id):=by
 obtain ⟨mp,mf,ms,L,h⟩:=h
 unfold dropE dropT
 have hlk:=h.look id
 obtain ⟨c0,c1,_,_⟩:=h.head
 rcases h.page id with ⟨blk,p,e1,e2,hb,hF⟩ | ⟨e1,e2⟩
 · rw [e1] at hlk
   simp only [e2]
   simp only [Option.map_some] at hlk
   unfold PG.cells at hb
   have hb0:=hb.cell 0
   have hb1:=hb.cell 1
   have hb2:=hb.cell 2
   have hb5:=hb.cell 5
   simp only [ζa,ζb,ζc] at hb0 hb1 hb2 hb5
   by_cases hr:0 < p.refs
   · have d0:decide (0 < p.refs)=true:=decide_eq_true hr
     rw [if_pos (.inl hr),if_pos (.inl hr)]
     have HH:=ζh (show PagesAt _ b F _ from ⟨mp,mf,ms,_,h⟩)
     clear e1 e2 h hb
     go_enter Tryz.func136,Tryz.ntmps136
     go_wp2_with fail
     go_ret
     exact ⟨rfl,Mod.refl _ _,HH.out⟩
   have d0:decide (0 < p.refs)=false:=decide_eq_false hr
   by_cases hp:p.place=0
   · have d1:(p.place != 0)=false:=by simp [hp]
     have hno:¬ (0 < p.refs∨p.place≠0):=by omega
     rw [if_neg hno,if_neg hno]
     have hd:=(Mod.refl (fun _=>False) w).drew
     obtain ⟨f,hf⟩:=(h.keepN hd).mfl.deleteF mkey_api Tryz.underlying114 (p.file,p.index)
     have hrun:=fun ty=>(hf ty).1
     simp only [show ekTwo (p.file,p.index)=.agg #[.int .i64 p.file,.int .i64 p.index] from rfl] at hrun
     have h2:=fun ty=>(h.keepN hd).mapF (hf ty).2.2.1 (hf ty).2.1
     have c2:=fun ty=>(h2 ty).head.1
     have HF:=ζh hf
     obtain ⟨g,hg⟩:∃ g:TypeId→TypeId→World,∀ t ty,(Builtin.delete_ #[ 113,3 ] ty #[.map (some mp),ekInt id]).run Tryz.prog (f t)=.ok (.tuple #[]) (g t ty)∧MapA ekInt evP (g t ty) mp (dropA id (mapV (·.1) L))∧Mod (fun i=>i=mp) (f t) (g t ty)∧(g t ty).heap.size=(f t).heap.size :=
      ⟨fun t=>((h2 t).mpg.deleteF key_int Tryz.underlying113 id).choose,fun t=>((h2 t).mpg.deleteF key_int Tryz.underlying113 id).choose_spec⟩
     have hrun2:=fun t ty=>(hg t ty).1
     simp only [show ekInt id=.int .i64 id from rfl] at hrun2
     have HG:=ζh hg
     have H2:=ζh h2
     have hFs:=h.inF
     clear e1 e2 h hb hf hg h2
     go_enter Tryz.func136,Tryz.ntmps136
     go_wp2_with fail
     go_still_tail 8,(by kernel_rfl)
     go_wp2_with fail
     go_ret
     obtain ⟨_,k1,k2,_⟩:=HF.out _
     obtain ⟨_,k3,k4,_⟩:=HG.out _ _
     refine ⟨rfl,?_,mp,mf,ms,_,(H2.out _).mapP id k4 k3⟩
     refine (hd.mono (fun _ x=>x.elim)).trans ((k2.mono ?_).trans (k4.mono ?_))
     · rintro x rfl;exact hFs.2.2.1
     · rintro x rfl;exact hFs.2.1
   · have d1:(p.place != 0)=true:=by rw [bne_iff_ne];exact hp
     rw [if_pos (.inr hp),if_pos (.inr hp)]
     have HH:=ζh (show PagesAt _ b F _ from ⟨mp,mf,ms,_,h⟩)
     clear e1 e2 h hb
     go_enter Tryz.func136,Tryz.ntmps136
     go_wp2_with fail
     go_ret
     exact ⟨rfl,Mod.refl _ _,HH.out⟩
 · rw [e1] at hlk
   simp only [e2]
   simp only [Option.map_none] at hlk
   have HH:=ζh (show PagesAt _ b F _ from ⟨mp,mf,ms,_,h⟩)
   clear e1 e2 h
   go_enter Tryz.func136,Tryz.ntmps136
   go_wp2_with fail
   go_ret
   exact ⟨rfl,Mod.refl _ _,HH.out⟩
theorem pgOwn1_any (blk bx:Nat) (v:Int) (p:PG) (w:World) (hb:Blk w blk p.cells 198) (hx:w.cell? ⟨bx,0,none⟩=some (.int .i64 v)) :
 Calls Tryz.prog 145 #[.pointer (some ⟨blk,0,none⟩),.pointer (some ⟨bx,0,none⟩)] w fun e w'=>e=.returned (.tuple #[])∧Mod (fun x=>x=blk) w w'∧Blk w' blk ({ p with owner:=v }:PG).cells 198:=by
 unfold PG.cells at hb
 have hs:=hb.set 4 (.int .i64 v)
 simp only [List.setIfInBounds_toArray,List.set_cons_zero,List.set_cons_succ] at hs
 have hf:=hb.frozen 4
 have hc:=hb.cell 4
 simp only [ζa,ζb,ζc] at hc
 go_enter Tryz.func145,Tryz.ntmps145
 go_wp2_with fail
 go_end0
 exact ⟨rfl,mod_setCell _ _ _ _,hs⟩
theorem pgOwn_any (b:Nat) (F:Nat→Prop) (T:PT) (id:Int) (v:Int) (w:World) (h:PagesAt w b F T) :
 Calls Tryz.prog 84 #[.pointer (some ⟨b,0,none⟩),.int .i64 id,.int .i64 v] w fun e w'=>(∃ n:Int,e=.returned (.int .i64 n))∧Mod F w w'∧PagesAt w' b F { T with pages:=modA id (fun p=>{ p with owner:=v }) T.pages }:=by
 obtain ⟨mp,mf,ms,L,h0⟩:=h
 have m1:=Mod.alloc' (fun _=>False) w (.cells #[.int .i64 v] 3)
 have hbx:=Blk.new w #[.int .i64 v] 3
 obtain ⟨w1,hw1⟩:∃ w1,w1=w.alloc (.cells #[.int .i64 v] 3):=⟨_,rfl⟩
 obtain ⟨bx,hbxe⟩:∃ bx,bx=w.heap.size:=⟨_,rfl⟩
 rw [←hw1] at m1 hbx
 rw [←hbxe] at hbx
 have h:=h0.keepN m1
 have hcx:=hbx.cell 0
 simp only [ζa,ζb] at hcx
 have hlk:=h.look id
 obtain ⟨c0,_,_,_⟩:=h.head
 have hchg:Calls Tryz.prog 144 #[.pointer (some ⟨b,0,none⟩),.int .i64 id,.func (.func 145) #[] #[.pointer (some ⟨bx,0,none⟩)]] w1 fun e w'=>(∃ n:Int,e=.returned (.int .i64 n))∧Mod F w1 w'∧PagesAt w' b F { T with pages:=modA id (fun p=>{ p with owner:=v }) T.pages }:=by
  rcases h.page id with ⟨blk,p,e1,e2,hb,hF⟩ | ⟨e1,e2⟩
  · rw [e1] at hlk
    simp only [Option.map_some] at hlk
    have hset:=fun w'=>h.setPage (w':=w') (fun p=>{ p with owner:=v }) e1
    have HS:=ζh hset
    have HB:=ζh hb
    clear e1 e2 hset hb hbx hw1 hbxe
    go_enter Tryz.func144,Tryz.ntmps144
    go_wp2_with fail
    refine (pgOwn1_any blk bx v p _ HB.out hcx).mono ?_
    rintro e w2 ⟨rfl,hm2,hb2⟩
    go_wp2_with fail
    go_ret
    exact ⟨⟨_,rfl⟩,hm2.mono (fun x e=>by rw [e];exact hF),mp,mf,ms,_,HS.out _ hm2 hb2⟩
  · rw [e1] at hlk
    simp only [Option.map_none] at hlk
    have HH:PagesAt w1 b F { T with pages:=modA id (fun p=>{ p with owner:=v }) T.pages }:=by
     rw [modA_none _ _ _ e2];exact ⟨mp,mf,ms,_,h⟩
    have HP:=ζh HH
    clear e1 e2 h HH h0 hbx hw1 hbxe
    go_enter Tryz.func144,Tryz.ntmps144
    go_wp2_with fail
    go_ret
    exact ⟨⟨_,rfl⟩,Mod.refl _ _,HP.out⟩
 have HC:=ζh hchg
 clear hchg hlk c0 hbx hcx h
 go_enter Tryz.func84,Tryz.ntmps84
 go_wp2_with fail
 rw [←hw1,←hbxe]
 refine HC.out.mono ?_
 rintro e w2 ⟨⟨n,rfl⟩,hm2,h2⟩
 go_wp2_with fail
 go_ret
 exact ⟨⟨_,rfl⟩,(m1.mono (fun _ x=>x.elim)).trans hm2,h2⟩
theorem pgMark1_any (blk bx:Nat) (v:Bool) (p:PG) (w:World) (hb:Blk w blk p.cells 198) (hx:w.cell? ⟨bx,0,none⟩=some (.bool v)) :
 Calls Tryz.prog 194 #[.pointer (some ⟨blk,0,none⟩),.pointer (some ⟨bx,0,none⟩)] w fun e w'=>e=.returned (.tuple #[])∧Mod (fun x=>x=blk) w w'∧Blk w' blk ({ p with dirty:=v }:PG).cells 198:=by
 unfold PG.cells at hb
 have hs:=hb.set 8 (.bool v)
 simp only [List.setIfInBounds_toArray,List.set_cons_zero,List.set_cons_succ] at hs
 have hf:=hb.frozen 8
 have hc:=hb.cell 8
 simp only [ζa,ζb,ζc] at hc
 go_enter Tryz.func194,Tryz.ntmps194
 go_wp2_with fail
 go_end0
 exact ⟨rfl,mod_setCell _ _ _ _,hs⟩
theorem pgMark_any (b:Nat) (F:Nat→Prop) (T:PT) (id:Int) (v:Bool) (w:World) (h:PagesAt w b F T) :
 Calls Tryz.prog 126 #[.pointer (some ⟨b,0,none⟩),.int .i64 id,.bool v] w fun e w'=>(∃ n:Int,e=.returned (.int .i64 n))∧Mod F w w'∧PagesAt w' b F { T with pages:=modA id (fun p=>{ p with dirty:=v }) T.pages }:=by
 obtain ⟨mp,mf,ms,L,h0⟩:=h
 have m1:=Mod.alloc' (fun _=>False) w (.cells #[.bool v] 4)
 have hbx:=Blk.new w #[.bool v] 4
 obtain ⟨w1,hw1⟩:∃ w1,w1=w.alloc (.cells #[.bool v] 4):=⟨_,rfl⟩
 obtain ⟨bx,hbxe⟩:∃ bx,bx=w.heap.size:=⟨_,rfl⟩
 rw [←hw1] at m1 hbx
 rw [←hbxe] at hbx
 have h:=h0.keepN m1
 have hcx:=hbx.cell 0
 simp only [ζa,ζb] at hcx
 have hlk:=h.look id
 obtain ⟨c0,_,_,_⟩:=h.head
 have hchg:Calls Tryz.prog 144 #[.pointer (some ⟨b,0,none⟩),.int .i64 id,.func (.func 194) #[] #[.pointer (some ⟨bx,0,none⟩)]] w1 fun e w'=>(∃ n:Int,e=.returned (.int .i64 n))∧Mod F w1 w'∧PagesAt w' b F { T with pages:=modA id (fun p=>{ p with dirty:=v }) T.pages }:=by
  rcases h.page id with ⟨blk,p,e1,e2,hb,hF⟩ | ⟨e1,e2⟩
  · rw [e1] at hlk
    simp only [Option.map_some] at hlk
    have hset:=fun w'=>h.setPage (w':=w') (fun p=>{ p with dirty:=v }) e1
    have HS:=ζh hset
    have HB:=ζh hb
    clear e1 e2 hset hb hbx hw1 hbxe
    go_enter Tryz.func144,Tryz.ntmps144
    go_wp2_with fail
    refine (pgMark1_any blk bx v p _ HB.out hcx).mono ?_
    rintro e w2 ⟨rfl,hm2,hb2⟩
    go_wp2_with fail
    go_ret
    exact ⟨⟨_,rfl⟩,hm2.mono (fun x e=>by rw [e];exact hF),mp,mf,ms,_,HS.out _ hm2 hb2⟩
  · rw [e1] at hlk
    simp only [Option.map_none] at hlk
    have HH:PagesAt w1 b F { T with pages:=modA id (fun p=>{ p with dirty:=v }) T.pages }:=by
     rw [modA_none _ _ _ e2];exact ⟨mp,mf,ms,_,h⟩
    have HP:=ζh HH
    clear e1 e2 h HH h0 hbx hw1 hbxe
    go_enter Tryz.func144,Tryz.ntmps144
    go_wp2_with fail
    go_ret
    exact ⟨⟨_,rfl⟩,Mod.refl _ _,HP.out⟩
 have HC:=ζh hchg
 clear hchg hlk c0 hbx hcx h
 go_enter Tryz.func126,Tryz.ntmps126
 go_wp2_with fail
 rw [←hw1,←hbxe]
 refine HC.out.mono ?_
 rintro e w2 ⟨⟨n,rfl⟩,hm2,h2⟩
 go_wp2_with fail
 go_ret
 exact ⟨⟨_,rfl⟩,(m1.mono (fun _ x=>x.elim)).trans hm2,h2⟩
end Pag
end Go.Proofs.YtkfoeonggmlebaaGreatDoor
