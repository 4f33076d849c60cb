/-
  Contracts of the program's functions, and plain facts, towards the laws of millpondtop. No condition beyond those that each theorem bears.
-/
import Derived.Test.YtkfoeonggmlebaaGreatDoorQ20
import Derived.Test.YtkfoeonggmlebaaGreatDoorQAA
set_option maxRecDepth 100000
set_option maxHeartbeats 4000000
namespace Go.Proofs.YtkfoeonggmlebaaGreatDoor
section
open Go.RowKit
variable {w0 w:World} {F0:Nat→Prop} {K:CK} {c:CoM} {ls:List Part}
theorem c_getB (a i:Int) (st:Step w0 F0 (coreP K c::ls) w) :
 Calls Tryz.prog 117 #[.pointer (some ⟨K.fs,0,none⟩),.int .i64 a,.int .i64 i] w fun e w'=>e=.returned (.tuple #[.int .u8 (Byt.byteAt c.fr.bytes a i),.int .i64 (Byt.byteE c.fr.bytes a i)])∧w=w':=by
 obtain ⟨F1,⟨g,h,rfl⟩,_⟩:=corePart 3 st rfl
 exact Byt.byget_any _ _ _ a i w h
theorem c_putB (a i x:Int) (hx:0≤x∧x < 256) (st:Step w0 F0 (coreP K c::ls) w) :
 Calls Tryz.prog 125 #[.pointer (some ⟨K.fs,0,none⟩),.int .i64 a,.int .i64 i,.int .u8 x] w fun e w'=>e=.returned (.int .i64 (Byt.byteE c.fr.bytes a i))∧Step w0 F0 (coreP K { c with fr:={ c.fr with bytes:=Byt.putByte c.fr.bytes a i x } }::ls) w':=by
 obtain ⟨F1,⟨g,h,rfl⟩,_,_,_,hup⟩:=corePart 3 st rfl
 refine (Byt.byput_any _ _ _ a i x w h hx).mono ?_
 rintro e w' ⟨he,hm,h'⟩
 exact ⟨he,hup w' (bytesP K.fs _) _ _ (hm.mono (fun x e=>.inr e)) ⟨g,h',rfl⟩ (fun x hx=>.inl hx) rfl (let i:=coreInv st;⟨i.good,i.gl,i.ul,i.own,i.ids,i.sh⟩)⟩
theorem c_readL (f i:Int) (st:Step w0 F0 (coreP K c::ls) w) :
 Calls Tryz.prog 186 #[.pointer (some ⟨K.fl,0,none⟩),.agg #[.int .i64 f,.int .i64 i]] w fun e w'=>e=.returned (.tuple #[.string (strOf (Fil.readU c.files f i)),.int .i64 (if Fil.hasU c.files f i then 0 else 2)])∧Step w0 F0 (coreP K c::ls) w':=by
 obtain ⟨F1,h,_⟩:=corePart 8 st rfl
 refine (Fil.fread_any _ _ _ f i w h).mono ?_
 rintro e w' ⟨he,hm⟩
 exact ⟨he,st.still hm⟩
theorem c_readN (f i:Int) (st:Step w0 F0 (coreP K c::ls) w) :
 Calls Tryz.prog 186 #[.pointer (some ⟨K.fl,0,none⟩),.agg #[.int .i64 f,.int .i64 i]] w fun e w'=>(∃ n:Int,e=.returned (.tuple #[.string (strOf (Fil.readU c.files f i)),.int .i64 n]))∧Step w0 F0 (coreP K c::ls) w' :=
 (c_readL f i st).mono fun _ _ ⟨h1,h2⟩=>⟨⟨_,h1⟩,h2⟩
theorem c_writeL (f i:Int) (t:List Int) (ht:∀ n∈t,0≤n∧n < 256) (st:Step w0 F0 (coreP K c::ls) w) :
 Calls Tryz.prog 196 #[.pointer (some ⟨K.fl,0,none⟩),.agg #[.int .i64 f,.int .i64 i],.string (strOf t)] w fun e w'=>(∃ n:Int,e=.returned (.int .i64 n))∧Step w0 F0 (coreP K { c with files:=Fil.writeU c.files f i t }::ls) w':=by
 obtain ⟨F1,h,_,_,_,hup⟩:=corePart 8 st rfl
 refine (Fil.fwrite_any _ _ _ f i t w h ht).mono ?_
 rintro e w' ⟨he,hm,h'⟩
 exact ⟨he,hup w' (filP K.fl _) _ _ hm h' (fun x hx=>.inl hx) rfl (let i:=coreInv st;⟨i.good,i.gl,i.ul,i.own,i.ids,i.sh⟩)⟩
theorem c_gadd (id g:Int) (old:Bool) (st:Step w0 F0 (coreP K c::ls) w) :
 Calls Tryz.prog 259 #[.pointer (some ⟨K.gb,0,none⟩),.int .i64 id,.int .i64 g,.bool old] w fun e w'=>(∃ n:Int,e=.returned (.int .i64 n))∧Step w0 F0 (coreP K { c with gens:=Gen.addGU id g old c.gens }::ls) w':=by
 obtain ⟨F1,⟨mb,h,rfl⟩,_,_,_,hup⟩:=corePart 9 st rfl
 refine (Gen.gaddU_any _ _ _ id g old w h).mono ?_
 rintro e w' ⟨he,hm,h'⟩
 exact ⟨he,hup w' (gensP K.gb _) _ _ (hm.mono (fun x e=>.inr e)) ⟨mb,h',rfl⟩ (fun x hx=>.inl hx) rfl (let i:=coreInv st;⟨i.good,i.gl,i.ul,i.own,IdsOk.add i.ids id g old,i.sh⟩)⟩
theorem c_gdrop (id:Int) (st:Step w0 F0 (coreP K c::ls) w) :
 Calls Tryz.prog 134 #[.pointer (some ⟨K.gb,0,none⟩),.int .i64 id] w fun e w'=>(∃ n:Int,e=.returned (.int .i64 n))∧Step w0 F0 (coreP K { c with gens:=dropA id c.gens }::ls) w':=by
 obtain ⟨F1,⟨mb,h,rfl⟩,_,_,_,hup⟩:=corePart 9 st rfl
 refine (Gen.gdrop_any _ _ _ id w h).mono ?_
 rintro e w' ⟨he,hm,h'⟩
 exact ⟨he,hup w' (gensP K.gb _) _ _ (hm.mono (fun x e=>.inr e)) ⟨mb,h',rfl⟩ (fun x hx=>.inl hx) rfl (let i:=coreInv st;⟨i.good,i.gl,i.ul,i.own,IdsOk.drop i.ids id,i.sh⟩)⟩
theorem c_gtouch (id:Int) (st:Step w0 F0 (coreP K c::ls) w) :
 Calls Tryz.prog 118 #[.pointer (some ⟨K.gb,0,none⟩),.int .i64 id] w fun e w'=>(∃ n:Int,e=.returned (.int .i64 n))∧Step w0 F0 (coreP K { c with gens:=Gen.touchG id c.gens }::ls) w':=by
 obtain ⟨F1,⟨mb,h,rfl⟩,_,_,_,hup⟩:=corePart 9 st rfl
 refine (Gen.gtouch_any _ _ _ id w h).mono ?_
 rintro e w' ⟨he,hm,h'⟩
 exact ⟨he,hup w' (gensP K.gb _) _ _ (hm.mono (fun x e=>.inr e)) ⟨mb,h',rfl⟩ (fun x hx=>.inl hx) rfl (let i:=coreInv st;⟨i.good,i.gl,i.ul,i.own,IdsOk.touch i.ids id,i.sh⟩)⟩
theorem c_order (gs:List Int) (v:Value) (n:Nat) (hN:c.gens.length≤1000000) (st:Step w0 F0 (coreP K c::ls) w) (hv:rowP 3 1 v n (gs.map encI)∈ls) (hn:n=gs.length) :
 Calls Tryz.prog 165 #[.pointer (some ⟨K.gb,0,none⟩),v] w fun e w'=>∃ u,e=.returned u∧Step w0 F0 (coreP K c::rowP 3 1 u (Gen.orderG c.gens gs).length ((Gen.orderG c.gens gs).map encI)::ls) w':=by
 subst hn
 obtain ⟨F1,⟨mb,h,rfl⟩,_,_,hap,_⟩:=corePart 9 st rfl
 obtain ⟨FB,⟨hr,rfl⟩,_⟩:=hap _ hv
 refine (Gen.order_any _ _ _ gs v w h ⟨(coreInv st).ids,hN⟩ (ints_of_row (hr:w.ownsRow 0 _ _ _ _ _))).mono ?_
 rintro e w' ⟨u,rfl,hm,hu⟩
 exact ⟨u,rfl,st.row hm hu⟩
theorem c_went (g:Int) (st:Step w0 F0 (coreP K c::ls) w) :
 Calls Tryz.prog 224 #[.pointer (some ⟨K.lb,0,none⟩),.int .i64 g] w fun e w'=>e=.returned (evK (wentO c.log g))∧Step w0 F0 (coreP K { c with log:=Sha.wentL c.log g }::ls) w':=by
 obtain ⟨F1,⟨h,rfl⟩,_,_,_,hup⟩:=corePart 10 st rfl
 have:=Sha.went_any _ _ g w h
 rw [wentO_eq] at this
 refine this.mono ?_
 rintro e w' ⟨he,hm,h'⟩
 exact ⟨he,hup w' (logP K.lb _) _ _ hm ⟨h',rfl⟩ (fun x hx=>.inl hx) rfl (let i:=coreInv st;⟨i.good,i.gl,i.ul,i.own,i.ids,i.sh⟩)⟩
theorem c_came (o:Option (Nat × Nat)) (ho:Sha.ShOk o) (to r:Int) (st:Step w0 F0 (coreP K c::ls) w) :
 Calls Tryz.prog 229 #[.pointer (some ⟨K.lb,0,none⟩),evK o,.int .i64 to,.int .i64 r] w fun e w'=>e=.returned (.bool (Sha.cameB c.log o r))∧Step w0 F0 (coreP K { c with log:=Sha.cameL c.log o to r }::ls) w':=by
 obtain ⟨F1,⟨h,rfl⟩,_,_,_,hup⟩:=corePart 10 st rfl
 refine (Sha.came_any _ _ o to r w h ho).mono ?_
 rintro e w' ⟨he,hm,h'⟩
 exact ⟨he,hup w' (logP K.lb _) _ _ hm ⟨h',rfl⟩ (fun x hx=>.inl hx) rfl (let i:=coreInv st;⟨i.good,i.gl,i.ul,i.own,i.ids,i.sh⟩)⟩
theorem c_page (id:Int) (st:Step w0 F0 (coreP K c::ls) w) :
 Calls Tryz.prog 130 #[.pointer (some ⟨K.pb,0,none⟩),.int .i64 id] w fun e w'=>e=.returned (.tuple #[(c.page id).val,.int .i64 (Pag.pageE c.pages id)])∧Step w0 F0 (coreP K c::ls) w':=by
 obtain ⟨F1,h,_⟩:=corePart 11 st rfl
 refine (Pag.pgget_any _ _ _ id w h).mono ?_
 rintro e w' ⟨he,hm⟩
 exact ⟨he,st.still hm⟩
theorem c_pof (f i:Int) (st:Step w0 F0 (coreP K c::ls) w) :
 Calls Tryz.prog 187 #[.pointer (some ⟨K.pb,0,none⟩),.agg #[.int .i64 f,.int .i64 i]] w fun e w'=>e=.returned (.int .i64 (Pag.ofT c.pages f i))∧Step w0 F0 (coreP K c::ls) w':=by
 obtain ⟨F1,h,_⟩:=corePart 11 st rfl
 refine (Pag.pgof_any _ _ _ f i w h).mono ?_
 rintro e w' ⟨he,hm⟩
 exact ⟨he,st.still hm⟩
theorem c_pmake (f i g:Int) (hf:f < 0∨Pag.ofT c.pages f i < 0) (hg:0≤g∧g < c.tree.length) (st:Step w0 F0 (coreP K c::ls) w) :
 Calls Tryz.prog 188 #[.pointer (some ⟨K.pb,0,none⟩),.agg #[.int .i64 f,.int .i64 i],.int .i64 g] w fun e w'=>e=.returned (.tuple #[.int .i64 c.pages.next,.int .i64 0])∧Step w0 F0 (coreP K { c with pages:=Pag.makeT c.pages f i g }::ls) w':=by
 obtain ⟨F1,h,_,_,_,hup⟩:=corePart 11 st rfl
 refine (Pag.pgmake_any _ _ _ f i g w h hf).mono ?_
 rintro e w' ⟨he,hm,blk,hb,h'⟩
 exact ⟨he,hup w' (pagesP K.pb _) _ _ hm h' (fun x hx=>hx.imp (fun h=>h) (fun e=>by rw [e];exact hb)) rfl (let i:=coreInv st;⟨i.good,i.gl,i.ul,OwnOk.make i.own f _ hg,i.ids,i.sh⟩)⟩
theorem c_pput (id place a:Int) (hp:0≤place∧place≤2) (ha:0≤a) (hpa:place=0→a=0) (st:Step w0 F0 (coreP K c::ls) w) :
 Calls Tryz.prog 135 #[.pointer (some ⟨K.pb,0,none⟩),.int .i64 id,.int .i64 place,.int .i64 a] w fun e w'=>(∃ n:Int,e=.returned (.int .i64 n))∧Step w0 F0 (coreP K { c with pages:=Pag.putT c.pages id place a }::ls) w':=by
 obtain ⟨F1,h,_,_,_,hup⟩:=corePart 11 st rfl
 refine (Pag.pgput_any _ _ _ id place a w h hp ha hpa).mono ?_
 rintro e w' ⟨he,hm,h'⟩
 exact ⟨he,hup w' (pagesP K.pb _) _ _ hm h' (fun x hx=>.inl hx) rfl (let i:=coreInv st;⟨i.good,i.gl,i.ul,OwnOk.put i.own id place a,i.ids,i.sh⟩)⟩
theorem c_prefer (id n:Int) (hn:-1000≤n∧n≤1000) (st:Step w0 F0 (coreP K c::ls) w) :
 Calls Tryz.prog 129 #[.pointer (some ⟨K.pb,0,none⟩),.int .i64 id,.int .i64 n] w fun e w'=>e=.returned (.tuple #[.int .i64 (Pag.referL c.pages id n),.int .i64 (Pag.referE c.pages id n)])∧Step w0 F0 (coreP K { c with pages:=Pag.referT c.pages id n }::ls) w':=by
 obtain ⟨F1,h,_,_,_,hup⟩:=corePart 11 st rfl
 refine (Pag.pgrefer_any _ _ _ id n w h hn).mono ?_
 rintro e w' ⟨he,hm,h'⟩
 exact ⟨he,hup w' (pagesP K.pb _) _ _ hm h' (fun x hx=>.inl hx) rfl (let i:=coreInv st;⟨i.good,i.gl,i.ul,OwnOk.refer i.own id n,i.ids,i.sh⟩)⟩
theorem c_pdrop (id:Int) (st:Step w0 F0 (coreP K c::ls) w) :
 Calls Tryz.prog 136 #[.pointer (some ⟨K.pb,0,none⟩),.int .i64 id] w fun e w'=>e=.returned (.int .i64 (Pag.dropE c.pages id))∧Step w0 F0 (coreP K { c with pages:=Pag.dropT c.pages id }::ls) w':=by
 obtain ⟨F1,h,_,_,_,hup⟩:=corePart 11 st rfl
 refine (Pag.pgdrop_any _ _ _ id w h).mono ?_
 rintro e w' ⟨he,hm,h'⟩
 exact ⟨he,hup w' (pagesP K.pb _) _ _ hm h' (fun x hx=>.inl hx) rfl (let i:=coreInv st;⟨i.good,i.gl,i.ul,OwnOk.drop i.own id,i.ids,i.sh⟩)⟩
theorem c_pown (id g:Int) (hg:0≤g∧g < c.tree.length) (st:Step w0 F0 (coreP K c::ls) w) :
 Calls Tryz.prog 84 #[.pointer (some ⟨K.pb,0,none⟩),.int .i64 id,.int .i64 g] w fun e w'=>(∃ n:Int,e=.returned (.int .i64 n))∧Step w0 F0 (coreP K { c with pages:=Pag.ownT c.pages id g }::ls) w':=by
 obtain ⟨F1,h,_,_,_,hup⟩:=corePart 11 st rfl
 refine (Pag.pgOwn_any _ _ _ id g w h).mono ?_
 rintro e w' ⟨he,hm,h'⟩
 exact ⟨he,hup w' (pagesP K.pb _) _ _ hm h' (fun x hx=>.inl hx) rfl (let i:=coreInv st;⟨i.good,i.gl,i.ul,OwnOk.own i.own id hg,i.ids,i.sh⟩)⟩
theorem c_pmark (id:Int) (d:Bool) (st:Step w0 F0 (coreP K c::ls) w) :
 Calls Tryz.prog 126 #[.pointer (some ⟨K.pb,0,none⟩),.int .i64 id,.bool d] w fun e w'=>(∃ n:Int,e=.returned (.int .i64 n))∧Step w0 F0 (coreP K { c with pages:=Pag.markT c.pages id d }::ls) w':=by
 obtain ⟨F1,h,_,_,_,hup⟩:=corePart 11 st rfl
 refine (Pag.pgMark_any _ _ _ id d w h).mono ?_
 rintro e w' ⟨he,hm,h'⟩
 exact ⟨he,hup w' (pagesP K.pb _) _ _ hm h' (fun x hx=>.inl hx) rfl (let i:=coreInv st;⟨i.good,i.gl,i.ul,OwnOk.mark i.own id d,i.ids,i.sh⟩)⟩
theorem c_klook (id:Int) (st:Step w0 F0 (coreP K c::ls) w) :
 (Instr.lookup 86 (.map (some K.km)) (.int .i64 id) false).run Tryz.prog w=.ok (evK ((getA id c.kept).getD none)) w:=by
 obtain ⟨F1,⟨h,rfl⟩,_⟩:=corePart 12 st rfl
 have hz:(zeroValue 181).run Tryz.prog w=.ok (.int .u64 0) w:=by kernel_rfl
 have:=h.lookup_one key_int Tryz.underlying86 hz id
 rw [show ekInt id=.int .i64 id from rfl] at this
 rw [this]
 cases getA id c.kept<;>rfl
theorem c_kput (id:Int) (o:Option (Nat × Nat)) (ho:Sha.ShOk o) (st:Step w0 F0 (coreP K c::ls) w) :
 ∃ w',(Instr.mapUpdate 86 (.map (some K.km)) (.int .i64 id) (evK o)).run Tryz.prog w=.ok () w'∧Step w0 F0 (coreP K { c with kept:=putA id o c.kept }::ls) w'∧Mod (fun i=>i=K.km) w w':=by
 obtain ⟨F1,⟨h,rfl⟩,_,_,_,hup⟩:=corePart 12 st rfl
 obtain ⟨w',h1,h2,h3,h4⟩:=h.update key_int Tryz.underlying86 id o
 exact ⟨w',h1,hup w' (mapP ekInt evK K.km _) _ _ h3 ⟨h2,rfl⟩ (fun x hx=>.inl hx) rfl (let i:=coreInv st;⟨i.good,i.gl,i.ul,i.own,i.ids,ShAll.put i.sh id ho⟩),h3⟩
theorem core_h0 (st:Step w0 F0 (coreP K c::ls) w):w.cell? ⟨K.b,0,none⟩=some (.pointer (some ⟨K.tb,0,none⟩)):=(coreHead st).cell 0
theorem core_h1 (st:Step w0 F0 (coreP K c::ls) w):w.cell? ⟨K.b,1,none⟩=some (.pointer (some ⟨K.fp,0,none⟩)):=(coreHead st).cell 1
theorem core_h2 (st:Step w0 F0 (coreP K c::ls) w):w.cell? ⟨K.b,2,none⟩=some (.pointer (some ⟨K.fs,0,none⟩)):=(coreHead st).cell 2
theorem core_h3 (st:Step w0 F0 (coreP K c::ls) w):w.cell? ⟨K.b,3,none⟩=some (.pointer (some ⟨K.fu,0,none⟩)):=(coreHead st).cell 3
theorem core_h4 (st:Step w0 F0 (coreP K c::ls) w):w.cell? ⟨K.b,4,none⟩=some (.pointer (some ⟨K.sp,0,none⟩)):=(coreHead st).cell 4
theorem core_h5 (st:Step w0 F0 (coreP K c::ls) w):w.cell? ⟨K.b,5,none⟩=some (.pointer (some ⟨K.ss,0,none⟩)):=(coreHead st).cell 5
theorem core_h6 (st:Step w0 F0 (coreP K c::ls) w):w.cell? ⟨K.b,6,none⟩=some (.pointer (some ⟨K.su,0,none⟩)):=(coreHead st).cell 6
theorem core_h7 (st:Step w0 F0 (coreP K c::ls) w):w.cell? ⟨K.b,7,none⟩=some (.pointer (some ⟨K.fl,0,none⟩)):=(coreHead st).cell 7
theorem core_h8 (st:Step w0 F0 (coreP K c::ls) w):w.cell? ⟨K.b,8,none⟩=some (.pointer (some ⟨K.gb,0,none⟩)):=(coreHead st).cell 8
theorem core_h9 (st:Step w0 F0 (coreP K c::ls) w):w.cell? ⟨K.b,9,none⟩=some (.pointer (some ⟨K.lb,0,none⟩)):=(coreHead st).cell 9
theorem core_h10 (st:Step w0 F0 (coreP K c::ls) w):w.cell? ⟨K.b,10,none⟩=some (.pointer (some ⟨K.pb,0,none⟩)):=(coreHead st).cell 10
theorem core_h11 (st:Step w0 F0 (coreP K c::ls) w):w.cell? ⟨K.b,11,none⟩=some (.map (some K.km)):=(coreHead st).cell 11
theorem core_h12 (st:Step w0 F0 (coreP K c::ls) w):w.cell? ⟨K.b,12,none⟩=some (K.gv):=(coreHead st).cell 12
theorem core_h13 (st:Step w0 F0 (coreP K c::ls) w):w.cell? ⟨K.b,13,none⟩=some (K.uv):=(coreHead st).cell 13
end

section
open Go.RowKit
variable {w0 w:World} {F0:Nat→Prop} {K:CK} {c:CoM} {ls:List Part}
theorem core_giveF (a:Int) (ch:List Int) (v:Value) (n:Nat) (st:Step w0 F0 (coreP K c::ls) w) (hv:rowP 3 1 v n (ch.map encI)∈ls) (hn:n=ch.length) :
 Calls Tryz.prog 133 #[.agg #[.pointer (some ⟨K.fp,0,none⟩),.pointer (some ⟨K.fs,0,none⟩),.pointer (some ⟨K.fu,0,none⟩)],.int .i64 a,v] w fun e w'=>e=.returned (.tuple #[])∧Step w0 F0 (coreP K { c with fr:=CoM.giveSt c.fr a ch }::ls) w':=by
 have HV:=ζh hv
 have HN:=ζh hn
 have ST:=ζh (st.local (cs:=#[.pointer (some ⟨K.fp,0,none⟩),.pointer (some ⟨K.fs,0,none⟩),.pointer (some ⟨K.fu,0,none⟩)]) (T:=76))
 clear hv hn st
 go_enter Tryz.func133,Tryz.ntmps133
 go_wp2_with fail
 refine (c_clearF a ST.out).mono ?_
 rintro e w1 ⟨⟨_,rfl⟩,st1⟩
 have hb1:=st1.blk1
 have hb10:=hb1.cell 0
 have hb11:=hb1.cell 1
 have hb12:=hb1.cell 2
 simp only [ζa,ζb,ζc] at hb10 hb11 hb12
 have ST1:=ζh st1
 clear st1
 go_wp2_with fail
 refine (c_backF a ST1.out).mono ?_
 rintro e w2 ⟨⟨_,rfl⟩,st2⟩
 have hb2:=st2.blk1
 have hb20:=hb2.cell 0
 have hb21:=hb2.cell 1
 have hb22:=hb2.cell 2
 simp only [ζa,ζb,ζc] at hb20 hb21 hb22
 have ST2:=ζh st2
 clear st2
 go_wp2_with fail
 refine (c_giveUF ch 1 v n ST2.out (List.mem_cons_of_mem _ HV.out) HN.out).mono ?_
 rintro e w3 ⟨⟨_,rfl⟩,st3⟩
 go_wp2_with fail
 go_end0
 exact ⟨rfl,st3.drop2⟩
theorem core_giveS (a:Int) (ch:List Int) (v:Value) (n:Nat) (st:Step w0 F0 (coreP K c::ls) w) (hv:rowP 3 1 v n (ch.map encI)∈ls) (hn:n=ch.length) :
 Calls Tryz.prog 133 #[.agg #[.pointer (some ⟨K.sp,0,none⟩),.pointer (some ⟨K.ss,0,none⟩),.pointer (some ⟨K.su,0,none⟩)],.int .i64 a,v] w fun e w'=>e=.returned (.tuple #[])∧Step w0 F0 (coreP K { c with sl:=CoM.giveSt c.sl a ch }::ls) w':=by
 have HV:=ζh hv
 have HN:=ζh hn
 have ST:=ζh (st.local (cs:=#[.pointer (some ⟨K.sp,0,none⟩),.pointer (some ⟨K.ss,0,none⟩),.pointer (some ⟨K.su,0,none⟩)]) (T:=76))
 clear hv hn st
 go_enter Tryz.func133,Tryz.ntmps133
 go_wp2_with fail
 refine (c_clearS a ST.out).mono ?_
 rintro e w1 ⟨⟨_,rfl⟩,st1⟩
 have hb1:=st1.blk1
 have hb10:=hb1.cell 0
 have hb11:=hb1.cell 1
 have hb12:=hb1.cell 2
 simp only [ζa,ζb,ζc] at hb10 hb11 hb12
 have ST1:=ζh st1
 clear st1
 go_wp2_with fail
 refine (c_backS a ST1.out).mono ?_
 rintro e w2 ⟨⟨_,rfl⟩,st2⟩
 have hb2:=st2.blk1
 have hb20:=hb2.cell 0
 have hb21:=hb2.cell 1
 have hb22:=hb2.cell 2
 simp only [ζa,ζb,ζc] at hb20 hb21 hb22
 have ST2:=ζh st2
 clear st2
 go_wp2_with fail
 refine (c_giveUS ch 1 v n ST2.out (List.mem_cons_of_mem _ HV.out) HN.out).mono ?_
 rintro e w3 ⟨⟨_,rfl⟩,st3⟩
 go_wp2_with fail
 go_end0
 exact ⟨rfl,st3.drop2⟩
theorem core_text (p:Pag.PG) (st:Step w0 F0 (coreP K c::ls) w) :
 Calls Tryz.prog 193 #[.pointer (some ⟨K.b,0,none⟩),p.val] w fun e w'=>e=.returned (.string (strOf (c.text p)))∧Step w0 F0 (coreP K c::ls) w':=by
 obtain ⟨t,ht⟩:∃ t,t=c.text p:=⟨_,rfl⟩
 rw [←ht]
 unfold CoM.text at ht
 have HT:=ζh ht
 have ST:=ζh st
 unfold Pag.PG.val Pag.PG.cells
 clear ht st
 rcases Classical.em (p.place=1) with h1 | h1
 · have d1:(p.place==1)=true:=by rw [beq_iff_eq];exact h1
   have e1:t=Byt.textL c.fr.bytes p.at_:=by rw [HT.out,if_pos h1]
   have HE:=ζh e1
   clear h1 e1
   go_enter Tryz.func193,Tryz.ntmps193
   go_upto_region 5 with fail
   obtain ⟨w1,hnw1⟩:∃ w1,w1=w.alloc (.cells #[.int .i64 p.file,.int .i64 p.index,.int .i64 p.place,.int .i64 p.at_,.int .i64 p.owner,.int .i64 p.refs,.int .i64 0,.bool false,.bool p.dirty] 198):=⟨_,rfl⟩
   have stw1:=(ST.out).local (cs:=#[.int .i64 p.file,.int .i64 p.index,.int .i64 p.place,.int .i64 p.at_,.int .i64 p.owner,.int .i64 p.refs,.int .i64 0,.bool false,.bool p.dirty]) (T:=198)
   rw [←hnw1] at stw1 ⊢
   clear hnw1
   have hb:=stw1.blk1
   have hb3:=hb.cell 3
   simp only [ζa,ζb,ζc] at hb3
   have hkstw1:=coreHead stw1
   unfold CK.cells at hkstw1
   have hkstw12:=hkstw1.cell 2
   simp only [ζa,ζb,ζc] at hkstw12
   clear hkstw1
   have hcl:=c_readF p.at_ stw1.drew
   rw [←HE.out] at hcl
   clear hb stw1
   go_region_held3 (fun w'=>w'.cell? ⟨K.b,2,none⟩=some (.pointer (some ⟨K.fs,0,none⟩))∧w'.cell? ⟨w.heap.size,3,none⟩=some (.int .i64 p.at_)) (first | exact ⟨hkstw12,hb3⟩ | exact ⟨q1,q13⟩) (first | (go_at_call 236;refine hcl.mono ?_;rintro e w2 ⟨⟨k,rfl⟩,st2⟩;have hb2:=st2.blk1;have q13:=hb2.cell 3;have hk2:=coreHead st2;have q1:=hk2.cell 2;clear hb2 hk2))
   go_wp2_with fail
   go_ret
   exact ⟨rfl,st2.drop2⟩
 · have d1:(p.place==1)=false:=by rw [beq_eq_false_iff_ne];exact h1
   rcases Classical.em (p.place=2) with h2 | h2
   · have d2:(p.place==2)=true:=by rw [beq_iff_eq];exact h2
     have e1:t=Byt.textL c.sl.bytes p.at_:=by rw [HT.out,if_neg h1,if_pos h2]
     have HE:=ζh e1
     clear h1 e1 h2
     go_enter Tryz.func193,Tryz.ntmps193
     go_upto_region 7 with fail
     obtain ⟨w1,hnw1⟩:∃ w1,w1=w.alloc (.cells #[.int .i64 p.file,.int .i64 p.index,.int .i64 p.place,.int .i64 p.at_,.int .i64 p.owner,.int .i64 p.refs,.int .i64 0,.bool false,.bool p.dirty] 198):=⟨_,rfl⟩
     have stw1:=(ST.out).local (cs:=#[.int .i64 p.file,.int .i64 p.index,.int .i64 p.place,.int .i64 p.at_,.int .i64 p.owner,.int .i64 p.refs,.int .i64 0,.bool false,.bool p.dirty]) (T:=198)
     rw [←hnw1] at stw1 ⊢
     clear hnw1
     have hb:=stw1.blk1
     have hb3:=hb.cell 3
     simp only [ζa,ζb,ζc] at hb3
     have hkstw1:=coreHead stw1
     unfold CK.cells at hkstw1
     have hkstw15:=hkstw1.cell 5
     simp only [ζa,ζb,ζc] at hkstw15
     clear hkstw1
     have hcl:=c_readS p.at_ stw1.drew
     rw [←HE.out] at hcl
     clear hb stw1
     go_region_held3 (fun w'=>w'.cell? ⟨K.b,5,none⟩=some (.pointer (some ⟨K.ss,0,none⟩))∧w'.cell? ⟨w.heap.size,3,none⟩=some (.int .i64 p.at_)) (first | exact ⟨hkstw15,hb3⟩ | exact ⟨q1,q13⟩) (first | (go_at_call 236;refine hcl.mono ?_;rintro e w2 ⟨⟨k,rfl⟩,st2⟩;have hb2:=st2.blk1;have q13:=hb2.cell 3;have hk2:=coreHead st2;have q1:=hk2.cell 5;clear hb2 hk2))
     go_wp2_with fail
     go_ret
     exact ⟨rfl,st2.drop2⟩
   · have d2:(p.place==2)=false:=by rw [beq_eq_false_iff_ne];exact h2
     have e1:t=Fil.readU c.files p.file p.index:=by rw [HT.out,if_neg h1,if_neg h2]
     have HE:=ζh e1
     clear h1 e1 h2
     go_enter Tryz.func193,Tryz.ntmps193
     go_upto_region 3 with fail
     obtain ⟨w1,hnw1⟩:∃ w1,w1=w.alloc (.cells #[.int .i64 p.file,.int .i64 p.index,.int .i64 p.place,.int .i64 p.at_,.int .i64 p.owner,.int .i64 p.refs,.int .i64 0,.bool false,.bool p.dirty] 198):=⟨_,rfl⟩
     have stw1:=(ST.out).local (cs:=#[.int .i64 p.file,.int .i64 p.index,.int .i64 p.place,.int .i64 p.at_,.int .i64 p.owner,.int .i64 p.refs,.int .i64 0,.bool false,.bool p.dirty]) (T:=198)
     rw [←hnw1] at stw1 ⊢
     clear hnw1
     have hb:=stw1.blk1
     have hb0:=hb.cell 0
     have hb1:=hb.cell 1
     simp only [ζa,ζb,ζc] at hb0 hb1
     have hkstw1:=coreHead stw1
     unfold CK.cells at hkstw1
     have hkstw17:=hkstw1.cell 7
     simp only [ζa,ζb,ζc] at hkstw17
     clear hkstw1
     have hcl:=c_readN p.file p.index stw1.drew
     rw [←HE.out] at hcl
     clear hb stw1
     go_region_held3 (fun w'=>w'.cell? ⟨K.b,7,none⟩=some (.pointer (some ⟨K.fl,0,none⟩))∧w'.cell? ⟨w.heap.size,0,none⟩=some (.int .i64 p.file)∧w'.cell? ⟨w.heap.size,1,none⟩=some (.int .i64 p.index)) (first | exact ⟨hkstw17,hb0,hb1⟩ | exact ⟨q1,q10,q11⟩) (first | (go_at_call 186;refine hcl.mono ?_;rintro e w2 ⟨⟨k,rfl⟩,st2⟩;have hb2:=st2.blk1;have q10:=hb2.cell 0;have q11:=hb2.cell 1;have hk2:=coreHead st2;have q1:=hk2.cell 7;clear hb2 hk2))
     go_wp2_with fail
     go_ret
     exact ⟨rfl,st2.drop2⟩
end

section
open Go.RowKit
variable {w0 w:World} {F0:Nat→Prop} {K:CK} {c:CoM} {ls:List Part}
theorem textL_ok {B:List (List Int)} (h:∀ ns∈B,Byt.Txt ns) (i:Int):(∀ n∈Byt.textL B i,0≤n∧n < 256)∧(Byt.textL B i).length < 1000000:=by
 unfold Byt.textL
 split
 · rename_i hc
   simp only [Bool.and_eq_true,decide_eq_true_eq] at hc
   rw [List.getD_eq_getElem?_getD,ζg (by omega)]
   have:=h _ (List.getElem_mem (l:=B) (n:=i.toNat) (by omega))
   exact ⟨this.2,by rw [Option.getD_some,this.1];omega⟩
 · exact ⟨fun n hn=>(by cases hn),by simp⟩
theorem core_textOk (p:Pag.PG) (st:Step w0 F0 (coreP K c::ls) w):(∀ n∈c.text p,0≤n∧n < 256)∧(c.text p).length < 1000000:=by
 unfold CoM.text
 split
 · obtain ⟨F1,⟨g,h,rfl⟩,_⟩:=corePart 3 st rfl
   exact textL_ok h.good _
 · split
   · obtain ⟨F1,⟨g,h,rfl⟩,_⟩:=corePart 6 st rfl
     exact textL_ok h.good _
   · obtain ⟨F1,⟨mb,sv,T,h1,h2,h3,h4,_⟩,_⟩:=corePart 8 st rfl
     have key:Byt.Txt (Fil.readU c.files p.file p.index)∨Fil.readU c.files p.file p.index=[]:=by
      unfold Fil.readU
      split
      · left
        cases hx:getA (p.file,p.index) c.files.l with
        | none=>exact Fil.firstL_txt _ _
        | some t=>exact h4 _ (Pag.getA_mem hx)
      · exact .inr rfl
     rcases key with h | h
     · exact ⟨h.2,by rw [h.1];omega⟩
     · rw [h];exact ⟨fun n hn=>(by cases hn),by simp⟩
theorem pg_load (w:World) (r:Nat) (p:Pag.PG) (T:TypeId) (h:Blk w r p.cells T):w.cell? ⟨r,0,none⟩=some (.int .i64 p.file)∧w.cell? ⟨r,1,none⟩=some (.int .i64 p.index)∧w.cell? ⟨r,2,none⟩=some (.int .i64 p.place)∧w.cell? ⟨r,3,none⟩=some (.int .i64 p.at_) ∧
 w.cell? ⟨r,4,none⟩=some (.int .i64 p.owner)∧w.cell? ⟨r,5,none⟩=some (.int .i64 p.refs)∧w.cell? ⟨r,6,none⟩=some (.int .i64 0)∧w.cell? ⟨r,7,none⟩=some (.bool false)∧w.cell? ⟨r,8,none⟩=some (.bool p.dirty):=by
 unfold Pag.PG.cells at h
 have h0:=h.cell 0
 have h1:=h.cell 1
 have h2:=h.cell 2
 have h3:=h.cell 3
 have h4:=h.cell 4
 have h5:=h.cell 5
 have h6:=h.cell 6
 have h7:=h.cell 7
 have h8:=h.cell 8
 simp only [ζa,ζb,ζc] at h0 h1 h2 h3 h4 h5 h6 h7 h8
 exact ⟨h0,h1,h2,h3,h4,h5,h6,h7,h8⟩
theorem core_clean (id:Int) (p:Pag.PG) (st:Step w0 F0 (coreP K c::ls) w) :
 Calls Tryz.prog 132 #[.pointer (some ⟨K.b,0,none⟩),.int .i64 id,p.val] w fun e w'=>e=.returned (.tuple #[])∧Step w0 F0 (coreP K (c.clean id p)::ls) w':=by
 obtain ⟨C,hC⟩:∃ C,C=c.clean id p:=⟨_,rfl⟩
 rw [←hC]
 unfold CoM.clean at hC
 have HC:=ζh hC
 have ST:=ζh st
 obtain ⟨htx,htl⟩:=core_textOk p st
 have HTX:=ζh htx
 obtain ⟨D,hD⟩:∃ D,D=p.dirty:=⟨_,rfl⟩
 clear hC st htx htl
 rcases Classical.em (0≤p.file) with h1 | h1
 · have d1:decide (0≤p.file)=true:=decide_eq_true h1
   cases D with
   | false =>
     have e1:C=c:=by rw [HC.out,if_neg (by rw [←hD];simp)]
     have HE:=ζh e1
     have HD:=ζh hD
     unfold Pag.PG.val Pag.PG.cells
     rw [←hD]
     clear h1 e1 hD
     go_enter Tryz.func132,Tryz.ntmps132
     go_upto_region 1 with fail
     obtain ⟨w1,hnw1⟩:∃ w1,w1=w.alloc (.cells #[.int .i64 p.file,.int .i64 p.index,.int .i64 p.place,.int .i64 p.at_,.int .i64 p.owner,.int .i64 p.refs,.int .i64 0,.bool false,.bool false] 198):=⟨_,rfl⟩
     have stw1:=(ST.out).local (cs:=#[.int .i64 p.file,.int .i64 p.index,.int .i64 p.place,.int .i64 p.at_,.int .i64 p.owner,.int .i64 p.refs,.int .i64 0,.bool false,.bool false]) (T:=198)
     rw [←hnw1] at stw1 ⊢
     clear hnw1
     have hb:=stw1.blk1
     have hb0:=hb.cell 0
     have hb8:=hb.cell 8
     simp only [ζa,ζb,ζc] at hb0 hb8
     have ST1:=ζh stw1
     clear stw1 hb
     go_wp2_with fail
     go_end0
     rw [HE.out]
     exact ⟨rfl,ST1.out.drop2⟩
   | true =>
     have e1:C={ c with files:=Fil.writeU c.files p.file p.index (c.text p),pages:=Pag.markT c.pages id false }:=by rw [HC.out,if_pos ⟨h1,hD.symm⟩]
     have HE:=ζh e1
     have HD:=ζh hD
     unfold Pag.PG.val Pag.PG.cells
     rw [←hD]
     clear h1 e1 hD
     go_enter Tryz.func132,Tryz.ntmps132
     go_upto_region 1 with fail
     obtain ⟨w1,hnw1⟩:∃ w1,w1=w.alloc (.cells #[.int .i64 p.file,.int .i64 p.index,.int .i64 p.place,.int .i64 p.at_,.int .i64 p.owner,.int .i64 p.refs,.int .i64 0,.bool false,.bool true] 198):=⟨_,rfl⟩
     have stw1:=(ST.out).local (cs:=#[.int .i64 p.file,.int .i64 p.index,.int .i64 p.place,.int .i64 p.at_,.int .i64 p.owner,.int .i64 p.refs,.int .i64 0,.bool false,.bool true]) (T:=198)
     rw [←hnw1] at stw1 ⊢
     clear hnw1
     have hb:=stw1.blk1
     have hb0:=hb.cell 0
     have hb1:=hb.cell 1
     have hb2:=hb.cell 2
     have hb3:=hb.cell 3
     have hb4:=hb.cell 4
     have hb5:=hb.cell 5
     have hb6:=hb.cell 6
     have hb7:=hb.cell 7
     have hb8:=hb.cell 8
     simp only [ζa,ζb,ζc] at hb0 hb1 hb2 hb3 hb4 hb5 hb6 hb7 hb8
     have hkstw17:=core_h7 stw1
     have ST1:=ζh stw1
     have hct:=core_text p stw1.drew
     unfold Pag.PG.val Pag.PG.cells at hct
     rw [←HD.out] at hct
     clear stw1 hb
     go_upto_region 2 with fail
     go_region_held3 (fun w'=>w'.cell? ⟨K.b,7,none⟩=some (.pointer (some ⟨K.fl,0,none⟩))∧w'.cell? ⟨w.heap.size,0,none⟩=some (.int .i64 p.file)∧w'.cell? ⟨w.heap.size,1,none⟩=some (.int .i64 p.index)∧w'.cell? ⟨w.heap.size,2,none⟩=some (.int .i64 p.place)∧w'.cell? ⟨w.heap.size,3,none⟩=some (.int .i64 p.at_)∧w'.cell? ⟨w.heap.size,4,none⟩=some (.int .i64 p.owner)∧w'.cell? ⟨w.heap.size,5,none⟩=some (.int .i64 p.refs)∧w'.cell? ⟨w.heap.size,6,none⟩=some (.int .i64 0)∧w'.cell? ⟨w.heap.size,7,none⟩=some (.bool false)∧w'.cell? ⟨w.heap.size,8,none⟩=some (.bool true)) (first | exact ⟨hkstw17,hb0,hb1,hb2,hb3,hb4,hb5,hb6,hb7,hb8⟩ | exact ⟨q10,q0,q1,q2,q3,q4,q5,q6,q7,q8⟩) (first
      | (go_at_call 193;refine hct.mono ?_;rintro e w2 ⟨rfl,st2⟩;have q10:=core_h7 st2;have hb2':=st2.blk1;have q0:=hb2'.cell 0;have q1:=hb2'.cell 1;have q2:=hb2'.cell 2;have q3:=hb2'.cell 3;have q4:=hb2'.cell 4;have q5:=hb2'.cell 5;have q6:=hb2'.cell 6;have q7:=hb2'.cell 7;have q8:=hb2'.cell 8;clear hb2')
      | (go_at_call 196;refine (c_writeL p.file p.index _ HTX.out st2).mono ?_;rintro e w3 ⟨⟨k,rfl⟩,st3⟩;have q10:=core_h7 st3;have q11:=core_h10 st3;have hb2':=st3.blk1;have q0:=hb2'.cell 0;have q1:=hb2'.cell 1;have q2:=hb2'.cell 2;have q3:=hb2'.cell 3;have q4:=hb2'.cell 4;have q5:=hb2'.cell 5;have q6:=hb2'.cell 6;have q7:=hb2'.cell 7;have q8:=hb2'.cell 8;clear hb2'))
     go_wp2_with fail
     refine (c_pmark id false st3).mono ?_
     rintro e w4 ⟨⟨k',rfl⟩,st4⟩
     go_wp2_with fail
     go_end0
     rw [HE.out]
     exact ⟨rfl,st4.drop2⟩
 · have d1:decide (0≤p.file)=false:=decide_eq_false h1
   have e1:C=c:=by rw [HC.out,if_neg (by omega)]
   have HE:=ζh e1
   unfold Pag.PG.val Pag.PG.cells
   clear h1 e1 hD
   go_enter Tryz.func132,Tryz.ntmps132
   go_upto_region 1 with fail
   obtain ⟨w1,hnw1⟩:∃ w1,w1=w.alloc (.cells #[.int .i64 p.file,.int .i64 p.index,.int .i64 p.place,.int .i64 p.at_,.int .i64 p.owner,.int .i64 p.refs,.int .i64 0,.bool false,.bool p.dirty] 198):=⟨_,rfl⟩
   have stw1:=(ST.out).local (cs:=#[.int .i64 p.file,.int .i64 p.index,.int .i64 p.place,.int .i64 p.at_,.int .i64 p.owner,.int .i64 p.refs,.int .i64 0,.bool false,.bool p.dirty]) (T:=198)
   rw [←hnw1] at stw1 ⊢
   clear hnw1
   have hb:=stw1.blk1
   have hb0:=hb.cell 0
   have hb8:=hb.cell 8
   simp only [ζa,ζb,ζc] at hb0 hb8
   have ST1:=ζh stw1
   clear stw1 hb
   go_wp2_with fail
   go_end0
   rw [HE.out]
   exact ⟨rfl,ST1.out.drop2⟩
theorem core_swap (g:Int) (st:Step w0 F0 (coreP K c::ls) w) :
 Calls Tryz.prog 250 #[.pointer (some ⟨K.b,0,none⟩),.int .i64 g] w fun e w'=>e=.returned (.int .i64 (c.swap g))∧Step w0 F0 (coreP K c::ls) w':=by
 have h6:=core_h6 st
 have hu:=c_useS g st
 obtain ⟨r,hr⟩:∃ r,r=c.swap g:=⟨_,rfl⟩
 have hr':=hr
 unfold CoM.swap at hr'
 rw [←hr'] at hu
 rw [←hr]
 clear hr hr' st
 go_enter Tryz.func250,Tryz.ntmps250
 go_wp2_with fail
 refine hu.mono ?_
 rintro e w1 ⟨rfl,st1⟩
 go_wp2_with fail
 go_ret
 exact ⟨rfl,st1⟩
theorem core_mem (g:Int) (st:Step w0 F0 (coreP K c::ls) w) :
 Calls Tryz.prog 158 #[.pointer (some ⟨K.b,0,none⟩),.int .i64 g] w fun e w'=>e=.returned (.int .i64 (c.mem g))∧Step w0 F0 (coreP K c::ls) w':=by
 have h6:=core_h3 st
 have hu:=c_useF g st
 obtain ⟨r,hr⟩:∃ r,r=c.mem g:=⟨_,rfl⟩
 have hr':=hr
 unfold CoM.mem at hr'
 rw [←hr'] at hu
 rw [←hr]
 clear hr hr' st
 go_enter Tryz.func158,Tryz.ntmps158
 go_wp2_with fail
 refine hu.mono ?_
 rintro e w1 ⟨rfl,st1⟩
 go_wp2_with fail
 go_ret
 exact ⟨rfl,st1⟩
def fullS (c:CoM) (g:Int):Bool:=decide ((Cnt.ofU c.sl.used g).2≤c.swap g)
theorem core_away (id:Int) (p:Pag.PG) (ch:List Int) (v:Value) (n:Nat) (st:Step w0 F0 (coreP K c::ls) w) (hv:rowP 3 1 v n (ch.map encI)∈ls) (hn:n=ch.length) :
 Calls Tryz.prog 223 #[.pointer (some ⟨K.b,0,none⟩),.int .i64 id,p.val,v] w fun e w'=>e=.returned (.bool (c.away id p ch).isSome)∧Step w0 F0 (coreP K ((c.away id p ch).getD c)::ls) w':=by
 subst hn
 have hrow:=st.rowOf (List.mem_cons_of_mem _ hv)
 obtain ⟨va,vc,rfl⟩:=ownsRow_form hrow
 obtain ⟨hcap,hmax⟩:=ints_cap (ints_of_row hrow)
 unfold maxLen at hmax
 obtain ⟨R,hR⟩:∃ R,R=c.away id p ch:=⟨_,rfl⟩
 rw [←hR]
 unfold CoM.away at hR
 have HR:=ζh hR
 have HV:=ζh hv
 have ST:=ζh st
 obtain ⟨htx,htl⟩:=core_textOk p st
 have HTX:=ζh htx
 have HTL:=ζh htl
 unfold Pag.PG.val Pag.PG.cells
 clear hR hv st hrow htx htl
 go_enter Tryz.func223,Tryz.ntmps223
 go_upto_region 1 with fail
 obtain ⟨w1,hnw1⟩:∃ w1,w1=w.alloc (.cells #[.int .i64 p.file,.int .i64 p.index,.int .i64 p.place,.int .i64 p.at_,.int .i64 p.owner,.int .i64 p.refs,.int .i64 0,.bool false,.bool p.dirty] 198):=⟨_,rfl⟩
 have stw1:=(ST.out).local (cs:=#[.int .i64 p.file,.int .i64 p.index,.int .i64 p.place,.int .i64 p.at_,.int .i64 p.owner,.int .i64 p.refs,.int .i64 0,.bool false,.bool p.dirty]) (T:=198)
 rw [←hnw1] at stw1 ⊢
 clear hnw1
 have ST1:=ζh stw1
 clear stw1
 go_wp2_with fail
 obtain ⟨wa,hwa⟩:∃ wa:World,wa=w1:=⟨_,rfl⟩
 go_loopw [15] (fun i wr=>∃ k:Nat,k≤ch.length∧i=.int .i64 k∧(∀ x∈ch.take k,fullS c x=false)∧Step w0 F0 (coreP K c::blkP w.heap.size p.cells 198::ls) wr) (fun i _=>ch.length - (intOf i).toNat)
 case atStart=>exact ⟨0,by omega,rfl,(fun x hx=>by simp at hx),ST1.out⟩
 case round =>
  obtain ⟨k,hk,rfl,hno,hst⟩:=hrel
  obtain ⟨wo,rfl⟩:∃ wo:World,wo=wr:=⟨_,rfl⟩
  by_cases hlt:k < ch.length
  · obtain ⟨g,hg⟩:∃ g,ch[k]?=some g:=⟨_,ζg hlt⟩
    have hro:=hst.rowOf (List.mem_cons_of_mem _ (List.mem_cons_of_mem _ HV.out))
    obtain ⟨b',off,rfl,hc0⟩:=ints_at (ints_of_row hro) hg
    have h6:=core_h6 hst
    have hi0:(0:Int)≤(k:Int):=by omega
    have hi1:(k:Int) < ch.length:=by omega
    have hsw:=core_swap g hst.drew
    obtain ⟨x,hx⟩:∃ x,x=c.swap g:=⟨_,rfl⟩
    obtain ⟨y,hy⟩:∃ y,y=(Cnt.ofU c.sl.used g).2:=⟨_,rfl⟩
    have hfl:fullS c g=decide (y≤x):=by rw [hx,hy];rfl
    have hli:=fun (w':World) (s':Step w0 F0 (coreP K c::blkP w.heap.size p.cells 198::ls) w')=>c_limS g s'
    rw [←hx] at hsw
    rw [←hy] at hli
    have HNO:=ζh hno
    have HFL:=ζh hfl
    have HG:=ζh hg
    have HST:=ζh hst
    clear hno hfl hg hx hy hst hro
    go_upto_region 4 with fail
    go_region_held3 (fun w'=>w'.cell? ⟨K.b,6,none⟩=some (.pointer (some ⟨K.su,0,none⟩))) (first | exact h6 | exact q6) (first
     | (go_at_call 250;refine hsw.mono ?_;rintro e w2 ⟨rfl,st2⟩;have q6:=core_h6 st2)
     | (go_at_call 251;refine (hli _ st2).mono ?_;rintro e w3 ⟨rfl,st3⟩;have q6:=core_h6 st3))
    cases hd:decide (y≤x) with
    | true =>
      have hany:c.away id p ch=none:=by
       unfold CoM.away
       rw [if_pos]
       rw [List.any_eq_true]
       exact ⟨g,ζm HG.out,by have:=HFL.out;rw [hd] at this;exact this⟩
      have HA:=ζh hany
      clear hany
      go_wp2_with fail
      go_ret
      obtain rfl:R=none:=by rw [HR.out];exact HA.out
      exact ⟨rfl,st3.drop2⟩
    | false =>
      have hn1:∀ x∈ch.take (k+1),fullS c x=false:=by
       intro z hz
       rw [List.take_add_one,HG.out] at hz
       rcases List.mem_append.1 hz with h | h
       · exact HNO.out z h
       · simp at h;rw [h,HFL.out,hd]
      have HN1:=ζh hn1
      clear hn1
      go_wp2_with fail
      go_roundw
      case rel=>exact ⟨k+1,by omega,by go_num,HN1.out,st3⟩
      case measure=>simp [intOf];omega
  · obtain rfl:k=ch.length:=by omega
    rw [List.take_length] at hno
    have hnany:¬ (ch.any fun g=>decide ((Cnt.ofU c.sl.used g).2≤c.swap g))=true:=by
     rw [List.any_eq_true]
     rintro ⟨x,hx,hd⟩
     have:=hno x hx
     unfold fullS at this
     rw [this] at hd;cases hd
    have h4:=core_h4 hst
    have hpt:=c_poolS hst
    obtain ⟨fx,hfx⟩:∃ fx,fx=Pol.freeIx c.sl.pool:=⟨_,rfl⟩
    rw [←hfx] at hpt
    have hr0:=HR.out
    rw [if_neg hnany,←hfx] at hr0
    have HST:=ζh hst
    clear hno hnany hst
    by_cases hf:fx < 0
    · rw [if_pos hf] at hr0
      rw [if_neg (by omega)] at hpt
      have htk:Pol.takeP c.sl.pool=c.sl.pool:=by unfold Pol.takeP;rw [←hfx,if_neg (by omega)]
      rw [htk] at hpt
      have HR0:=ζh hr0
      have HPT:=ζh hpt
      clear hr0 hf hfx htk hpt
      go_wp2_with fail
      refine HPT.out.mono ?_
      rintro e w2 ⟨rfl,st2⟩
      go_wp2_with fail
      go_ret
      rw [HR0.out]
      exact ⟨rfl,st2.drop2⟩
    · rw [if_neg hf] at hr0
      rw [if_pos (by omega)] at hpt
      have HR0:=ζh hr0
      have HPT:=ζh hpt
      have HF:=ζh hf
      clear hr0 hf hfx hpt
      go_wp2_with fail
      refine HPT.out.mono ?_
      rintro e w2 ⟨rfl,st2⟩
      have k6:=core_h6 st2
      have ST2:=ζh st2
      clear st2
      go_wp2_with fail
      refine (c_tryS ch _ _ ST2.out (List.mem_cons_of_mem _ HV.out) rfl).mono ?_
      rintro e w3 ⟨rfl,st3⟩
      have ST3:=ζh st3
      have hct:=core_text p st3.drew
      unfold Pag.PG.val Pag.PG.cells at hct
      have k5:=core_h5 st3
      obtain ⟨k0,k1,k2,k3,k4,ka5,k6,k7,k8⟩:=pg_load _ _ p _ st3.blk1
      clear st3
      go_upto_region 11 with fail
      go_region_held3 (fun w'=>w'.cell? ⟨K.b,5,none⟩=some (.pointer (some ⟨K.ss,0,none⟩))∧w'.cell? ⟨w.heap.size,0,none⟩=some (.int .i64 p.file)∧w'.cell? ⟨w.heap.size,1,none⟩=some (.int .i64 p.index)∧w'.cell? ⟨w.heap.size,2,none⟩=some (.int .i64 p.place)∧w'.cell? ⟨w.heap.size,3,none⟩=some (.int .i64 p.at_)∧w'.cell? ⟨w.heap.size,4,none⟩=some (.int .i64 p.owner)∧w'.cell? ⟨w.heap.size,5,none⟩=some (.int .i64 p.refs)∧w'.cell? ⟨w.heap.size,6,none⟩=some (.int .i64 0)∧w'.cell? ⟨w.heap.size,7,none⟩=some (.bool false)∧w'.cell? ⟨w.heap.size,8,none⟩=some (.bool p.dirty)) (first | exact ⟨k5,k0,k1,k2,k3,k4,ka5,k6,k7,k8⟩ | exact ⟨q5,q0,q1,q2,q3,q4,qa5,q6,q7,q8⟩ | exact ⟨r5,r0,r1,r2,r3,r4,ra5,r6,r7,r8⟩) (first
       | (go_at_call 193;refine hct.mono ?_;rintro e w4 ⟨rfl,st4'⟩;have st4:=(show Step w0 F0 (coreP K _::blkP w.heap.size p.cells 198::ls) w4 from st4');have q5:=core_h5 st4;have q10:=core_h10 st4;obtain ⟨q0,q1,q2,q3,q4,qa5,q6,q7,q8⟩:=pg_load _ _ p _ st4.blk1)
       | (go_at_call 254;refine (c_writeS fx (c.text p) HTX.out HTL.out st4).mono ?_;rintro e w5 ⟨⟨k',rfl⟩,st5⟩;have r5:=core_h5 st5;have r10:=core_h10 st5;obtain ⟨r0,r1,r2,r3,r4,ra5,r6,r7,r8⟩:=pg_load _ _ p _ st5.blk1))
      go_wp2_with fail
      refine (c_pput id 2 fx (by omega) (by have:=HF.out;omega) (by omega) st5).mono ?_
      rintro e w6 ⟨⟨_,rfl⟩,st6⟩
      go_wp2_with fail
      go_ret
      rw [HR0.out]
      exact ⟨rfl,st6.drop2⟩
end
end Go.Proofs.YtkfoeonggmlebaaGreatDoor
