/-
  Contracts of the program's functions, and plain facts, towards the laws of millpondtop. No condition beyond those that each theorem bears.
-/
import Derived.Test.YtkfoeonggmlebaaGreatDoorQ20
import Derived.Test.YtkfoeonggmlebaaGreatDoorQ32
import Derived.Test.YtkfoeonggmlebaaGreatDoorQ35
import Derived.Test.YtkfoeonggmlebaaGreatDoorQ37
import Derived.Test.YtkfoeonggmlebaaGreatDoorQAA
set_option maxRecDepth 100000
set_option maxHeartbeats 4000000
namespace Go.Proofs.YtkfoeonggmlebaaGreatDoor
section
open Ent (Ent)
theorem range_mul (a b:Nat):List.range (a * b)=(List.range a).flatMap fun d=>(List.range b).map (d * b+·):=by
 induction a with
 | zero=>simp
 | succ a ih=>rw [Nat.succ_mul,List.range_add,ih,flat_succ]
theorem pgs_eq (T:Wd):∀ (m p:Nat),pgs T m p=((List.range (16 ^ m)).map (16 ^ m * p+·)).filter fun q=>(T q).isSome:=by
 intro m
 induction m with
 | zero=>intro p;unfold pgs;simp [List.range_succ,List.filter_cons]
 | succ m ih =>
   intro p
   unfold pgs
   rw [Nat.pow_succ,Nat.mul_comm (16 ^ m) 16,range_mul,List.map_flatMap,List.filter_flatMap]
   congr 1
   funext d
   rw [ih,List.map_map]
   congr 2
   funext i
   simp only [Function.comp]
   rw [Nat.mul_add,Nat.mul_left_comm,Nat.mul_assoc,Nat.mul_comm d]
   omega
theorem pgs_all (T:Wd):pgs T 4 0=(List.range 65536).filter fun q=>(T q).isSome:=by
 rw [pgs_eq]
 simp
theorem sorted_ext:∀ {l l':List Nat},l.Pairwise (· < ·)→l'.Pairwise (· < ·)→(∀ x,x∈l↔x∈l')→l=l'
 | [],[],_,_,_=>rfl
 | [],b::_,_,_,h=>by have:=(h b).2 List.mem_cons_self;cases this
 | a::_,[],_,_,h=>by have:=(h a).1 List.mem_cons_self;cases this
 | a::l,b::l',h1,h2,h=>by
   rw [List.pairwise_cons] at h1 h2
   have e:a=b:=by
    rcases List.mem_cons.1 ((h a).1 List.mem_cons_self) with h3 | h3
    · exact h3
    · rcases List.mem_cons.1 ((h b).2 List.mem_cons_self) with h4 | h4
      · exact h4.symm
      · have:=h1.1 _ h4;have:=h2.1 _ h3;omega
   subst e
   rw [sorted_ext h1.2 h2.2 fun x=>?_]
   constructor
   · intro hx
     rcases List.mem_cons.1 ((h x).1 (List.mem_cons_of_mem _ hx)) with rfl | h3
     · have:=h1.1 _ hx;omega
     · exact h3
   · intro hx
     rcases List.mem_cons.1 ((h x).2 (List.mem_cons_of_mem _ hx)) with rfl | h3
     · have:=h2.1 _ hx;omega
     · exact h3
structure TabOk (t:Tab):Prop where
 sorted:t.Pairwise (fun a b=>a.1 < b.1)
 page:∀ e∈t,0≤e.1∧e.1 < 65536
 good:∀ e∈t,e.2.good
def wdOf (t:Tab):Wd:=fun q=>(getA (q:Int) t).map Ent.word
def pgsT (t:Tab):List Nat:=t.map fun e=>e.1.toNat
theorem getA_mem {k:Int} {e:Ent}:∀ {t:Tab},getA k t=some e→(k,e)∈t
 | [],h=>by cases h
 | x::t,h=>by
   unfold getA at h
   split at h
   · rename_i hk
     injection h with h
     rw [hk,←h];exact List.mem_cons_self
   · exact List.mem_cons_of_mem _ (getA_mem h)
theorem mem_getA {k:Int} {e:Ent}:∀ {t:Tab},t.Pairwise (fun a b=>a.1 < b.1)→(k,e)∈t→getA k t=some e
 | [],_,h=>by cases h
 | x::t,hs,h=>by
   rw [List.pairwise_cons] at hs
   unfold getA
   rcases List.mem_cons.1 h with rfl | h
   · rw [if_pos rfl]
   · have:=hs.1 _ h
     rw [if_neg (by omega)]
     exact mem_getA hs.2 h
theorem getA_none {k:Int} {t:Tab} (h:∀ e∈t,e.1≠k):getA k t=none:=by
 cases hx:getA k t with
 | none=>rfl
 | some e=>exact absurd rfl (h _ (getA_mem hx))
theorem TabOk.word {t:Tab} (h:TabOk t) {q x:Nat} (hx:wdOf t q=some x):q < 65536∧x < 2 ^ 64:=by
 unfold wdOf at hx
 cases hg:getA (q:Int) t with
 | none=>rw [hg] at hx;cases hx
 | some e =>
   rw [hg] at hx
   injection hx with hx
   have h1:=h.page _ (getA_mem hg)
   have h2:=Ent.word_lt (h.good _ (getA_mem hg))
   simp only at h1 h2
   omega
theorem TabOk.pages {t:Tab} (h:TabOk t):pgs (wdOf t) 4 0=pgsT t:=by
 rw [pgs_all]
 refine sorted_ext (List.pairwise_lt_range.filter _) ?_ fun x=>?_
 · unfold pgsT
   rw [List.pairwise_map]
   refine h.sorted.imp_of_mem fun {a b} ha hb hab=>?_
   have:=h.page a ha
   have:=h.page b hb
   omega
 · unfold pgsT wdOf
   rw [List.mem_filter,List.mem_range,List.mem_map]
   constructor
   · rintro ⟨_,h2⟩
     cases hg:getA (x:Int) t with
     | none=>rw [hg] at h2;cases h2
     | some e=>exact ⟨_,getA_mem hg,by simp⟩
   · rintro ⟨e,he,rfl⟩
     have h1:=h.page e he
     rw [Int.toNat_of_nonneg h1.1,mem_getA h.sorted (e:=e.2) he]
     exact ⟨by omega,rfl⟩
theorem TabOk.get {t:Tab} (h:TabOk t) (n:Int):getT (wdOf t) n=(getA n t).map Ent.word:=by
 unfold getT
 by_cases hn:0≤n∧n < 65536
 · rw [if_pos hn];unfold wdOf;rw [Int.toNat_of_nonneg hn.1]
 · rw [if_neg hn,getA_none (fun e he=>by have:=h.page e he;omega)];rfl
theorem getA_setS (k p:Int) (e:Ent):∀ t:Tab,t.Pairwise (fun a b=>a.1 < b.1)→getA k (setS p e t)=if k=p then some e else getA k t
 | [],_=>by simp [setS,getA]
 | x::t,hs=>by
   rw [List.pairwise_cons] at hs
   unfold setS
   by_cases h1:p < x.1
   · rw [if_pos h1]
     conv=>lhs;unfold getA
   · rw [if_neg h1]
     by_cases h2:p=x.1
     · rw [if_pos h2]
       unfold getA
       by_cases h3:k=p
       · simp [h3]
       · simp only [h3,if_false]
         rw [if_neg (by omega)]
     · rw [if_neg h2]
       unfold getA
       rw [getA_setS k p e t hs.2]
       by_cases h3:k=x.1
       · rw [if_pos h3,if_pos h3,if_neg (by omega)]
       · rw [if_neg h3,if_neg h3]
theorem mem_setS {p:Int} {e:Ent} {x:Int × Ent}:∀ {t:Tab},x∈setS p e t→x=(p,e)∨x∈t
 | [],h=>by simp [setS] at h;exact .inl h
 | y::t,h=>by
   unfold setS at h
   split at h
   · rcases List.mem_cons.1 h with h | h
     · exact .inl h
     · exact .inr h
   · split at h
     · rcases List.mem_cons.1 h with h | h
       · exact .inl h
       · exact .inr (List.mem_cons_of_mem _ h)
     · rcases List.mem_cons.1 h with h | h
       · exact .inr (h ▸ List.mem_cons_self)
       · rcases mem_setS h with h | h
         · exact .inl h
         · exact .inr (List.mem_cons_of_mem _ h)
theorem setS_sorted (p:Int) (e:Ent):∀ t:Tab,t.Pairwise (fun a b=>a.1 < b.1)→(setS p e t).Pairwise (fun a b=>a.1 < b.1)
 | [],_=>by simp [setS]
 | x::t,hs=>by
   have hs':=hs
   rw [List.pairwise_cons] at hs
   unfold setS
   split
   · rename_i h1
     rw [List.pairwise_cons]
     refine ⟨fun y hy=>?_,hs'⟩
     rcases List.mem_cons.1 hy with rfl | hy
     · exact h1
     · have:=hs.1 _ hy;simp only;omega
   · split
     · rename_i h1 h2
       rw [List.pairwise_cons]
       exact ⟨fun y hy=>by have:=hs.1 _ hy;simp only;omega,hs.2⟩
     · rename_i h1 h2
       rw [List.pairwise_cons]
       refine ⟨fun y hy=>?_,setS_sorted p e t hs.2⟩
       rcases mem_setS hy with rfl | hy
       · simp only;omega
       · exact hs.1 _ hy
theorem TabOk.set {t:Tab} (h:TabOk t) {p:Int} {e:Ent} (hp:0≤p∧p < 65536) (he:e.good):TabOk (setS p e t) :=
 ⟨setS_sorted p e t h.sorted,fun x hx=>by
  rcases mem_setS hx with rfl | hx
  · exact hp
  · exact h.page x hx,fun x hx=>by
  rcases mem_setS hx with rfl | hx
  · exact he
  · exact h.good x hx⟩
theorem TabOk.wd {t:Tab} (h:TabOk t) {p:Int} (hp:0≤p) (e:Ent):upd (wdOf t) p.toNat (some e.word)=wdOf (setS p e t):=by
 funext q
 unfold wdOf upd
 rw [getA_setS _ _ _ _ h.sorted]
 by_cases hq:q=p.toNat
 · rw [if_pos hq,if_pos (by omega)];rfl
 · rw [if_neg hq,if_neg (by omega)]
theorem TabOk.filter {t:Tab} (h:TabOk t) (f:Int × Ent→Bool):TabOk (t.filter f) :=
 ⟨h.sorted.filter f,fun e he=>h.page e (List.mem_filter.1 he).1,fun e he=>h.good e (List.mem_filter.1 he).1⟩
def cutW (T:Wd) (l:List Nat):Wd:=l.foldl (fun T q=>upd T q none) T
theorem cutW_at:∀ (l:List Nat) (T:Wd) (q:Nat),cutW T l q=if q∈l then none else T q
 | [],T,q=>by simp [cutW]
 | x::l,T,q=>by
   have e:cutW T (x::l)=cutW (upd T x none) l:=rfl
   rw [e,cutW_at l]
   unfold upd
   by_cases h1:q∈l
   · simp [h1]
   · by_cases h2:q=x
     · simp [h2]
     · simp [h1,h2]
theorem cutW_snoc (T:Wd) (l:List Nat) (q:Nat):cutW T (l++[q])=upd (cutW T l) q none:=by unfold cutW;rw [List.foldl_append];rfl
theorem pgsT_walk (p q:Int) {t:Tab} (h:TabOk t):walkL p q (pgsT t)=(t.filter (SpM.inT p q)).map fun e=>e.1.toNat:=by
 obtain ⟨hs,hp,hgd⟩:=h
 clear hgd
 unfold walkL pgsT
 induction t with
 | nil=>rfl
 | cons x t ih =>
   rw [List.pairwise_cons] at hs
   have hx:=hp x List.mem_cons_self
   have ih:=ih hs.2 (fun e he=>hp e (List.mem_cons_of_mem _ he))
   rw [List.map_cons]
   by_cases hq:x.1 < q
   · rw [List.takeWhile_cons_of_pos (by simp;omega),List.filter_cons,List.filter_cons,ih]
     have e1:decide (p≤((x.1.toNat:Nat):Int))=decide (p≤x.1):=by rw [Int.toNat_of_nonneg hx.1]
     have e2:SpM.inT p q x=decide (p≤x.1):=by unfold SpM.inT;simp [hq]
     rw [e1,e2]
     split<;>rfl
   · rw [List.takeWhile_cons_of_neg (by simp;omega),List.filter_nil,List.filter_cons,if_neg (by unfold SpM.inT;simp;omega)]
     symm
     rw [List.map_eq_nil_iff,List.filter_eq_nil_iff]
     intro e he
     have:=hs.1 e he
     unfold SpM.inT
     simp
     omega
theorem cutW_tab (p q:Int) {t:Tab} (h:TabOk t):cutW (wdOf t) (walkL p q (pgsT t))=wdOf (t.filter fun e=>!SpM.inT p q e):=by
 rw [pgsT_walk p q h]
 funext n
 rw [cutW_at]
 unfold wdOf
 have hf:=h.filter fun e=>!SpM.inT p q e
 by_cases hm:n∈(t.filter (SpM.inT p q)).map fun e=>e.1.toNat
 · rw [if_pos hm]
   obtain ⟨e,he,rfl⟩:=List.mem_map.1 hm
   have h1:=List.mem_filter.1 he
   have h2:=h.page e h1.1
   rw [Int.toNat_of_nonneg h2.1,getA_none]
   · rfl
   · intro e' he' hee
     have h3:=List.mem_filter.1 he'
     have h4:e'=e:=by
      have a1:=mem_getA h.sorted (k:=e'.1) (e:=e'.2) h3.1
      have a2:=mem_getA h.sorted (k:=e.1) (e:=e.2) h1.1
      rw [hee,a2] at a1
      injection a1 with a1
      exact Prod.ext hee a1.symm
     subst h4
     rw [h1.2] at h3
     exact absurd h3.2 (by simp)
 · rw [if_neg hm]
   congr 1
   cases hg:getA (n:Int) t with
   | none =>
     rw [getA_none]
     intro e he hee
     have h3:=List.mem_filter.1 he
     have:=mem_getA h.sorted (k:=e.1) (e:=e.2) h3.1
     rw [hee,hg] at this
     cases this
   | some e =>
     have h1:=getA_mem hg
     rw [mem_getA hf.sorted (e:=e)]
     refine List.mem_filter.2 ⟨h1,?_⟩
     cases hi:SpM.inT p q (↑n,e) with
     | false=>rfl
     | true=>exact absurd (List.mem_map.2 ⟨_,List.mem_filter.2 ⟨h1,hi⟩,by simp⟩) hm
end

section
open Go.RowKit Go.Shelf Go.ChangeShapes Go.WideShapes
open Ent (Ent)
open Go.Proofs.YtkfoeonggmlebaaGreatDoor.Reg
attribute [local go_sem] Oper.semAt_some
def radP (rb:Nat) (t:Tab):Part where
 at_ w F:=TabOk t∧∃ blk,RadK w blk (wdOf t) 0 0∧blk 0 0=some rb∧F=RadF blk
 keep:=by rintro S w w' F ⟨ht,blk,h,hr,rfl⟩ hm hs;exact ⟨ht,blk,h.keep hm (fun l p b hb=>hs b ⟨l,p,hb⟩),hr,rfl⟩
 below:=by rintro w F ⟨ht,blk,h,hr,rfl⟩ x ⟨l,p,hb⟩;exact (h.node l p x hb).lt
def spaceL (sb rb:Nat) (v:Value) (s:SpM):List Part:=[blkP sb #[v,.pointer (some ⟨rb,0,none⟩)] 93,rowP 131 6 v s.regs.length (s.regs.flatMap ecRg),radP rb s.tab]
def spaceP (sb:Nat) (s:SpM):Part where
 at_ w F:=∃ rb v,Sep (spaceL sb rb v s) w F
 keep:=by rintro S w w' F ⟨rb,v,h⟩ hm hs;exact ⟨rb,v,h.keep hm hs⟩
 below:=by rintro w F ⟨rb,v,h⟩;exact h.below
variable {w0 w:World} {F0:Nat→Prop} {ls:List Part} {sb rb:Nat} {s:SpM} {v:Value}
theorem sp_open (st:Step w0 F0 (spaceP sb s::ls) w):∃ rb v,Step w0 F0 (spaceL sb rb v s++ls) w:=by
 obtain ⟨F,⟨F1,F2,⟨rb,v,h1⟩,h2,h3,h4⟩,hg,hF⟩:=st.sep
 refine ⟨rb,v,st.mod,st.tab,F,?_,hg,hF⟩
 have:=h1.app h2 h3
 rwa [show (fun x=>F1 x∨F2 x)=F from funext fun x=>propext (h4 x).symm] at this
theorem sp_pack (st:Step w0 F0 (spaceL sb rb v s++ls) w):Step w0 F0 (spaceP sb s::ls) w:=by
 obtain ⟨F,h,hg,hF⟩:=st.sep
 obtain ⟨F1,F2,h1,h2,h3,h4⟩:=Sep.split h
 exact ⟨st.mod,st.tab,F,⟨F1,F2,⟨rb,v,h1⟩,h2,h3,h4⟩,hg,hF⟩
structure SpRead (w:World) (sb:Nat) (s:SpM) (rb:Nat) (v:Value) (blk:Bk):Prop where
 c0:w.cell? ⟨sb,0,none⟩=some v
 c1:w.cell? ⟨sb,1,none⟩=some (.pointer (some ⟨rb,0,none⟩))
 row:RowsAt ecRg 6 w v s.regs
 own:w.ownsRow 0 131 6 v s.regs.length (s.regs.flatMap ecRg)
 rad:RadK w blk (wdOf s.tab) 0 0
 root:blk 0 0=some rb
 tab:TabOk s.tab
theorem sp_read (st:Step w0 F0 (spaceP sb s::ls) w):∃ rb v blk,SpRead w sb s rb v blk:=by
 obtain ⟨rb,v,st⟩:=sp_open st
 have hb:=Step.blk0 st
 have hr:=Step.row1 st
 obtain ⟨F,ht,blk,hK,h0,_⟩:=st.mem (A:=radP rb s.tab) (by simp [spaceL])
 exact ⟨rb,v,blk,hb.cell 0,hb.cell 1,rowsOf ecRg_len hr rfl,hr,hK,h0,ht⟩
theorem SpRead.keep {blk:Bk} {w':World} (h:SpRead w sb s rb v blk) (hm:Mod (fun _=>False) w w'):SpRead w' sb s rb v blk :=
 ⟨hm.keeps h.c0 (fun x=>x),hm.keeps h.c1 (fun x=>x),h.row.keep ecRg_len hm (fun _ _ x=>x),ownsRow_keep h.own hm (fun _ _ x=>x),h.rad.keep hm (fun _ _ _ _ x=>x),h.root,h.tab⟩
theorem sp_where (p:Int) (st:Step w0 F0 (spaceP sb s::ls) w) :
 Calls Tryz.prog 107 #[.pointer (some ⟨sb,0,none⟩),.int .i64 p] w fun e w'=>e=.returned (.tuple #[.agg (ecRg ((findR s.regs p).getD Rg.zero)).toArray,.bool (findR s.regs p).isSome])∧Mod (fun _=>False) w w':=by
 obtain ⟨rb,v,blk,h⟩:=sp_read st
 obtain ⟨R,hR⟩:∃ R,R=findR s.regs p:=⟨_,rfl⟩
 obtain ⟨x,hx⟩:∃ x,x=R.getD Rg.zero:=⟨_,rfl⟩
 have hb2:=Blk.new w (ecRg Rg.zero).toArray 131
 have hm2:=Mod.alloc' (fun _=>False) w (.cells (ecRg Rg.zero).toArray 131)
 have hf:=rfind_any s.regs v p _ ((h.keep hm2).row)
 have hc:=h.c0
 have hcc:=(h.keep hm2).c0
 rw [←hR,←hx] at hf
 rw [←hR,←hx]
 obtain ⟨wb,hwb⟩:∃ wb,wb=w.alloc (.cells (ecRg Rg.zero).toArray 131):=⟨_,rfl⟩
 rw [←hwb] at hb2 hm2 hf hcc
 unfold ecRg Rg.zero at hwb
 simp only at hwb
 obtain ⟨g,hg⟩:∃ g,g=w.heap.size:=⟨_,rfl⟩
 rw [←hg] at hb2
 have HF:=ζh hf
 have HB:=ζh hb2
 have HM:=ζh hm2
 have HG:=ζh hg
 have HWB:=ζh hwb
 clear h hR hx hb2 hm2 hf hg hwb st
 go_enter Tryz.func107,Tryz.ntmps107
 go_upto_region 1 with fail
 rw [←HWB.out,←HG.out]
 go_wp2_with fail
 refine HF.out.mono ?_
 rintro e w1 ⟨rfl,hm1⟩
 obtain ⟨hst,hbf,hmf⟩:=rg_store (HB.out.keep hm1 (fun x=>x)) x
 have HBF:=ζh hbf
 have HMF:=ζh ((HM.out.trans hm1).trans' hmf (fun i hi e=>by have:=HG.out;omega))
 unfold ecRg at hst
 have HST:=ζh hst
 clear hbf hmf hm1 hst hc hcc
 go_wp2_with (refine Byt.wpList_storeBy rfl 131 _ _ (by rfl) ⟨g,0,none⟩ _ (by rfl) (by rfl) HST.out ?_)
 refine bodyPost_ret (res_rg2 (x:=x) rfl rfl rfl HBF.out) rfl ?_
 exact ⟨rfl,HMF.out⟩
theorem sp_size (st:Step w0 F0 (spaceP sb s::ls) w) :
 Calls Tryz.prog 24 #[.pointer (some ⟨sb,0,none⟩)] w fun e w'=>e=.returned (.int .i64 s.tab.length)∧Mod (fun _=>False) w w':=by
 obtain ⟨rb,v,blk,h⟩:=sp_read st
 have hc:=h.c1
 have hl:=rdlen_any rb blk (wdOf s.tab) 0 w h.rad h.root
 rw [h.tab.pages,show (pgsT s.tab).length=s.tab.length by unfold pgsT;simp] at hl
 have HL:=ζh hl
 clear h hl st
 go_enter Tryz.func24,Tryz.ntmps24
 go_wp2_with fail
 refine HL.out.mono ?_
 rintro e w1 ⟨rfl,hm1⟩
 go_wp2_with fail
 go_ret
 exact ⟨rfl,hm1⟩
theorem ent_store {w:World} {g:Nat} {a b:Int} {c d:Bool} (h:Blk w g #[.int .i64 a,.int .i64 b,.bool c,.bool d] 137) (a' b':Int) (c' d':Bool) :
 (storeVar 137 ⟨g,0,none⟩ (.agg #[.int .i64 a',.int .i64 b',.bool c',.bool d'])).run Tryz.prog w=.ok () (w.setRow g #[.int .i64 a',.int .i64 b',.bool c',.bool d'])∧Blk (w.setRow g #[.int .i64 a',.int .i64 b',.bool c',.bool d']) g #[.int .i64 a',.int .i64 b',.bool c',.bool d'] 137∧Mod (fun b=>b=g) w (w.setRow g #[.int .i64 a',.int .i64 b',.bool c',.bool d']) :=
 ⟨run_storeVar_row w g 137 137 #[.int .i64 a,.int .i64 b,.bool c,.bool d] #[.int .i64 a',.int .i64 b',.bool c',.bool d'] h (by kernel_rfl) rfl (by simp [Value.oneCell']),Byt.Blk.setRow h,Byt.mod_setRow _ _ _⟩
theorem res_ent2 {fn:Func} {p q:Tmp} (h:fn.results=#[.cell p 137,.tmp q]) {tmps:Array Value} {w:World} {g:Nat} {a b:Int} {c d:Bool} {n:Value} (hp:tmps.getD p undef=.pointer (some ⟨g,0,none⟩)) (hq:tmps.getD q undef=n) (hb:Blk w g #[.int .i64 a,.int .i64 b,.bool c,.bool d] 137) :
 (results fn tmps).run Tryz.prog w=.ok (.tuple #[.agg #[.int .i64 a,.int .i64 b,.bool c,.bool d],n]) w:=by
 have hp':tmps[p]?.getD undef=.pointer (some ⟨g,0,none⟩):=by simpa using hp
 have hq':tmps[q]?.getD undef=n:=by simpa using hq
 have x0:w.cell? ⟨g,0,none⟩=some (.int .i64 a):=hb.cell 0
 have x1:w.cell? ⟨g,1,none⟩=some (.int .i64 b):=hb.cell 1
 have x2:w.cell? ⟨g,2,none⟩=some (.bool c):=hb.cell 2
 have x3:w.cell? ⟨g,3,none⟩=some (.bool d):=hb.cell 3
 have hl:(loadVar 137 ⟨g,0,none⟩).run Tryz.prog w=.ok (.agg #[.int .i64 a,.int .i64 b,.bool c,.bool d]) w:=by
  unfold loadVar
  simp [Tryz.isAgg137 ,go_sem,x0,x1,x2,x3]
 simp [results,h,hp',hq',asAddr,hl]
def entV (o:Option Ent):Value:=match o with
 | some e=>e.val
 | none=>.agg #[.int .i64 0,.int .i64 0,.bool false,.bool false]
theorem sp_entry (p:Int) (st:Step w0 F0 (spaceP sb s::ls) w) :
 Calls Tryz.prog 66 #[.pointer (some ⟨sb,0,none⟩),.int .i64 p] w fun e w'=>e=.returned (.tuple #[entV (s.entry p),.bool (s.entry p).isSome])∧Mod (fun _=>False) w w':=by
 obtain ⟨rb,v,blk,h⟩:=sp_read st
 have hg:=fun w' hm=>rdget_any rb blk (wdOf s.tab) 0 p w' (h.keep hm).rad h.root
 have hb:=Blk.new w #[.int .i64 0,.int .i64 0,.bool false,.bool false] 137
 have hm:=Mod.alloc' (fun _=>False) w (.cells #[.int .i64 0,.int .i64 0,.bool false,.bool false] 137)
 have hc:=h.c1
 have hcc:=(h.keep hm).c1
 rw [h.tab.get] at hg
 unfold SpM.entry
 have hg:=hg _ hm
 have hgood:∀ e,getA p s.tab=some e→e.good:=fun e he=>h.tab.good _ (getA_mem he)
 obtain ⟨o,ho⟩:∃ o,o=getA p s.tab:=⟨_,rfl⟩
 rw [←ho] at hgood hg ⊢
 obtain ⟨g,hg0⟩:∃ g,g=w.heap.size:=⟨_,rfl⟩
 rw [←hg0] at hb
 have HM:=ζh hm
 have HB:=ζh hb
 have HG:=ζh hg0
 clear h st ho hm hb hg0
 cases o with
 | none =>
   simp only [Option.map_none,Option.getD_none,Option.isSome_none] at hg ⊢
   have HC:=ζh hg
   clear hg hgood
   go_enter Tryz.func66,Tryz.ntmps66
   go_wp2_with fail
   refine HC.out.mono ?_
   rintro e w1 ⟨rfl,hm1⟩
   obtain ⟨hst,hbf,hmf⟩:=ent_store (HB.out.keep hm1 (fun x=>x)) 0 0 false false
   have HBF:=ζh hbf
   have HMF:=ζh ((HM.out.trans hm1).trans' hmf (fun i hi e=>by have:=HG.out;omega))
   have HST:=ζh hst
   rw [←HG.out]
   clear hbf hmf hm1 hst hc hcc
   go_wp2_with (refine Byt.wpList_storeBy rfl 137 _ _ (by rfl) ⟨g,0,none⟩ _ (by rfl) (by rfl) HST.out ?_)
   refine bodyPost_ret (res_ent2 rfl rfl rfl HBF.out) rfl ?_
   exact ⟨rfl,HMF.out⟩
 | some e =>
   simp only [Option.map_some,Option.getD_some,Option.isSome_some] at hg ⊢
   have HC:=ζh hg
   have HU:=fun w=>Go.Proofs.YtkfoeonggmlebaaGreatDoor.Ent.eunpack_any e (hgood e rfl) w
   unfold entV Ent.val at *
   have HU:=ζh HU
   obtain ⟨W,hW⟩:∃ W,W=e.word:=⟨_,rfl⟩
   rw [←hW] at HC HU
   clear hg hgood hW
   go_enter Tryz.func66,Tryz.ntmps66
   go_wp2_with fail
   refine HC.out.mono ?_
   rintro x w1 ⟨rfl,hm1⟩
   clear hc hcc
   go_wp2_with fail
   refine (HU.out _).mono ?_
   rintro x w2 ⟨rfl,hm2⟩
   have hm12:=hm1.trans hm2
   obtain ⟨hst,hbf,hmf⟩:=ent_store (Blk.new w2 #[.int .i64 0,.int .i64 0,.bool false,.bool false] 137) e.kind e.page e.wr e.tc
   obtain ⟨w3,hw3⟩:∃ w3,w3=(w2.alloc (.cells #[.int .i64 0,.int .i64 0,.bool false,.bool false] 137)).setRow w2.heap.size #[.int .i64 e.kind,.int .i64 e.page,.bool e.wr,.bool e.tc]:=⟨_,rfl⟩
   rw [←hw3] at hst hbf hmf
   have hm3:Mod (fun _=>False) w2 w3:=(Mod.alloc' _ _ _).trans' hmf (fun i hi e=>by omega)
   obtain ⟨hst2,hbf2,hmf2⟩:=ent_store ((HB.out.keep hm12 (fun x=>x)).keep hm3 (fun x=>x)) e.kind e.page e.wr e.tc
   have HBF:=ζh hbf2
   have HMF:=ζh ((HM.out.trans (hm12.trans hm3)).trans' hmf2 (fun i hi e=>by have:=HG.out;omega))
   have HST:=ζh hst
   have HST2:=ζh hst2
   have x0:=hbf.cell 0
   have x1:=hbf.cell 1
   have x2:=hbf.cell 2
   have x3:=hbf.cell 3
   simp only [ζa,ζb,ζc] at x0 x1 x2 x3
   rw [←HG.out]
   clear hbf hmf hm1 hm2 hst hst2 hbf2 hmf2 hm12 hm3 hw3
   go_wp2_with (first | refine Byt.wpList_storeBy rfl 137 _ _ (by rfl) ⟨w2.heap.size,0,none⟩ _ (by rfl) (by rfl) HST.out ?_ | refine Byt.wpList_storeBy rfl 137 _ _ (by rfl) ⟨g,0,none⟩ _ (by rfl) (by rfl) HST2.out ?_)
   refine bodyPost_ret (res_ent2 rfl rfl rfl HBF.out) rfl ?_
   exact ⟨rfl,HMF.out⟩
end

section
open Go.RowKit Go.Shelf Go.ChangeShapes Go.WideShapes
open Ent (Ent)
open Go.Proofs.YtkfoeonggmlebaaGreatDoor.Reg
attribute [local go_sem] Oper.semAt_some
variable {w0 w:World} {F0:Nat→Prop} {ls:List Part} {sb rb:Nat} {s:SpM} {v:Value}
theorem sp_rad (st:Step w0 F0 (spaceP sb s::ls) w):∃ rb v blk,SpRead w sb s rb v blk∧¬ RadF blk sb∧∀ (w1 w':World) (t':Tab) (blk':Bk),Mod (fun _=>False) w w1→Mod (RadF blk) w1 w'→TabOk t'→RadK w' blk' (wdOf t') 0 0→blk' 0 0=some rb →
 (∀ l p b,blk' l p=some b→blk l p=some b∨w1.heap.size≤b)→Step w0 F0 (spaceP sb { s with tab:=t' }::ls) w':=by
 obtain ⟨rb,v,st⟩:=sp_open st
 have hb:=Step.blk0 st
 have hr:=Step.row1 st
 obtain ⟨F1,⟨ht,blk,hK,h0,rfl⟩,hu⟩:=Step.updAt 2 st (A:=radP rb s.tab) rfl
 have hne:¬ RadF blk sb:=by
  rintro ⟨l,p,hl⟩
  have h1:=hK.node l p sb hl
  exact absurd (h1.ne hb (by unfold nodeT;split<;>decide)) (fun h=>h rfl)
 refine ⟨rb,v,blk,⟨hb.cell 0,hb.cell 1,rowsOf ecRg_len hr rfl,hr,hK,h0,ht⟩,hne,fun w1 w' t' blk' hm1 hm2 ht' hK' hr' hn=>?_⟩
 have hz:=hm1.size
 have:=hu w' (radP rb t') (RadF blk') ((hm1.mono (fun _ h=>h.elim)).trans hm2) ⟨ht',blk',hK',hr',rfl⟩ (by
  rintro x ⟨l,p,hl⟩
  rcases hn l p x hl with h | h
  · exact .inl ⟨l,p,h⟩
  · right;omega)
 exact sp_pack (s:={ s with tab:=t' }) this
theorem sp_touch (p:Int) (st:Step w0 F0 (spaceP sb s::ls) w) :
 Calls Tryz.prog 69 #[.pointer (some ⟨sb,0,none⟩),.int .i64 p] w fun e w'=>(∃ v,e=.returned v)∧Step w0 F0 (spaceP sb (s.touch p)::ls) w':=by
 obtain ⟨rb,v,blk,h,hne,hnew⟩:=sp_rad st
 have hg:=rdget_any rb blk (wdOf s.tab) 0 p w h.rad h.root
 rw [h.tab.get] at hg
 unfold SpM.touch
 have hc:=h.c1
 obtain ⟨o,ho⟩:∃ o,o=getA p s.tab:=⟨_,rfl⟩
 rw [←ho] at hg ⊢
 have ST:=ζh st
 cases o with
 | none =>
   simp only [Option.map_none,Option.getD_none,Option.isSome_none] at hg
   have HC:=ζh hg
   clear hg h hnew ho st hne
   go_enter Tryz.func69,Tryz.ntmps69
   go_wp2_with fail
   refine HC.out.mono ?_
   rintro e w1 ⟨rfl,hm1⟩
   go_wp2_with fail
   go_ret
   exact ⟨⟨_,rfl⟩,ST.out.still hm1⟩
 | some e =>
   have hmem:=getA_mem ho.symm
   have hgd:=h.tab.good _ hmem
   have hp:=h.tab.page _ hmem
   simp only at hgd hp
   obtain ⟨q,rfl⟩:∃ q:Nat,p=q:=⟨p.toNat,by omega⟩
   simp only [Option.map_some,Option.getD_some,Option.isSome_some] at hg
   have hset:=fun w' (hm:Mod (fun _=>False) w w')=>rdset_any rb blk (wdOf s.tab) 0 q e.touch.word w' (h.keep hm).rad h.root (by omega) (Nat.lt_of_lt_of_le (Ent.word_lt (e:=e.touch) hgd) (by decide))
   have hwd:=h.tab.wd hp.1 e.touch
   rw [Int.toNat_natCast] at hwd
   rw [hwd] at hset
   have hok:=h.tab.set hp (e:=e.touch) hgd
   have htc:=fun w=>Go.Proofs.YtkfoeonggmlebaaGreatDoor.Ent.etouch_any e hgd w
   obtain ⟨W,hW⟩:∃ W,W=e.word:=⟨_,rfl⟩
   obtain ⟨W2,hW2⟩:∃ W,W=e.touch.word:=⟨_,rfl⟩
   rw [←hW2] at htc hset
   rw [←hW] at htc hg
   have HC:=ζh hg
   have HT:=ζh htc
   have HST:=ζh hset
   have HOK:=ζh hok
   have HN:=ζh hnew
   have HH:=ζh h
   clear hg h hnew ho st hmem hgd hp hset hwd hok htc hW hW2
   go_enter Tryz.func69,Tryz.ntmps69
   go_wp2_with fail
   refine HC.out.mono ?_
   rintro e w1 ⟨rfl,hm1⟩
   have x1:=(HH.out.keep hm1).c1
   have HM1:=ζh hm1
   clear hc hm1
   go_wp2_with fail
   go_region_held3 (fun w'=>w'.cell? ⟨sb,1,none⟩=some (.pointer (some ⟨rb,0,none⟩))) (first | exact x1 | exact y1 | exact z1) (first
    | (go_at_call 120;refine (HT.out _).mono ?_;rintro e wa ⟨rfl,hma⟩;have y1:=(HH.out.keep ((HM1.out.drew).trans hma)).c1)
    | (go_at_call 119;refine (HST.out _ ((HM1.out.drew).trans hma)).mono ?_;rintro e wb ⟨rfl,bk,hr2,hK2,hM2,hin2⟩;have z1:=hM2.keeps y1 (fun x=>hne x)))
   have HF:=ζh (HN.out _ _ _ _ (HM1.out.drew.trans hma) hM2 HOK.out hK2 hr2 hin2)
   clear hma hr2 hK2 hM2 hin2 hne
   go_wp2_with fail
   go_ret
   exact ⟨⟨_,rfl⟩,HF.out⟩
theorem findR_page {l:List Rg} {p:Int} {x:Rg} (h:findR l p=some x):0≤p∧p < 65536∧x.a≤p∧p < x.b∧validR x=true:=by
 unfold findR at h
 split at h
 · rename_i hr
   have h1:=List.find?_some h
   have h2:=List.mem_of_find?_eq_some h
   have h3:=rightR_valid l 0 hr x h2
   have h4:=validR_nums h3
   unfold inR at h1
   simp only [Bool.and_eq_true,decide_eq_true_eq] at h1
   exact ⟨by omega,by omega,h1.1,h1.2,h3⟩
 · cases h
theorem rg_agg (x:Rg):(ecRg x).toArray=#[.int .i64 x.a,.int .i64 x.b,.int .i64 x.k,.int .i64 x.f,.int .i64 x.i,.bool x.wr]:=rfl
theorem sp_set (p:Int) (e:Ent) (he:e.good) (st:Step w0 F0 (spaceP sb s::ls) w) :
 Calls Tryz.prog 189 #[.pointer (some ⟨sb,0,none⟩),.int .i64 p,e.val] w fun x w'=>(∃ v,x=.returned v)∧Step w0 F0 (spaceP sb (s.set p e)::ls) w':=by
 obtain ⟨rb,v,blk,h,hne,hnew⟩:=sp_rad st
 have hw:=fun w' (hm:Mod (fun _=>False) w w')=>sp_where p (st.still hm)
 have hpk:=fun w=>Go.Proofs.YtkfoeonggmlebaaGreatDoor.Ent.epack_any e he w
 obtain ⟨R,hR⟩:∃ R,R=findR s.regs p:=⟨_,rfl⟩
 unfold SpM.set
 rw [←hR] at hw ⊢
 rw [rg_agg] at hw
 unfold Ent.val at hpk ⊢
 have m1:=Mod.alloc' (fun _=>False) w (.cells #[.int .i64 e.kind,.int .i64 e.page,.bool e.wr,.bool e.tc] 137)
 have b1:=Blk.new w #[.int .i64 e.kind,.int .i64 e.page,.bool e.wr,.bool e.tc] 137
 have hw1:=hw _ m1
 have ST:=ζh st
 have HW:=ζh hw1
 have HM:=ζh m1
 have HB:=ζh b1
 have HH:=ζh h
 cases R with
 | none =>
   simp only [Option.isSome_none,Option.getD_none,Rg.zero] at HW
   clear st hw hw1 m1 b1 h hnew hne hpk hR
   go_enter Tryz.func189,Tryz.ntmps189
   go_wp2_with fail
   refine HW.out.mono ?_
   rintro x w1 ⟨rfl,hm1⟩
   go_wp2_with fail
   go_ret
   refine ⟨⟨_,rfl⟩,?_⟩
   exact (ST.out.still (HM.out.trans hm1)).still (Mod.alloc' _ _ _)
 | some y =>
   obtain ⟨p0,p1,_,_,_⟩:=findR_page hR.symm
   obtain ⟨q,rfl⟩:∃ q:Nat,p=q:=⟨p.toNat,by omega⟩
   simp only [Option.isSome_some,Option.getD_some,if_true] at HW ⊢
   have hset:=fun w' (hm:Mod (fun _=>False) w w')=>rdset_any rb blk (wdOf s.tab) 0 q e.word w' (h.keep hm).rad h.root (by omega) (Nat.lt_of_lt_of_le (Ent.word_lt he) (by decide))
   have hwd:=h.tab.wd p0 e
   rw [Int.toNat_natCast] at hwd
   rw [hwd] at hset
   have hok:=h.tab.set ⟨p0,p1⟩ he
   obtain ⟨W,hW⟩:∃ W,W=e.word:=⟨_,rfl⟩
   rw [←hW] at hset hpk
   have hk:((e.kind:Int)==0)=false:=by
    rw [beq_eq_false_iff_ne]
    rcases he.1 with h | h<;>omega
   have HST:=ζh hset
   have HOK:=ζh hok
   have HN:=ζh hnew
   have HP:=ζh hpk
   clear st hw hw1 m1 b1 h hnew hpk hR hset hok hwd hW p0 p1 he hne
   go_enter Tryz.func189,Tryz.ntmps189
   go_wp2_with fail
   refine HW.out.mono ?_
   rintro x w1 ⟨rfl,hm1⟩
   have HM1:=ζh hm1
   clear hm1
   go_upto_region 2 with fail
   obtain ⟨w2,hw2⟩:∃ w2,w2=w1.alloc (.cells #[.int .i64 y.a,.int .i64 y.b,.int .i64 y.k,.int .i64 y.f,.int .i64 y.i,.bool y.wr] 131):=⟨_,rfl⟩
   have m2:Mod (fun _=>False) w1 w2:=by rw [hw2];exact Mod.alloc' _ _ _
   have hbb:=(HB.out.keep HM1.out (fun x=>x)).keep m2 (fun x=>x)
   have HM2:=ζh ((HM.out.trans HM1.out).trans m2)
   rw [←hw2]
   have hbb0:=hbb.cell 0
   have hbb1:=hbb.cell 1
   have hbb2:=hbb.cell 2
   have hbb3:=hbb.cell 3
   simp only [ζa,ζb,ζc] at hbb0 hbb1 hbb2 hbb3
   clear m2 hw2
   have HBB:=ζh hbb
   clear hbb
   go_wp2_with fail
   refine (HP.out _).mono ?_
   rintro x w3 ⟨rfl,hm3⟩
   have hbc:=HBB.out.keep hm3 (fun x=>x)
   have HM3:=ζh (HM2.out.trans hm3)
   have hbc0:=hbc.cell 0
   simp only [ζa,ζb] at hbc0
   have x1:=(HH.out.keep HM3.out).c1
   clear hm3 hbc hbb0 hbb1 hbb2 hbb3
   have z0:((0:Int) != 0)=false:=rfl
   go_wp2_with fail
   refine (HST.out _ HM3.out).mono ?_
   rintro x w4 ⟨rfl,bk,hr2,hK2,hM2,hin2⟩
   have HF:=ζh (HN.out _ _ _ _ HM3.out hM2 HOK.out hK2 hr2 hin2)
   clear hr2 hK2 hM2 hin2
   go_wp2_with fail
   go_ret
   exact ⟨⟨_,rfl⟩,HF.out⟩
end

section
open Go.RowKit Go.Shelf Go.ChangeShapes Go.WideShapes
open Ent (Ent)
open Go.Proofs.YtkfoeonggmlebaaGreatDoor.Reg
attribute [local go_sem] Oper.semAt_some
variable {w0 w:World} {F0:Nat→Prop} {A B C:Part} {ls:List Part} {sb rb:Nat} {s:SpM} {v:Value}
theorem sp_ids (p q:Int) (st:Step w0 F0 (spaceP sb s::ls) w) :
 Calls Tryz.prog 103 #[.pointer (some ⟨sb,0,none⟩),.int .i64 p,.int .i64 q] w fun e w'=>∃ v,e=.returned v∧Step w0 F0 (spaceP sb s::rowP 3 1 v (s.ids p q).length ((s.ids p q).map encI)::ls) w':=by
 obtain ⟨rb,v,blk,h⟩:=sp_read st
 have hc:=h.c1
 have hwk:=rdwalk_any rb blk (wdOf s.tab) 0 p q w h.rad h.root
 rw [h.tab.pages,pgsT_walk p q h.tab] at hwk
 obtain ⟨L,hL⟩:∃ L,L=s.tab.filter (SpM.inT p q):=⟨_,rfl⟩
 have hids:s.ids p q=L.map fun e=>(e.2.page:Int):=by unfold SpM.ids;rw [hL]
 rw [←hL] at hwk
 obtain ⟨n,hn⟩:∃ n,n=L.length:=⟨_,rfl⟩
 rw [List.length_map,←hn] at hwk
 have hpl:=pgs_len (wdOf s.tab) 4 0
 rw [h.tab.pages] at hpl
 have hn64:n≤65536:=by
  have:=List.length_filter_le (SpM.inT p q) s.tab
  unfold pgsT at hpl
  rw [List.length_map] at hpl
  rw [hn,hL];omega
 have hmem:∀ e∈L,0≤e.1∧s.entry e.1=some e.2:=fun e he=>by
  rw [hL] at he
  have h1:=(List.mem_filter.1 he).1
  exact ⟨(h.tab.page e h1).1,mem_getA h.tab.sorted h1⟩
 rw [hids,List.length_map,←hn]
 have HW:=ζh hwk
 have HN:=ζh hn
 have HME:=ζh hmem
 have ST:=ζh st
 clear h hwk hL hids hn hpl hmem st
 go_enter Tryz.func103,Tryz.ntmps103
 go_wp2_with fail
 refine HW.out.mono ?_
 rintro e w1 ⟨u,rfl,hm1,hrow⟩
 obtain ⟨a,c,rfl⟩:=ownsRow_form hrow
 have st1:=(ST.out.row hm1 hrow).rowNil (T:=3) (sz:=1)
 have ST1:=ζh st1
 clear hm1 hrow st1 hc
 go_wp2_with fail
 go_loopw [7,20] (fun v i wr=>∃ k:Nat,k≤n∧i=.int .i64 k∧Hid (Step w0 F0 (spaceP sb s::rowP 3 1 v k (((L.map fun e=>(e.2.page:Int)).take k).map encI)::rowP 3 1 (.slice a n c) n ((L.map fun e=>e.1.toNat).map encN')::ls) wr)) (fun _ i _=>n - (intOf i).toNat)
 case atStart=>exact ⟨0,by omega,rfl,ζh ST1.out⟩
 case round =>
  obtain ⟨k,hk,rfl,HS⟩:=hrel
  obtain ⟨wo,rfl⟩:∃ wo:World,wo=wr:=⟨_,rfl⟩
  by_cases hlt:k < n
  · have hkI:(k:Int) < n:=by omega
    have hkN:0≤(k:Int):=by omega
    obtain ⟨x,hx⟩:∃ x,L[k]?=some x:=⟨_,ζg (by rw [←HN.out];exact hlt)⟩
    obtain ⟨x0,xe⟩:=HME.out x (ζm hx)
    have hrow:=HS.out.rowOf (T:=3) (sz:=1) (v:=.slice a n c) (n:=n) (xs:=(L.map fun e=>e.1.toNat).map encN') (by simp)
    obtain ⟨g,rfl,hcell⟩:∃ g,a=some ⟨g,0,none⟩∧wo.cell? ⟨g,k,none⟩=some (.int .i64 x.1):=by
     rcases id hrow.2 with ⟨_,h0⟩ | ⟨g,cap,cur,hv,_⟩
     · omega
     · injection hv with hv
       subst hv
       refine ⟨g,rfl,?_⟩
       have:=hrow.cellAt k (by simp;have:=HN.out;omega)
       rw [this,List.getElem?_map,List.getElem?_map,hx]
       simp only [Option.map_some,encN',Int.toNat_of_nonneg x0]
    have hen:=sp_entry x.1 HS.out
    rw [xe] at hen
    have hwk:(L.map fun e=>(e.2.page:Int))[k]?=some (x.2.page:Int):=by rw [List.getElem?_map,hx];rfl
    obtain ⟨xp,⟨xk,xpg,xw,xt⟩⟩:=x
    unfold entV Ent.val at hen
    simp only [Option.isSome_some] at hen hcell hwk
    have HEN:=ζh hen
    have HWK:=ζh hwk
    clear hx x0 xe hrow hen hwk
    go_wp2_with fail
    refine HEN.out.mono ?_
    rintro e w2 ⟨rfl,hm2⟩
    have st2:=HS.out.still hm2
    have HS2:=ζh st2
    clear hm2 st2 hcell HEN HS
    go_upto_region 6 with fail
    obtain ⟨wx,hnwx⟩:∃ wx,wx=w2.alloc (.cells #[.int .i64 xk,.int .i64 xpg,.bool xw,.bool xt] 137):=⟨_,rfl⟩
    have stwx:=(HS2.out).local (cs:=#[.int .i64 xk,.int .i64 xpg,.bool xw,.bool xt]) (T:=137)
    rw [←hnwx] at stwx ⊢
    clear hnwx
    have x1:=stwx.blk1.cell 1
    simp only [ζa,ζb,ζc] at x1
    have STX:=ζh stwx.drop2
    have HR:=ζh stwx.drop2.row1
    clear stwx HS2
    go_wp2_with (at_builtin;go_loud (refine wpList_app rfl _ _ 30 rfl 0 3 (.int .i64 0) 1 8 Tryz.underlying30 Tre.info_int rfl (by decide) (by decide) u7 k _ rfl (HR.out.alloc _) ⟨wx.heap.size,0,none⟩ 1 [.int .i64 xpg] rfl rfl (cell_one_new _ _ _) (by simp [Value.oneCell']) (by omega) (Nat.zero_le _) ?_;intro g1 cap1 w9 o9 m9 hg9 hlt9))
    have ST9:=Step.appd STX.out o9 m9 hg9
    have e9:((L.map fun e=>(e.2.page:Int)).take k).map encI++[.int .i64 (xpg:Int)]=((L.map fun e=>(e.2.page:Int)).take (k+1)).map encI:=by
     rw [Tre.take_succ_get HWK.out,List.map_append];rfl
    rw [e9] at ST9
    have HS9:=ζh ST9
    clear o9 m9 hg9 hlt9 e9 ST9
    go_wp2_with fail
    go_roundw
    case rel=>exact ⟨k+1,by omega,by go_num,HS9⟩
    case measure=>simp [intOf];omega
  · obtain rfl:k=n:=by omega
    have hst:=HS.out
    rw [List.take_of_length_le (by rw [List.length_map];have:=HN.out;omega)] at hst
    have HF:=ζh hst.drop3
    clear hst HS
    go_wp2_with fail
    go_ret
    exact ⟨_,rfl,HF.out⟩
end

section
open Go.RowKit Go.Shelf Go.ChangeShapes Go.WideShapes
open Ent (Ent)
open Go.Proofs.YtkfoeonggmlebaaGreatDoor.Reg
attribute [local go_sem] Oper.semAt_some
variable {w0 w:World} {F0:Nat→Prop} {A B C:Part} {ls ps:List Part} {sb rb:Nat} {s:SpM} {v:Value}
def radW (rb:Nat) (T:Wd):Part where
 at_ w F:=∃ blk,RadK w blk T 0 0∧blk 0 0=some rb∧F=RadF blk
 keep:=by rintro S w w' F ⟨blk,h,hr,rfl⟩ hm hs;exact ⟨blk,h.keep hm (fun l p b hb=>hs b ⟨l,p,hb⟩),hr,rfl⟩
 below:=by rintro w F ⟨blk,h,hr,rfl⟩ x ⟨l,p,hb⟩;exact (h.node l p x hb).lt
theorem Step.becomes (i:Nat) (st:Step w0 F0 ps w) (hi:ps[i]?=some A) (h:∀ F,A.at_ w F→B.at_ w F):Step w0 F0 (ps.set i B) w:=by
 obtain ⟨F1,h1,hu⟩:=Step.updAt i st hi
 exact hu w B F1 (Mod.refl _ _) (h _ h1) (fun x hx=>.inl hx)
theorem rw_drop (i:Nat) {T:Wd} (q:Nat) (st:Step w0 F0 ps w) (hi:ps[i]?=some (radW rb T)) (hq:q < 65536) (hT:(T q).isSome=true) :
 Calls Tryz.prog 105 #[.pointer (some ⟨rb,0,none⟩),.int .i64 q] w fun e w'=>e=.returned (.bool true)∧Step w0 F0 (ps.set i (radW rb (upd T q none))) w':=by
 obtain ⟨F1,⟨blk,hK,h0,rfl⟩,hu⟩:=Step.updAt i st hi
 refine (rdDrop_any rb blk T 0 q w hK h0 hq hT).mono ?_
 rintro e w' ⟨rfl,bk,h1,h2,h3,h4⟩
 exact ⟨rfl,hu w' (radW rb (upd T q none)) (RadF bk) h3 ⟨bk,h2,h1,rfl⟩ (by rintro x ⟨l,p,h⟩;exact .inl ⟨l,p,h4 l p x h⟩)⟩
theorem spaceL_open (st:Step w0 F0 (spaceP sb s::ls) w):∃ rb v,TabOk s.tab∧Step w0 F0 (blkP sb #[v,.pointer (some ⟨rb,0,none⟩)] 93::rowP 131 6 v s.regs.length (s.regs.flatMap ecRg)::radW rb (wdOf s.tab)::ls) w:=by
 obtain ⟨rb,v,st⟩:=sp_open st
 obtain ⟨F,ht,_⟩:=st.mem (A:=radP rb s.tab) (by simp [spaceL])
 exact ⟨rb,v,ht,st.becomes 2 (A:=radP rb s.tab) rfl (fun F h=>h.2)⟩
theorem spaceL_pack {T:Wd} (hT:T=wdOf s.tab) (ht:TabOk s.tab) (st:Step w0 F0 (blkP sb #[v,.pointer (some ⟨rb,0,none⟩)] 93::rowP 131 6 v s.regs.length (s.regs.flatMap ecRg)::radW rb T::ls) w):Step w0 F0 (spaceP sb s::ls) w:=by
 subst hT
 exact sp_pack (st.becomes 2 (A:=radW rb (wdOf s.tab)) (B:=radP rb s.tab) rfl (fun F h=>⟨ht,h⟩))
theorem nodup_pgs {t:Tab} (h:TabOk t) (p q:Int):((t.filter (SpM.inT p q)).map fun e=>e.1.toNat).Nodup:=by
 have hs:=(h.filter (SpM.inT p q)).sorted
 have hp:=(h.filter (SpM.inT p q)).page
 unfold List.Nodup
 rw [List.pairwise_map]
 refine hs.imp_of_mem fun {a b} ha hb hab=>?_
 have:=hp a ha
 have:=hp b hb
 omega
theorem sp_regs {u:Value} {T:Wd} {l l':List Rg} {w':World} (st:Step w0 F0 (blkP sb #[v,.pointer (some ⟨rb,0,none⟩)] 93::rowP 131 6 v l.length (l.flatMap ecRg)::radW rb T::ls) w)
 (hm:Mod (fun _=>False) w w') (ho:w'.ownsRow w.heap.size 131 6 u l'.length (l'.flatMap ecRg)) :
 Step w0 F0 (blkP sb #[v,.pointer (some ⟨rb,0,none⟩)] 93::rowP 131 6 u l'.length (l'.flatMap ecRg)::radW rb T::ls) w':=by
 obtain ⟨F1,h1,hu⟩:=Step.updAt 1 st (A:=rowP 131 6 v l.length (l.flatMap ecRg)) rfl
 exact hu w' (rowP 131 6 u l'.length (l'.flatMap ecRg)) (fun x=>u.ownBlock=some x) (hm.mono (fun _ h=>h.elim)) ⟨ownsRow_base ho (Nat.zero_le _),rfl⟩ (fun x hx=>.inr (ownsRow_ge ho x hx))
theorem sp_cut (p q:Int) (hlen:s.regs.length≤100000) (st:Step w0 F0 (spaceP sb s::ls) w) :
 Calls Tryz.prog 63 #[.pointer (some ⟨sb,0,none⟩),.int .i64 p,.int .i64 q] w fun e w'=>∃ v,e=.returned v∧Step w0 F0 (spaceP sb (s.cut p q)::rowP 3 1 v (s.ids p q).length ((s.ids p q).map encI)::ls) w':=by
 have hids:=sp_ids p q st
 obtain ⟨m,hm⟩:∃ m,m=(s.ids p q).length:=⟨_,rfl⟩
 obtain ⟨is,his⟩:∃ is,is=(s.ids p q).map encI:=⟨_,rfl⟩
 rw [←hm,←his] at hids ⊢
 have HI:=ζh hids
 clear hm his hids st
 go_enter Tryz.func63,Tryz.ntmps63
 go_wp2_with fail
 refine HI.out.mono ?_
 rintro e w1 ⟨iv,rfl,st1⟩
 obtain ⟨rb,v,ht,st2⟩:=spaceL_open st1
 obtain ⟨L,hL⟩:∃ L,L=s.tab.filter (SpM.inT p q):=⟨_,rfl⟩
 have hwk:Calls Tryz.prog 104 #[.pointer (some ⟨rb,0,none⟩),.int .i64 p,.int .i64 q] w1 fun e w'=>∃ u,e=.returned u∧Mod (fun _=>False) w1 w'∧w'.ownsRow w1.heap.size 3 1 u L.length ((L.map fun e=>e.1.toNat).map encN'):=by
  obtain ⟨F,blk,hK,h0,_⟩:=st2.mem (A:=radW rb (wdOf s.tab)) (by simp)
  have:=rdwalk_any rb blk (wdOf s.tab) 0 p q w1 hK h0
  rw [ht.pages,pgsT_walk p q ht,←hL,List.length_map] at this
  exact this
 obtain ⟨n,hn⟩:∃ n,n=L.length:=⟨_,rfl⟩
 rw [←hn] at hwk
 have hnd:=nodup_pgs ht p q
 rw [←hL] at hnd
 have hpg:∀ e∈L,0≤e.1∧e.1 < 65536∧(wdOf s.tab e.1.toNat).isSome=true:=fun e he=>by
  rw [hL] at he
  have h1:=(List.mem_filter.1 he).1
  have h2:=ht.page e h1
  refine ⟨h2.1,h2.2,?_⟩
  unfold wdOf
  rw [Int.toNat_of_nonneg h2.1,mem_getA ht.sorted (k:=e.1) (e:=e.2) h1]
  rfl
 have hend:cutW (wdOf s.tab) (L.map fun e=>e.1.toNat)=wdOf (s.tab.filter fun e=>!SpM.inT p q e):=by
  rw [hL,←pgsT_walk p q ht];exact cutW_tab p q ht
 have hok:=ht.filter fun e=>!SpM.inT p q e
 have hn64:n≤65536:=by
  have h1:=pgs_len (wdOf s.tab) 4 0
  rw [ht.pages] at h1
  have:=List.length_filter_le (SpM.inT p q) s.tab
  unfold pgsT at h1
  rw [List.length_map] at h1
  rw [hn,hL];omega
 have hb:=Step.blk0 st2
 have c1:=hb.cell 1
 simp only [ζa,ζb,ζc] at c1
 have ST2:=ζh st2
 have HW:=ζh hwk
 have HND:=ζh hnd
 have HPG:=ζh hpg
 have HE:=ζh hend
 have HOK:=ζh hok
 have HN:=ζh hn
 have HLEN:=ζh hlen
 obtain ⟨fv,fc,rfl⟩:=ownsRow_form (st1.row1)
 clear st1 ht st2 hL hwk hn hnd hpg hend hok hb HI hlen
 go_wp2_with fail
 refine HW.out.mono ?_
 rintro e w2 ⟨u,rfl,hm2,hrow⟩
 obtain ⟨a,c,rfl⟩:=ownsRow_form hrow
 have st3:=ST2.out.row hm2 hrow
 have ST3:=ζh st3
 clear hm2 hrow st3 c1 HW ST2
 go_wp2_with fail
 go_loopw [22] (fun i wr=>∃ k:Nat,k≤n∧i=.int .i64 k∧Hid (Step w0 F0 (blkP sb #[v,.pointer (some ⟨rb,0,none⟩)] 93::rowP 3 1 (.slice a n c) n ((L.map fun e=>e.1.toNat).map encN')::rowP 131 6 v s.regs.length (s.regs.flatMap ecRg)::radW rb (cutW (wdOf s.tab) ((L.map fun e=>e.1.toNat).take k))::rowP 3 1 (.slice fv m fc) m is::ls) wr)) (fun i _=>n - (intOf i).toNat)
 case atStart=>exact ⟨0,by omega,rfl,ζh ST3.out⟩
 case round =>
  obtain ⟨k,hk,rfl,HS⟩:=hrel
  obtain ⟨wo,rfl⟩:∃ wo:World,wo=wr:=⟨_,rfl⟩
  have hb:=Step.blk0 HS.out
  have c0:=hb.cell 0
  have c1:=hb.cell 1
  have f0:=hb.frozen 0
  simp only [ζa,ζb,ζc] at c0 c1
  by_cases hlt:k < n
  · have hkI:(k:Int) < n:=by omega
    have hkN:0≤(k:Int):=by omega
    obtain ⟨x,hx⟩:∃ x,L[k]?=some x:=⟨_,ζg (by rw [←HN.out];exact hlt)⟩
    obtain ⟨x0,x1,x2⟩:=HPG.out x (ζm hx)
    have hxm:(L.map fun e=>e.1.toNat)[k]?=some x.1.toNat:=by rw [List.getElem?_map,hx];rfl
    obtain ⟨y,hy⟩:∃ y:Nat,x.1=y:=⟨x.1.toNat,by omega⟩
    rw [hy,Int.toNat_natCast] at hxm x2
    have hrow:=HS.out.row1
    obtain ⟨g,rfl,hcell⟩:∃ g,a=some ⟨g,0,none⟩∧wo.cell? ⟨g,k,none⟩=some (.int .i64 y):=by
     rcases id hrow.2 with ⟨_,h0⟩ | ⟨g,cap,cur,hv,_⟩
     · omega
     · injection hv with hv
       subst hv
       refine ⟨g,rfl,?_⟩
       have:=hrow.cellAt k (by simp;have:=HN.out;omega)
       rw [this,List.getElem?_map,hxm]
       rfl
    have hnot:y∉(L.map fun e=>e.1.toNat).take k:=by
     intro hmem
     obtain ⟨j,hj,hje⟩:=List.mem_iff_getElem.1 hmem
     rw [List.getElem_take] at hje
     rw [List.length_take] at hj
     have h1:=ζi.1 hxm
     exact List.pairwise_iff_getElem.1 HND.out j k (by omega) h1.1 (by omega) (by rw [hje,h1.2])
    have hdr:=rw_drop 3 y HS.out rfl (by omega) (by rw [cutW_at,if_neg hnot];exact x2)
    have hts:(L.map fun e=>e.1.toNat).take (k+1)=(L.map fun e=>e.1.toNat).take k++[y]:=by rw [List.take_add_one,hxm];rfl
    rw [←cutW_snoc,←hts] at hdr
    have HD:=ζh hdr
    clear hx x0 x1 x2 hxm hy hrow hnot hdr hts HS
    go_wp2_with fail
    refine HD.out.mono ?_
    rintro e w3 ⟨rfl,st4⟩
    have ST4:=ζh st4
    clear st4 HD c0 c1 f0 hcell hb
    go_wp2_with fail
    go_roundw
    case rel=>exact ⟨k+1,by omega,by go_num,ST4⟩
    case measure=>simp [intOf];omega
  · obtain rfl:k=n:=by omega
    have hst:=HS.out.drop2
    rw [List.take_of_length_le (by rw [List.length_map];have:=HN.out;omega),HE.out] at hst
    have hrs:=rowsOf ecRg_len hst.row1 rfl
    have hcc:=rcut_any s.regs v p q wo hrs HLEN.out
    have HCC:=ζh hcc
    have HST:=ζh hst
    clear hst hrs hcc HS
    go_wp2_with fail
    refine HCC.out.mono ?_
    rintro e w3 ⟨u,rfl,ho3,hm3⟩
    obtain ⟨ua,uc,rfl⟩:=ownsRow_form ho3
    have st5:=sp_regs HST.out hm3 ho3
    have hb5:=Step.blk0 st5
    have d0:=hb5.cell 0
    have g0:=hb5.frozen 0
    simp only [ζa,ζb] at d0
    have st6:=Step.set0 (j:=0) (v:=.slice ua (cutR s.regs p q).length uc) st5
    have ST6:=ζh (spaceL_pack (s:=s.cut p q) rfl HOK.out st6)
    clear st5 hb5 st6 ho3 hm3 c0 c1 f0 HCC HST hb
    go_wp2_with fail
    go_ret
    exact ⟨_,rfl,ST6.out⟩
end
end Go.Proofs.YtkfoeonggmlebaaGreatDoor
