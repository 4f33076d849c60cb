/-
  Contracts of the program's functions, and plain facts, towards the laws of millpondtop. No condition beyond those that each theorem bears.
-/
import Derived.Test.YtkfoeonggmlebaaGreatDoorRows
import Derived.Test.YtkfoeonggmlebaaGreatDoorQ05
import Derived.Test.YtkfoeonggmlebaaGreatDoorQ08
import Derived.Test.YtkfoeonggmlebaaGreatDoorQAA
set_option maxRecDepth 100000
set_option maxHeartbeats 4000000
namespace Go.Proofs.YtkfoeonggmlebaaGreatDoor
namespace Pag
open Go.RowKit
theorem pgput_any (b:Nat) (F:Nat→Prop) (T:PT) (id place a:Int) (w:World) (h:PagesAt w b F T) (hp:0≤place∧place≤2) (ha:0≤a) (hpa:place=0→a=0) :
 Calls Tryz.prog 135 #[.pointer (some ⟨b,0,none⟩),.int .i64 id,.int .i64 place,.int .i64 a] w fun e w'=>(∃ n:Int,e=.returned (.int .i64 n))∧Mod F w w'∧PagesAt w' b F (putT T id place a):=by
 have hat:=fun w (h:PagesAt w b F T)=>pgat_any b F T place a w h
 obtain ⟨mp,mf,ms,L,h⟩:=h
 unfold putT
 have hlk:=h.look id
 obtain ⟨c0,_,c2,_⟩:=h.head
 have d0:decide (place < 0)=false:=decide_eq_false (by omega)
 have d1:decide (2 < place)=false:=decide_eq_false (by omega)
 have d2:decide (a < 0)=false:=decide_eq_false (by omega)
 have HH:=ζh (show PagesAt _ b F _ from ⟨mp,mf,ms,_,h⟩)
 have HA:=ζh (hat w HH.out)
 obtain ⟨o,ho⟩:∃ o,o=atT T place a:=⟨_,rfl⟩
 rw [←ho] at HA ⊢
 clear hat ho
 rcases h.page id with ⟨blk,p,e1,e2,hb,hF⟩ | ⟨e1,e2⟩
 · rw [e1] at hlk
   simp only [e2]
   simp only [Option.map_some] at hlk
   by_cases hbusy:0≤o∧o≠id
   · rw [if_pos hbusy]
     have d3:decide (0≤o)=true:=decide_eq_true hbusy.1
     have d4:(o != id)=true:=by rw [bne_iff_ne];exact hbusy.2
     clear e1 e2 h hb hbusy
     by_cases hp0:place=0
     · have hpa0:=hpa hp0
       subst hp0 hpa0
       clear d0 d1 d2 hpa
       go_enter Tryz.func135,Tryz.ntmps135
       go_wp2_with fail
       refine HA.out.mono ?_
       rintro e w1 ⟨rfl,rfl⟩
       go_wp2_with fail
       go_ret
       exact ⟨⟨_,rfl⟩,Mod.refl _ _,HH.out⟩
     · have d5:(place==0)=false:=by rw [beq_eq_false_iff_ne];exact hp0
       clear hpa hp0
       go_enter Tryz.func135,Tryz.ntmps135
       go_wp2_with fail
       refine HA.out.mono ?_
       rintro e w1 ⟨rfl,rfl⟩
       go_wp2_with fail
       go_ret
       exact ⟨⟨_,rfl⟩,Mod.refl _ _,HH.out⟩
   · rw [if_neg hbusy]
     have hb1:(decide (0≤o)=true∧(o != id)=false)∨decide (0≤o)=false:=by
      by_cases h1:0≤o
      · left
        refine ⟨decide_eq_true h1,?_⟩
        by_cases h2:o=id
        · simp [h2]
        · exact absurd ⟨h1,h2⟩ hbusy
      · right;exact decide_eq_false h1
     unfold PG.cells at hb
     have hbS:=hb
     have hbS2:=hbS.cell 2
     have hbS3:=hbS.cell 3
     simp only [ζa,ζb,ζc] at hbS2 hbS3
     have hd:=(Mod.refl (fun _=>False) w).drew
     obtain ⟨f,hf⟩:=(h.keepN hd).msp.deleteF mkey_spot Tryz.underlying115 (p.place,p.at_)
     have hrun:=fun ty=>(hf ty).1
     simp only [show ekTwo (p.place,p.at_)=.agg #[.int .i64 p.place,.int .i64 p.at_] from rfl] at hrun
     have h2:=fun ty=>(h.keepN hd).mapS (hf ty).2.2.1 (hf ty).2.1
     have hb2:=fun ty=>(hb.keep hd (fun x=>x)).keep (hf ty).2.2.1 (fun e=>h.msp.ne hb e.symm)
     have hb3:=fun ty=>((hb2 ty).set 2 (.int .i64 place)).set 3 (.int .i64 a)
     simp only [List.setIfInBounds_toArray,List.set_cons_zero,List.set_cons_succ] at hb3
     have hm3:=fun ty=>(mod_setCell (f ty) blk 2 (.int .i64 place)).trans (mod_setCell ((f ty).setCell ⟨blk,2,none⟩ (.int .i64 place)) blk 3 (.int .i64 a))
     have h3:=fun ty=>(h2 ty).setPage (fun p=>{ p with place:=place,at_:=a }) e1 (hm3 ty) (hb3 ty)
     have cb2:=fun ty=>(hb2 ty).cell 2
     have cb3:=fun ty=>((hb2 ty).set 2 (.int .i64 place)).cell 3
     simp only [List.setIfInBounds_toArray,List.set_cons_zero,List.set_cons_succ,ζa,ζb,ζc] at cb2 cb3
     have f2:=fun ty=>(hb2 ty).frozen 2
     have f3:=fun ty=>((hb2 ty).set 2 (.int .i64 place)).frozen 3
     have c4:=fun ty=>(h3 ty).head.2.2.1
     have HF:=ζh hf
     have H3:=ζh h3
     have HM3:=ζh hm3
     have hFs:=h.inF
     by_cases hp0:place=0
     · have hpa0:=hpa hp0
       subst hp0 hpa0
       rw [if_pos rfl]
       clear d0 d1 d2 hpa e1 e2 h hb hbusy hf h2 hb2 hb3 hm3 h3 c4
       rcases hb1 with ⟨d3,d4⟩ | d3
       all_goals
        go_enter Tryz.func135,Tryz.ntmps135
        go_wp2_with fail
        refine HA.out.mono ?_
        rintro e w1 ⟨rfl,rfl⟩
        go_wp2_with fail
        go_still_tail 13,(by kernel_rfl)
        go_wp2_with fail
        go_ret
        obtain ⟨_,k1,k2,_⟩:=HF.out _
        refine ⟨⟨_,rfl⟩,?_,mp,mf,ms,_,H3.out _⟩
        refine (hd.mono (fun _ x=>x.elim)).trans ((k2.mono ?_).trans ((HM3.out _).mono ?_))
        · rintro x rfl;exact hFs.2.2.2.1
        · rintro x rfl;exact hF
     · have d5:(place==0)=false:=by rw [beq_eq_false_iff_ne];exact hp0
       have d6:(place != 0)=true:=by rw [bne_iff_ne];exact hp0
       rw [if_neg hp0]
       obtain ⟨g,hg⟩:∃ g:TypeId→World,∀ t,(Instr.mapUpdate 115 (.map (some ms)) (ekTwo (place,a)) (encI id)).run Tryz.prog (((f t).setCell ⟨blk,2,none⟩ (.int .i64 place)).setCell ⟨blk,3,none⟩ (.int .i64 a))=.ok () (g t)∧MapA ekTwo encI (g t) ms (putA (place,a) id (dropA (p.place,p.at_) T.spots))∧Mod (fun i=>i=ms) (((f t).setCell ⟨blk,2,none⟩ (.int .i64 place)).setCell ⟨blk,3,none⟩ (.int .i64 a)) (g t)∧(g t).heap.size=(((f t).setCell ⟨blk,2,none⟩ (.int .i64 place)).setCell ⟨blk,3,none⟩ (.int .i64 a)).heap.size :=
        ⟨fun t=>((h3 t).msp.update mkey_spot Tryz.underlying115 (place,a) id).choose,fun t=>((h3 t).msp.update mkey_spot Tryz.underlying115 (place,a) id).choose_spec⟩
       have hrun2:=fun t=>(hg t).1
       simp only [show ekTwo (place,a)=.agg #[.int .i64 place,.int .i64 a] from rfl,show encI id=.int .i64 id from rfl] at hrun2
       have HG:=ζh hg
       clear hpa e1 e2 h hb hbusy hf h2 hb2 hb3 hm3 h3 hg hp0
       rcases hb1 with ⟨d3,d4⟩ | d3
       all_goals
        go_enter Tryz.func135,Tryz.ntmps135
        go_wp2_with fail
        refine HA.out.mono ?_
        rintro e w1 ⟨rfl,rfl⟩
        go_wp2_with fail
        go_still_tail 13,(by kernel_rfl)
        go_wp2_with fail
        go_ret
        obtain ⟨_,k1,k2,_⟩:=HF.out _
        obtain ⟨_,k3,k4,_⟩:=HG.out _
        refine ⟨⟨_,rfl⟩,?_,mp,mf,ms,_,(H3.out _).mapS k4 k3⟩
        refine (hd.mono (fun _ x=>x.elim)).trans ((k2.mono ?_).trans (((HM3.out _).mono ?_).trans (k4.mono ?_)))
        · rintro x rfl;exact hFs.2.2.2.1
        · rintro x rfl;exact hF
        · rintro x rfl;exact hFs.2.2.2.1
 · rw [e1] at hlk
   simp only [e2]
   simp only [Option.map_none] at hlk
   clear e1 e2 h
   go_enter Tryz.func135,Tryz.ntmps135
   go_wp2_with fail
   go_ret
   exact ⟨⟨_,rfl⟩,Mod.refl _ _,HH.out⟩
theorem PagesR.setNext {w w':World} {b mp mf ms:Nat} {F:Nat→Prop} {T:PT} {L:List (Int × (Nat × PG))} (n:Int) (h:PagesR w b mp mf ms F T L) (hm:Mod (fun x=>x=b) w w') (hb:Blk w' b #[.map (some mp),.map (some mf),.map (some ms),.int .i64 n] 117) :
 PagesR w' b mp mf ms F { T with next:=n } L where
 blk:=hb
 mpg:=h.mpg.keep hm (fun e=>h.mpg.ne h.blk e)
 mfl:=h.mfl.keep hm (fun e=>h.mfl.ne h.blk e)
 msp:=h.msp.keep hm (fun e=>h.msp.ne h.blk e)
 eq:=h.eq
 blks:=h.blks.keep hm (fun e he e'=>(h.blks.1 e he).ne h.blk (by decide) e')
 ne:=h.ne
 inF:=h.inF
 below:=fun x hx=>Nat.lt_of_lt_of_le (h.below x hx) hm.size
theorem PagesR.addPage {w w2 w':World} {b mp mf ms:Nat} {F:Nat→Prop} {T:PT} {L:List (Int × (Nat × PG))} (id:Int) {pg:PG} {blk:Nat} (h:PagesR w b mp mf ms F T L) (hblk:w.heap.size≤blk) (hm:Mod (fun _=>False) w w2) (hb:Blk w2 blk pg.cells 198)
 (hm':Mod (fun x=>x=mp) w2 w') (hG:MapA ekInt evP w' mp (putA id blk (mapV (·.1) L))) :
 PagesR w' b mp mf ms (fun x=>F x∨x=blk) { T with pages:=putA id pg T.pages } (putA id (blk,pg) L):=by
 have h2:=h.keepN hm
 have hnew:∀ x,F x→x≠blk:=fun x hx e=>by have:=h.below x hx;omega
 have hb':=hb.keep hm' (fun e=>h2.mpg.ne hb e.symm)
 exact {
  blk:=h2.blk.keep hm' (fun e=>h2.mpg.ne h2.blk e.symm)
  mpg:=by rw [putA_map];exact hG
  mfl:=h2.mfl.keep hm' (fun e=>h.ne.1 e.symm)
  msp:=h2.msp.keep hm' (fun e=>h.ne.2.1 e.symm)
  eq:=by rw [putA_map,h.eq]
  blks:=(h2.blks.keep hm' (fun e he e'=>h2.mpg.ne (h2.blks.1 e he) e'.symm)).put id hb' (fun e he=>hnew _ (h.inF.2.2.2.2 e he))
  ne:=h.ne
  inF:=by
   obtain ⟨h1,h2,h3,h4,h5⟩:=h.inF
   refine ⟨.inl h1,.inl h2,.inl h3,.inl h4,fun e he=>?_⟩
   rcases mem_putA he with rfl | he
   · exact .inr rfl
   · exact .inl (h5 e he)
  below:=fun x hx=>by
   rcases hx with hx | rfl
   · exact Nat.lt_of_lt_of_le (h2.below x hx) hm'.size
   · exact hb'.lt }
theorem pgmake_any (b:Nat) (F:Nat→Prop) (T:PT) (f i owner:Int) (w:World) (h:PagesAt w b F T) (hf:f < 0∨ofT T f i < 0) :
 Calls Tryz.prog 188 #[.pointer (some ⟨b,0,none⟩),.agg #[.int .i64 f,.int .i64 i],.int .i64 owner] w fun e w'=>e=.returned (.tuple #[.int .i64 T.next,.int .i64 0])∧Mod F w w'∧∃ blk,w.heap.size≤blk∧PagesAt w' b (fun x=>F x∨x=blk) (makeT T f i owner):=by
 have hof:=fun w (h:PagesAt w b F T)=>pgof_any b F T f i w h
 obtain ⟨mp,mf,ms,L,h0⟩:=h
 unfold makeT
 by_cases hf0:f < 0
 · rw [if_pos hf0]
   have d0:decide (f < 0)=true:=decide_eq_true hf0
   clear hf hof
   go_enter Tryz.func188,Tryz.ntmps188
   go_upto_region 1 with fail
   obtain ⟨w1,hw1⟩:∃ w1,w1=w.alloc (.cells #[.int .i64 f,.int .i64 i] 190):=⟨_,rfl⟩
   obtain ⟨r,hr⟩:∃ r,r=w.heap.size:=⟨_,rfl⟩
   have hbr:Blk w1 r #[.int .i64 f,.int .i64 i] 190:=by rw [hw1,hr];exact Blk.new w _ _
   have m1:Mod (fun _=>False) w w1:=by rw [hw1];exact Mod.alloc' _ _ _
   rw [←hw1,←hr]
   have h:=h0.keepN m1
   have hrl:w.heap.size≤r:=by omega
   have hrF:∀ x,F x→x≠r:=fun x hx e=>by have:=h0.below x hx;omega
   obtain ⟨n,hn⟩:∃ n,T.next=n:=⟨_,rfl⟩
   obtain ⟨y,hy⟩:∃ y,IntKind.i64.wrap (n+1)=y:=⟨_,rfl⟩
   have hbq:=h.blk
   rw [hn] at hbq
   have fb3:=hbq.frozen 3
   have hbW:=hbq
   have hbq0:=hbq.cell 0
   have hbq1:=hbq.cell 1
   have hbq2:=hbq.cell 2
   have hbq3:=hbq.cell 3
   simp only [ζa,ζb,ζc] at hbq0 hbq1 hbq2 hbq3
   have hbr0:=hbr.cell 0
   have hbr1:=hbr.cell 1
   simp only [ζa,ζb,ζc] at hbr0 hbr1
   have fr0:=hbr.frozen 0
   have fr1:=hbr.frozen 1
   clear hw1 hr h0
   go_wp2_with fail
   have hb1:=(hbr.set 0 (.int .i64 (-1))).set 1 (.int .i64 n)
   simp only [List.setIfInBounds_toArray,List.set_cons_zero,List.set_cons_succ] at hb1
   have hm2:Mod (fun _=>False) w ((w1.setCell ⟨r,0,none⟩ (.int .i64 (-1))).setCell ⟨r,1,none⟩ (.int .i64 n)):=Mod.setCell (Mod.setCell m1 (.inr hrl) _) (.inr hrl) _
   have hm2r:=(mod_setCell w1 r 0 (.int .i64 (-1))).trans (mod_setCell (w1.setCell ⟨r,0,none⟩ (.int .i64 (-1))) r 1 (.int .i64 n))
   have h2:=h.keep hm2r hrF
   obtain ⟨w2,hw2⟩:∃ w2,w2=(w1.setCell ⟨r,0,none⟩ (.int .i64 (-1))).setCell ⟨r,1,none⟩ (.int .i64 n):=⟨_,rfl⟩
   rw [←hw2] at hb1 hm2 h2 ⊢
   have hbq2:=h2.blk
   rw [hn] at hbq2
   have hb3:=hbq2.set 3 (.int .i64 y)
   simp only [List.setIfInBounds_toArray,List.set_cons_zero,List.set_cons_succ] at hb3
   have h3:=h2.setNext y (mod_setCell w2 b 3 (.int .i64 y)) hb3
   have hbr3:=hb1.setOther ⟨b,3,none⟩ (.int .i64 y) (fun e=>hrF b h2.inF.1 e.symm)
   have hm3:Mod F w (w2.setCell ⟨b,3,none⟩ (.int .i64 y)):=(hm2.mono (fun _ x=>x.elim)).trans ((mod_setCell w2 b 3 (.int .i64 y)).mono (fun x e=>by rw [e];exact h2.inF.1))
   obtain ⟨w3,hw3⟩:∃ w3,w3=w2.setCell ⟨b,3,none⟩ (.int .i64 y):=⟨_,rfl⟩
   rw [←hw3] at h3 hbr3 hm3 ⊢
   have hbp:Blk (w3.alloc (.cells #[.int .i64 (-1),.int .i64 n,.int .i64 0,.int .i64 0,.int .i64 owner,.int .i64 0,.int .i64 0,.bool false,.bool false] 198)).drew w3.heap.size _ _:=Blk.new w3 #[.int .i64 (-1),.int .i64 n,.int .i64 0,.int .i64 0,.int .i64 owner,.int .i64 0,.int .i64 0,.bool false,.bool false] 198
   have hma:=(Mod.alloc' (fun _=>False) w3 (.cells #[.int .i64 (-1),.int .i64 n,.int .i64 0,.int .i64 0,.int .i64 owner,.int .i64 0,.int .i64 0,.bool false,.bool false] 198)).drew
   have h3a:=h3.keepN hma
   obtain ⟨w4,hrun,k1,k2,k3⟩:=h3a.mpg.update key_int Tryz.underlying113 n w3.heap.size
   simp only [show ekInt n=.int .i64 n from rfl,show evP w3.heap.size=.pointer (some ⟨w3.heap.size,0,none⟩) from rfl] at hrun
   have hadd:=h3.addPage n (pg:=⟨-1,n,0,0,owner,0,false⟩) (Nat.le_refl _) hma hbp k2 k1
   obtain ⟨cc0,_,_,_⟩:=h3.head
   have q0:=hadd.head.1
   have hbr4:=(hbr3.keep hma (fun x=>x)).keep k2 (fun e=>hrF mp h2.inF.2.1 e.symm)
   have q1:=hbr4.cell 0
   have q2:=hbr4.cell 1
   simp only [ζa,ζb,ζc] at q1 q2
   have cr0:=hbr3.cell 0
   have cr1:=hbr3.cell 1
   simp only [ζa,ζb,ζc] at cr0 cr1
   have hs1:=hm3.size
   have HADD:=ζh hadd
   have HM:=ζh ((hm3.trans (hma.mono (fun _ x=>x.elim))).trans (k2.mono (fun x e=>by rw [e];exact h.inF.2.1)))
   have HY:=ζh hy
   clear hbr4 hadd hbp hbr hb1 hm2r h h2 hw2 hbq2 hb3 h3 hbr3 hw3 h3a hbq0 hbq1 hbq3 hbr0 hbr1 fr0 fr1 hm2 hm3 hy hbW fb3 hma k1 k2 k3 hbq
   go_region_held3 (fun w'=>w'.cell? ⟨b,0,none⟩=some (.map (some mp))∧w'.cell? ⟨r,0,none⟩=some (.int .i64 (-1))∧w'.cell? ⟨r,1,none⟩=some (.int .i64 n)) (first | exact ⟨cc0,cr0,cr1⟩ | exact ⟨q0,q1,q2⟩ | go_keep) (fail)
   go_wp2_with fail
   go_ret2
   obtain rfl:=HY.out
   obtain rfl:=hn
   exact ⟨rfl,HM.out,w3.heap.size,hs1,mp,mf,ms,_,HADD.out⟩
 · rw [if_neg hf0]
   have d0:decide (f < 0)=false:=decide_eq_false hf0
   have hf1:ofT T f i < 0:=by omega
   have d1:decide (0≤ofT T f i)=false:=decide_eq_false (by omega)
   obtain ⟨o,ho⟩:∃ o,o=ofT T f i:=⟨_,rfl⟩
   rw [←ho] at hof d1
   have HOF:=ζh hof
   clear hf hof hf1 ho
   go_enter Tryz.func188,Tryz.ntmps188
   go_upto_region 1 with fail
   obtain ⟨w1,hw1⟩:∃ w1,w1=w.alloc (.cells #[.int .i64 f,.int .i64 i] 190):=⟨_,rfl⟩
   obtain ⟨r,hr⟩:∃ r,r=w.heap.size:=⟨_,rfl⟩
   have hbr:Blk w1 r #[.int .i64 f,.int .i64 i] 190:=by rw [hw1,hr];exact Blk.new w _ _
   have m1:Mod (fun _=>False) w w1:=by rw [hw1];exact Mod.alloc' _ _ _
   rw [←hw1,←hr]
   have h:=h0.keepN m1
   have hrl:w.heap.size≤r:=by omega
   have hrF:∀ x,F x→x≠r:=fun x hx e=>by have:=h0.below x hx;omega
   obtain ⟨n,hn⟩:∃ n,T.next=n:=⟨_,rfl⟩
   obtain ⟨y,hy⟩:∃ y,IntKind.i64.wrap (n+1)=y:=⟨_,rfl⟩
   have hbq:=h.blk
   rw [hn] at hbq
   have hbW:=hbq
   have hbq0:=hbq.cell 0
   have hbq1:=hbq.cell 1
   have hbq2:=hbq.cell 2
   have hbq3:=hbq.cell 3
   simp only [ζa,ζb,ζc] at hbq0 hbq1 hbq2 hbq3
   have hbr0:=hbr.cell 0
   have hbr1:=hbr.cell 1
   simp only [ζa,ζb,ζc] at hbr0 hbr1
   clear hw1 hr h0
   go_upto_region 2 with (go_at_call 187;refine (HOF.out _ ⟨mp,mf,ms,_,h⟩).mono ?_;rintro e wq ⟨rfl,hmq⟩)
   have hq:=h.keepN hmq
   have hbrq:=hbr.keep hmq (fun x=>x)
   have mq:=m1.trans hmq
   have hqd:=(Mod.refl (fun _=>False) wq).drew
   have hbG:=hq.blk
   rw [hn] at hbG
   have hbG1:=hbG.cell 1
   simp only [ζa,ζb,ζc] at hbG1
   have hg1:=hbrq.cell 0
   have hg2:=hbrq.cell 1
   simp only [ζa,ζb,ζc] at hg1 hg2
   obtain ⟨w2,hrunf,j1,j2,j3⟩:=(hq.keepN hqd).mfl.update mkey_api Tryz.underlying114 (f,i) n
   simp only [show ekTwo (f,i)=.agg #[.int .i64 f,.int .i64 i] from rfl,show encI n=.int .i64 n from rfl] at hrunf
   have h2:=(hq.keepN hqd).mapF j2 j1
   have hF0:=h.inF
   have hb1:=(hbrq.keep hqd (fun x=>x)).keep j2 (fun e=>hrF mf hF0.2.2.1 e.symm)
   have hm2:Mod F w w2:=((mq.trans hqd).mono (fun _ x=>x.elim)).trans (j2.mono (fun x e=>by rw [e];exact hF0.2.2.1))
   have hbN:=h2.blk
   have hg3:=hbN.cell 3
   simp only [hn,ζa,ζb,ζc] at hg3
   have fg3:=hbN.frozen 3
   clear hbr0 hbr1 hbq0 hbq1 hbq2 hbq3 hbW hbq hbr h hq hbrq hqd j1 j2 j3 mq hmq m1 hbN
   go_still_tail 6,(by kernel_rfl)
   go_upto_region 8 with fail
   have hbq2:=h2.blk
   rw [hn] at hbq2
   have hb3:=hbq2.set 3 (.int .i64 y)
   simp only [List.setIfInBounds_toArray,List.set_cons_zero,List.set_cons_succ] at hb3
   have h3:=h2.setNext y (mod_setCell w2 b 3 (.int .i64 y)) hb3
   have hbr3:=hb1.setOther ⟨b,3,none⟩ (.int .i64 y) (fun e=>hrF b h2.inF.1 e.symm)
   have hm3:Mod F w (w2.setCell ⟨b,3,none⟩ (.int .i64 y)):=hm2.trans ((mod_setCell w2 b 3 (.int .i64 y)).mono (fun x e=>by rw [e];exact h2.inF.1))
   obtain ⟨w3,hw3⟩:∃ w3,w3=w2.setCell ⟨b,3,none⟩ (.int .i64 y):=⟨_,rfl⟩
   rw [←hw3] at h3 hbr3 hm3 ⊢
   have hbp:Blk (w3.alloc (.cells #[.int .i64 f,.int .i64 i,.int .i64 0,.int .i64 0,.int .i64 owner,.int .i64 0,.int .i64 0,.bool false,.bool false] 198)).drew w3.heap.size _ _:=Blk.new w3 #[.int .i64 f,.int .i64 i,.int .i64 0,.int .i64 0,.int .i64 owner,.int .i64 0,.int .i64 0,.bool false,.bool false] 198
   have hma:=(Mod.alloc' (fun _=>False) w3 (.cells #[.int .i64 f,.int .i64 i,.int .i64 0,.int .i64 0,.int .i64 owner,.int .i64 0,.int .i64 0,.bool false,.bool false] 198)).drew
   have h3a:=h3.keepN hma
   obtain ⟨w4,hrun,k1,k2,k3⟩:=h3a.mpg.update key_int Tryz.underlying113 n w3.heap.size
   simp only [show ekInt n=.int .i64 n from rfl,show evP w3.heap.size=.pointer (some ⟨w3.heap.size,0,none⟩) from rfl] at hrun
   have hadd:=h3.addPage n (pg:=⟨f,i,0,0,owner,0,false⟩) (Nat.le_refl _) hma hbp k2 k1
   obtain ⟨cc0,_,_,_⟩:=h3.head
   have q0:=hadd.head.1
   have hbr4:=(hbr3.keep hma (fun x=>x)).keep k2 (fun e=>hrF mp h2.inF.2.1 e.symm)
   have q1:=hbr4.cell 0
   have q2:=hbr4.cell 1
   simp only [ζa,ζb,ζc] at q1 q2
   have cr0:=hbr3.cell 0
   have cr1:=hbr3.cell 1
   simp only [ζa,ζb,ζc] at cr0 cr1
   have hs1:=hm3.size
   have HADD:=ζh hadd
   have HM:=ζh ((hm3.trans (hma.mono (fun _ x=>x.elim))).trans (k2.mono (fun x e=>by rw [e];exact hF0.2.1)))
   have HY:=ζh hy
   clear hbr4 hadd hbp hb1 h2 hbq2 hb3 h3 hbr3 hw3 h3a hm2 hm3 hy hma k1 k2 k3 hg1 hg2 hg3 fg3 hbG
   go_region_held3 (fun w'=>w'.cell? ⟨b,0,none⟩=some (.map (some mp))∧w'.cell? ⟨r,0,none⟩=some (.int .i64 f)∧w'.cell? ⟨r,1,none⟩=some (.int .i64 i)) (first | exact ⟨cc0,cr0,cr1⟩ | exact ⟨q0,q1,q2⟩ | go_keep) (fail)
   go_wp2_with fail
   go_ret2
   obtain rfl:=HY.out
   obtain rfl:=hn
   exact ⟨rfl,HM.out,w3.heap.size,hs1,mp,mf,ms,_,HADD.out⟩
end Pag

namespace Bit
open Go.RowKit
def encN (ws:List Nat):List Int:=ws.map fun (x:Nat)=>(x:Int)
theorem encN_get {ws:List Nat} {k x:Nat} (h:ws[k]?=some x):(encN ws)[k]?=some (x:Int):=by
 unfold encN;rw [List.getElem?_map,h];rfl
theorem mask_any (n:Nat) (hn:n≤63) (w:World):Calls Tryz.prog 227 #[.int .i64 n] w fun e w'=>e=.returned (.int .u64 ((2 ^ n - 1:Nat):Int))∧w=w':=by
 have e2:=wrapU n (by omega)
 have e4:min n 64=n:=by omega
 go_enter Tryz.func227,Tryz.ntmps227
 go_wp2_with fail
 go_ret
 refine ⟨?_,rfl⟩
 have hp:2 ^ n≤2 ^ 63:=Nat.pow_le_pow_right (by decide) hn
 have hpos:0 < 2 ^ n:=Nat.two_pow_pos _
 have e3:=wrapU (2 ^ n) (by omega)
 have e5:(2:Int) ^ n=((2 ^ n:Nat):Int):=by simp
 have e6:=wrapU (2 ^ n - 1) (by omega)
 obtain ⟨B,hB⟩:∃ B:Nat,B=2 ^ n:=⟨_,rfl⟩
 rw [←hB] at e3 e5 e6 hp hpos ⊢
 rw [show ((B - 1:Nat):Int)=(B:Int) - 1 by omega] at e6 ⊢
 simp [e5,e3,e6]
theorem sum_take {ws:List Nat} {k x:Nat} (h:ws[k]?=some x):(ws.take (k+1)).sum=(ws.take k).sum+x:=by
 rw [List.take_add_one,h,List.sum_append]
 simp
theorem sum_take_le (ws:List Nat) (k:Nat):(ws.take k).sum≤ws.sum:=by
 conv=>rhs;rw [←List.take_append_drop k ws,List.sum_append]
 omega
theorem bright_any (ws:List Nat) (v:Value) (w:World) (h:IntsAt w v (encN ws)) (hs:ws.sum≤62) (hl:ws.length≤1000) :
 Calls Tryz.prog 226 #[v] w fun e w'=>e=.returned (.tuple #[.int .i64 (ws.sum:Nat),.bool true])∧w=w':=by
 obtain ⟨a,cap,rfl,hc1,hc2,hc⟩:=h
 have hlen:(encN ws).length=ws.length:=by simp [encN]
 rw [hlen] at hc hc1 ⊢
 have HC:=ζh hc
 have HS:=ζh hs
 clear hc hlen hs
 go_enter Tryz.func226,Tryz.ntmps226
 go_wp2_with fail
 go_loopw [4,9] (fun n i wr=>∃ k:Nat,k≤ws.length∧i=.int .i64 k∧n=.int .i64 ((ws.take k).sum:Nat)∧w=wr) (fun _ i _=>ws.length - (intOf i).toNat)
 case atStart=>exact ⟨0,by omega,rfl,rfl,rfl⟩
 case round =>
  obtain ⟨k,hk,rfl,rfl,rfl⟩:=hrel
  by_cases hlt:k < ws.length
  · obtain ⟨x,hx⟩:∃ x,ws[k]?=some x:=⟨_,ζg hlt⟩
    obtain ⟨b,off,rfl,hcell⟩:=HC.out k hlt
    rw [List.getD_eq_getElem?_getD,encN_get hx] at hcell
    replace hcell:w.cell? ⟨b,off+k,none⟩=some (.int .i64 (x:Int)):=hcell
    have hst:=sum_take hx
    have hsle:=sum_take_le ws (k+1)
    have hs62:=HS.out
    obtain ⟨S,hS⟩:∃ S,S=(ws.take k).sum:=⟨_,rfl⟩
    rw [←hS] at hst ⊢
    have hkI:(k:Int) < ws.length:=by omega
    have hkN:0≤(k:Int):=by omega
    have d0:decide ((x:Int) < 0)=false:=by simp
    have d1:decide ((62:Int) < (x:Int))=false:=decide_eq_false (by omega)
    have d1':decide (62 < x)=false:=decide_eq_false (by omega)
    have d2:decide ((64:Int) < (S:Int)+(x:Int))=false:=decide_eq_false (by omega)
    have d2':decide (64 < S+x)=false:=decide_eq_false (by omega)
    have hb1:(S:Int)+x≤62:=by omega
    have HST:=ζh hst
    have hsx:S+x≤62:=by omega
    clear hS hx hst hsle hs62 hlt hb1
    go_wp2_with fail
    go_roundw
    case rel=>exact ⟨k+1,by omega,by go_num,by rw [HST.out];go_num,trivial⟩
    case measure=>simp [intOf];omega
  · obtain rfl:k=ws.length:=by omega
    rw [List.take_length]
    go_wp2_with fail
    go_ret2
    exact ⟨rfl,rfl⟩
def packL:List Nat→List Nat→Nat
 | w::ws,v::vs=>v+2 ^ w * packL ws vs
 | _,_=>0
theorem packL_snoc (ws:List Nat):∀ (vs:List Nat) (k x u:Nat),ws[k]?=some x→vs[k]?=some u→packL (ws.take (k+1)) (vs.take (k+1))=packL (ws.take k) (vs.take k)+u * 2 ^ (ws.take k).sum:=by
 induction ws with
 | nil=>intro vs k x u h;cases h
 | cons w ws ih =>
   intro vs k x u h1 h2
   cases vs with
   | nil=>cases h2
   | cons v vs =>
     cases k with
     | zero =>
       injection h1 with h1
       injection h2 with h2
       subst h1 h2
       simp [packL]
     | succ k =>
       have:=ih vs k x u h1 h2
       simp only [List.take_succ_cons,packL,List.sum_cons] at this ⊢
       rw [this,Nat.mul_add,Nat.pow_add,←Nat.mul_assoc,Nat.mul_comm (2 ^ w) u,←Nat.mul_assoc,Nat.add_assoc]
theorem packL_lt (ws:List Nat):∀ (vs:List Nat),(∀ (k x u:Nat),ws[k]?=some x→vs[k]?=some u→u < 2 ^ x)→packL ws vs < 2 ^ ws.sum:=by
 induction ws with
 | nil=>intro vs _;simp [packL]
 | cons w ws ih =>
   intro vs h
   cases vs with
   | nil=>exact Nat.two_pow_pos _
   | cons v vs =>
     have h0:=h 0 w v rfl rfl
     have h1:=ih vs (fun k x u a b=>h (k+1) x u a b)
     simp only [packL,List.sum_cons,Nat.pow_add]
     have:2 ^ w * (packL ws vs+1)≤2 ^ w * 2 ^ ws.sum:=Nat.mul_le_mul_left _ h1
     rw [Nat.mul_add,Nat.mul_one] at this
     omega
theorem bpack_any (ws vs:List Nat) (v u:Value) (w:World) (h:IntsAt w v (encN ws)) (h':IntsAt w u (encN vs)) (hs:ws.sum≤62) (hl:ws.length≤1000) (hlv:vs.length=ws.length) (hfit:∀ (k x u:Nat),ws[k]?=some x→vs[k]?=some u→u < 2 ^ x) :
 Calls Tryz.prog 262 #[v,u] w fun e w'=>e=.returned (.tuple #[.int .u64 (packL ws vs:Nat),.int .i64 0])∧w=w':=by
 have HR:=ζh (bright_any ws v w h hs hl)
 obtain ⟨a,cap,rfl,hc1,hc2,hc⟩:=h
 obtain ⟨a',cap',rfl,hc1',hc2',hc'⟩:=h'
 have hlen:(encN ws).length=ws.length:=by simp [encN]
 have hlen':(encN vs).length=ws.length:=by simp [encN,hlv]
 rw [hlen] at hc hc1 HR ⊢
 rw [hlen'] at hc' hc1' ⊢
 have HC:=ζh hc
 have HC':=ζh hc'
 have HS:=ζh hs
 have HF:=ζh hfit
 have HL:=ζh hlv
 have d9:((ws.length:Int) != (ws.length:Int))=false:=by simp
 have d8:((ws.length:Int)==(ws.length:Int))=true:=by simp
 clear hc hc' hlen hlen' hs hfit hlv
 go_enter Tryz.func262,Tryz.ntmps262
 go_wp2_with fail
 refine HR.out.mono ?_
 rintro e w1 ⟨rfl,rfl⟩
 go_wp2_with fail
 go_loopw [8,9,29] (fun n l i wr=>∃ k:Nat,k≤ws.length∧i=.int .i64 k∧n=.int .u64 (packL (ws.take k) (vs.take k):Nat)∧l=.int .u64 ((ws.take k).sum:Nat)∧w=wr) (fun _ _ i _=>ws.length - (intOf i).toNat)
 case atStart=>exact ⟨0,by omega,rfl,rfl,rfl,rfl⟩
 case round =>
  obtain ⟨k,hk,rfl,rfl,rfl,rfl⟩:=hrel
  by_cases hlt:k < ws.length
  · obtain ⟨x,hx⟩:∃ x,ws[k]?=some x:=⟨_,ζg hlt⟩
    obtain ⟨y,hy⟩:∃ y,vs[k]?=some y:=⟨_,ζg (by rw [HL.out];exact hlt)⟩
    obtain ⟨b,off,rfl,hcell⟩:=HC.out k hlt
    rw [List.getD_eq_getElem?_getD,encN_get hx] at hcell
    replace hcell:w.cell? ⟨b,off+k,none⟩=some (.int .i64 (x:Int)):=hcell
    obtain ⟨b',off',rfl,hcell'⟩:=HC'.out k hlt
    rw [List.getD_eq_getElem?_getD,encN_get hy] at hcell'
    replace hcell':w.cell? ⟨b',off'+k,none⟩=some (.int .i64 (y:Int)):=hcell'
    have hst:=sum_take hx
    have hsle:=sum_take_le ws (k+1)
    have hs62:=HS.out
    have hsn:=packL_snoc ws vs k x y hx hy
    have hlow:packL (ws.take k) (vs.take k) < 2 ^ (ws.take k).sum:=packL_lt _ _ (fun j x u a b=>by
     have hj:j < k:=by have:=(ζi.1 a).1;rw [List.length_take] at this;omega
     rw [List.getElem?_take,if_pos hj] at a b
     exact HF.out j x u a b)
    have hyx:=HF.out k x y hx hy
    obtain ⟨S,hS⟩:∃ S,S=(ws.take k).sum:=⟨_,rfl⟩
    obtain ⟨X,hX⟩:∃ X,X=packL (ws.take k) (vs.take k):=⟨_,rfl⟩
    rw [←hS] at hst hsn hlow ⊢
    rw [←hX] at hsn hlow ⊢
    have hx62:x≤62:=by omega
    have hY62:y * 2 ^ S < 2 ^ 62:=by
     have h1:(y+1) * 2 ^ S≤2 ^ x * 2 ^ S:=Nat.mul_le_mul_right _ hyx
     rw [←Nat.pow_add] at h1
     have h2:2 ^ (x+S)≤2 ^ 62:=Nat.pow_le_pow_right (by decide) (by omega)
     have h3:y * 2 ^ S < (y+1) * 2 ^ S:=Nat.mul_lt_mul_of_pos_right (by omega) (Nat.two_pow_pos _)
     omega
    have hXS:2 ^ S≤2 ^ 62:=Nat.pow_le_pow_right (by decide) (by omega)
    have hor:X ||| y * 2 ^ S=X+y * 2 ^ S:=by
     rw [Nat.or_comm,Nat.mul_comm,←Nat.two_pow_add_eq_or_of_lt hlow,Nat.add_comm]
    have hmask:=mask_any x (by omega) w
    obtain ⟨Y,hY⟩:∃ Y,Y=y * 2 ^ S:=⟨_,rfl⟩
    obtain ⟨M,hM⟩:∃ M,M=2 ^ x - 1:=⟨_,rfl⟩
    rw [←hM] at hmask
    have e1:IntKind.u64.wrap (y:Int)=(y:Int):=wrapU _ (by have:2 ^ x≤2 ^ 62:=Nat.pow_le_pow_right (by decide) hx62;omega)
    have e2:IntKind.u64.wrap ((y:Int) * 2 ^ S)=(Y:Int):=by
     rw [show ((y:Int) * 2 ^ S)=((y * 2 ^ S:Nat):Int) by simp,←hY]
     exact wrapU _ (by omega)
    have e3:bits .or .u64 (X:Int) (Y:Int)=((X+Y:Nat):Int):=by
     rw [or_u X Y (by omega) (by omega),hY,hor]
    have e4:IntKind.u64.wrap (x:Int)=(x:Int):=wrapU _ (by omega)
    have e5:IntKind.u64.wrap ((S:Int)+(x:Int))=((S+x:Nat):Int):=by rw [show (S:Int)+(x:Int)=((S+x:Nat):Int) by omega];exact wrapU _ (by omega)
    have e6:min S 64=S:=by omega
    have d0:decide ((y:Int) < 0)=false:=by simp
    have d1:decide ((M:Int) < (y:Int))=false:=decide_eq_false (by have:0 < 2 ^ x:=Nat.two_pow_pos _;omega)
    have d1':decide (M < y)=false:=decide_eq_false (by have:0 < 2 ^ x:=Nat.two_pow_pos _;omega)
    have hkI:(k:Int) < ws.length:=by omega
    have hkN:0≤(k:Int):=by omega
    rw [←hY] at hsn
    have HST:=ζh hst
    have HSN:=ζh hsn
    have HM:=ζh hmask
    clear hS hX hx hy hst hsn hlow hyx hY62 hXS hor hY hM hmask hsle hs62 hlt hx62
    go_wp2_with fail
    refine HM.out.mono ?_
    rintro e w1 ⟨rfl,rfl⟩
    go_wp2_with fail
    go_roundw
    case rel=>exact ⟨k+1,by omega,by go_num,by rw [HSN.out];go_num,by rw [HST.out];go_num,trivial⟩
    case measure=>simp [intOf];omega
  · obtain rfl:k=ws.length:=by omega
    rw [List.take_length,←HL.out,List.take_length]
    go_wp2_with fail
    go_ret2
    exact ⟨rfl,rfl⟩
def unpackL:List Nat→Nat→List Nat
 | [],_=>[]
 | w::ws,x=>x%2 ^ w::unpackL ws (x / 2 ^ w)
theorem unpackL_len (ws:List Nat):∀ x,(unpackL ws x).length=ws.length:=by
 induction ws with
 | nil=>intro x;rfl
 | cons w ws ih=>intro x;simp [unpackL,ih]
theorem unpackL_snoc (ws:List Nat):∀ (x k u:Nat),ws[k]?=some u→unpackL (ws.take (k+1)) x=unpackL (ws.take k) x++[x / 2 ^ (ws.take k).sum%2 ^ u]:=by
 induction ws with
 | nil=>intro x k u h;cases h
 | cons w ws ih =>
   intro x k u h
   cases k with
   | zero =>
     injection h with h
     subst h
     simp [unpackL]
   | succ k =>
     have:=ih (x / 2 ^ w) k u h
     simp only [List.take_succ_cons,unpackL,List.sum_cons,List.cons_append] at this ⊢
     rw [this,Nat.div_div_eq_div_mul,Nat.pow_add]
theorem bunpack_any (ws:List Nat) (x:Nat) (v:Value) (w:World) (h:IntsAt w v (encN ws)) (hs:ws.sum≤62) (hl:ws.length≤1000) (hx:x < 2 ^ ws.sum) :
 Calls Tryz.prog 180 #[v,.int .u64 x] w fun e w'=>∃ r,e=.returned (.tuple #[r,.int .i64 0])∧Mod (fun _=>False) w w'∧IntsAt w' r (encN (unpackL ws x)):=by
 have HR:=ζh (bright_any ws v w h hs hl)
 have HH:=ζh h
 obtain ⟨a,cap,rfl,hc1,hc2,hc⟩:=h
 have hlen:(encN ws).length=ws.length:=by simp [encN]
 rw [hlen] at hc hc1 HR ⊢
 have HC:=ζh hc
 have HS:=ζh hs
 have hx63:x < 2 ^ 62:=Nat.lt_of_lt_of_le hx (Nat.pow_le_pow_right (by decide) hs)
 obtain ⟨n,hn⟩:∃ n,n=ws.sum:=⟨_,rfl⟩
 rw [←hn] at HR
 have d0:decide ((n:Int) < 64)=true:=decide_eq_true (by omega)
 have e1:IntKind.u64.wrap (n:Int)=(n:Int):=wrapU _ (by omega)
 have e6:min n 64=n:=by omega
 have e3:(x:Int) / 2 ^ n=0:=by
  rw [show (x:Int) / 2 ^ n=((x / 2 ^ n:Nat):Int) by simp,hn,Nat.div_eq_of_lt hx];rfl
 clear hc hlen hs hx hn
 go_enter Tryz.func180,Tryz.ntmps180
 go_wp2_with fail
 refine HR.out.mono ?_
 rintro e w1 ⟨rfl,rfl⟩
 go_wp2_with fail
 clear e1 e6 e3 d0
 obtain ⟨wo,rfl⟩:∃ wo:World,wo=w:=⟨_,rfl⟩
 go_loopw [1,8,31] (fun y v i wr=>∃ k:Nat,k≤ws.length∧i=.int .i64 k∧y=.int .u64 (x / 2 ^ (ws.take k).sum:Nat)∧wr.ownsRow wo.heap.size 3 1 v k ((encN (unpackL (ws.take k) x)).map encI)∧Mod (fun _=>False) wo wr) (fun _ _ i _=>ws.length - (intOf i).toNat)
 case atStart=>exact ⟨0,by omega,rfl,by simp,⟨rfl,.inl ⟨rfl,rfl⟩⟩,Mod.refl _ _⟩
 case round =>
  obtain ⟨k,hk,rfl,rfl,hown,hmr⟩:=hrel
  by_cases hlt:k < ws.length
  · obtain ⟨u,hu⟩:∃ u,ws[k]?=some u:=⟨_,ζg hlt⟩
    obtain ⟨b,off,rfl,hcell⟩:=HC.out k hlt
    rw [List.getD_eq_getElem?_getD,encN_get hu] at hcell
    replace hcell:wo.cell? ⟨b,off+k,none⟩=some (.int .i64 (u:Int)):=hcell
    replace hcell:=hmr.keeps hcell (fun x=>x)
    have hst:=sum_take hu
    have hsle:=sum_take_le ws (k+1)
    have hs62:=HS.out
    have hsn:=unpackL_snoc ws x k u hu
    obtain ⟨S,hS⟩:∃ S,S=(ws.take k).sum:=⟨_,rfl⟩
    rw [←hS] at hst hsn ⊢
    obtain ⟨y,hy⟩:∃ y,y=x / 2 ^ S:=⟨_,rfl⟩
    rw [←hy] at hsn ⊢
    have hy62:y < 2 ^ 62:=by rw [hy];exact Nat.lt_of_le_of_lt (Nat.div_le_self _ _) hx63
    have hmask:=mask_any u (by omega) wr
    obtain ⟨M,hM⟩:∃ M,M=2 ^ u - 1:=⟨_,rfl⟩
    rw [←hM] at hmask
    have hMlt:M < 2 ^ 62:=by have:2 ^ u≤2 ^ 62:=Nat.pow_le_pow_right (by decide) (by omega);have:0 < 2 ^ u:=Nat.two_pow_pos _;omega
    obtain ⟨z,hz⟩:∃ z,z=y%2 ^ u:=⟨_,rfl⟩
    have hand:bits .and .u64 (y:Int) (M:Int)=(z:Int):=by
     rw [and_u y M (by omega) (by omega),hM,Nat.and_two_pow_sub_one_eq_mod,hz]
    have hz62:z < 2 ^ 62:=by rw [hz];exact Nat.lt_of_le_of_lt (Nat.mod_le _ _) hy62
    have ez:IntKind.i64.wrap (z:Int)=(z:Int):=wrap_small _ (by omega) (by omega)
    rw [←hz] at hsn
    have e4:IntKind.u64.wrap (u:Int)=(u:Int):=wrapU _ (by omega)
    have e6:min u 64=u:=by omega
    obtain ⟨q,hq⟩:∃ q,q=y / 2 ^ u:=⟨_,rfl⟩
    have e5:(y:Int) / 2 ^ u=(q:Int):=by rw [hq];simp
    have hqn:x / 2 ^ (ws.take (k+1)).sum=q:=by rw [hst,Nat.pow_add,←Nat.div_div_eq_div_mul,←hy,hq]
    have hkI:(k:Int) < ws.length:=by omega
    have hkN:0≤(k:Int):=by omega
    have HSN:=ζh hsn
    have HM:=ζh hmask
    have HQ:=ζh hqn
    have hsz:=hmr.size
    clear hS hu hst hsn hy hy62 hM hmask hsle hs62 hlt hz hq hqn hMlt
    go_wp2_with fail
    refine HM.out.mono ?_
    rintro e w1 ⟨rfl,rfl⟩
    go_wp2_with (at_builtin;refine wpList_app rfl _ _ 30 rfl wo.heap.size 3 (.int .i64 0) 1 8 Tryz.underlying30 info_int rfl (by decide) (by decide) _ _ _ rfl (hown.alloc _) ⟨wr.heap.size,0,none⟩ 1 [.int .i64 z] rfl rfl (cell_one_new _ _ _) (by simp [Value.oneCell']) (by omega) (by simp;omega) ?_;intro g1 cap1 w3 o3 m3 hg3 hlt3)
    have o4:w3.ownsRow wo.heap.size 3 1 (.slice (some ⟨g1,0,none⟩) (k+1) cap1) (k+1) ((encN (unpackL (ws.take (k+1)) x)).map encI):=by
     rw [HSN.out];unfold encN;rw [List.map_append,List.map_append];exact o3
    have m4:Mod (fun _=>False) wo w3:=(hmr.alloc _).trans' m3 (fun q hq e=>by have:=ownsRow_ge hown q e.symm;omega)
    go_roundw
    case rel=>exact ⟨k+1,by omega,by go_num,by rw [HQ.out],o4,m4⟩
    case measure=>simp [intOf];omega
  · obtain rfl:k=ws.length:=by omega
    rw [List.take_length] at hown
    have hlu:(encN (unpackL ws x)).length=ws.length:=by simp [encN,unpackL_len]
    have hints:IntsAt wr _ _:=ints_of_row (xs:=encN (unpackL ws x)) (by rw [hlu];exact hown)
    obtain ⟨a2,c2,rfl⟩:=ownsRow_form hown
    clear hown hlu
    go_wp2_with fail
    go_ret2
    exact ⟨_,rfl,hmr,hints⟩
end Bit
end Go.Proofs.YtkfoeonggmlebaaGreatDoor
