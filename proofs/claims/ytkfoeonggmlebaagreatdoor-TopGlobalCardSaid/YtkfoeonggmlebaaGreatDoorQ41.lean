/-
  Contracts of the program's functions, and plain facts, towards the laws of millpondtop. No condition beyond those that each theorem bears.
-/
import Derived.Test.YtkfoeonggmlebaaGreatDoorQ15
import Derived.Test.YtkfoeonggmlebaaGreatDoorQ23
import Derived.Test.YtkfoeonggmlebaaGreatDoorQAA
set_option maxRecDepth 100000
set_option maxHeartbeats 4000000
namespace Go.Proofs.YtkfoeonggmlebaaGreatDoor
namespace Vic
open Go.Proofs.YtkfoeonggmlebaaGreatDoor.Tre
open Go.RowKit Go.ChangeShapes Go.WideShapes Go.ChangeAt
theorem prc_cells {w:World} {v:Value} {l:List Prc} (h:RowsAt ecP 3 w v l) :
 ∃ a cap,v=.slice a l.length cap∧l.length≤cap∧cap≤maxLen∧∀ (j:Nat) (x:Prc),l[j]?=some x→∃ b off,a=some ⟨b,off,none⟩ ∧
  w.cell? ⟨b,off+j * 3,none⟩=some (.int .i64 x.group)∧w.cell? ⟨b,off+j * 3+1,none⟩=some (.int .i64 x.size)∧w.cell? ⟨b,off+j * 3+2,none⟩=some (.bool x.live):=by
 obtain ⟨a,cap,h1,h2,h3,h4⟩:=h
 refine ⟨a,cap,h1,h2,h3,fun j x hj=>?_⟩
 obtain ⟨b,off,h5,h6⟩:=h4 j _ hj
 exact ⟨b,off,h5,by simpa [ecP] using h6 0 (by omega),by simpa [ecP] using h6 1 (by omega),by simpa [ecP] using h6 2 (by omega)⟩
theorem bool_cells {w:World} {v:Value} {l:List Bool} (h:RowsAt ecB 1 w v l) :
 ∃ a cap,v=.slice a l.length cap∧l.length≤cap∧cap≤maxLen∧∀ (j:Nat) (x:Bool),l[j]?=some x→∃ b off,a=some ⟨b,off,none⟩∧w.cell? ⟨b,off+j,none⟩=some (.bool x):=by
 obtain ⟨a,cap,h1,h2,h3,h4⟩:=h
 refine ⟨a,cap,h1,h2,h3,fun j x hj=>?_⟩
 obtain ⟨b,off,h5,h6⟩:=h4 j _ hj
 exact ⟨b,off,h5,by simpa [ecB] using h6 0 (by omega)⟩
theorem pick1_any (p:Prc) (m:Int) (ins:List Int) (iv:Value) (mb ib:Nat) (w:World) (hm:Blk w mb #[.int .i64 m] 3) (hib:Blk w ib #[iv] 30) (hi:IntsAt w iv ins) :
 Calls Tryz.prog 277 #[.agg #[.int .i64 p.group,.int .i64 p.size,.bool p.live],.pointer (some ⟨mb,0,none⟩),.pointer (some ⟨ib,0,none⟩)] w fun e w'=>e=.returned (.bool (okP ins m p))∧Mod (fun _=>False) w w':=by
 have c0:=hm.cell 0
 have c1:=hib.cell 0
 simp only [ζa,ζb] at c0 c1
 obtain ⟨r,hr⟩:∃ r,r=okP ins m p:=⟨_,rfl⟩
 rw [←hr]
 unfold okP at hr
 have hma:=Mod.alloc' (fun _=>False) w (.cells #[.int .i64 p.group,.int .i64 p.size,.bool p.live] 37)
 have hi2:=hi.keep hma (fun _ _ x=>x)
 have c2:=hma.keeps c0 (fun x=>x)
 have c3:=hma.keeps c1 (fun x=>x)
 cases hl:p.live with
 | false =>
   rw [hl] at hr
   obtain rfl:r=false:=hr
   clear hl
   go_enter Tryz.func277,Tryz.ntmps277
   go_wp2_with fail
   go_ret
   exact ⟨rfl,Mod.alloc' _ _ _⟩
 | true =>
   rw [hl] at hr hma hi2 c2 c3
   rw [Bool.true_and] at hr
   cases hd:decide (m < p.size) with
   | false =>
     rw [hd] at hr
     obtain rfl:r=false:=hr
     clear hl
     go_enter Tryz.func277,Tryz.ntmps277
     go_wp2_with fail
     go_ret
     exact ⟨rfl,Mod.alloc' _ _ _⟩
   | true =>
     rw [hd,Bool.true_and] at hr
     have HR:=ζh hr
     clear hl hr
     go_enter Tryz.func277,Tryz.ntmps277
     go_wp2_with fail
     refine (contains_any ins _ p.group _ hi2).mono ?_
     rw [←HR.out]
     rintro e w2 ⟨rfl,rfl⟩
     go_wp2_with fail
     go_ret
     exact ⟨rfl,hma⟩
theorem pick_any (ps:List Prc) (pv:Value) (ins:List Int) (iv:Value) (w:World) (hp:RowsAt ecP 3 w pv ps) (hi:IntsAt w iv ins) :
 Calls Tryz.prog 260 #[pv,iv] w fun e w'=>e=.returned (.int .i64 (pickK ps ins ps.length).1)∧Mod (fun _=>False) w w':=by
 obtain ⟨pa,pc,rfl,hcap,hmax,hcell⟩:=prc_cells hp
 unfold maxLen at hmax
 clear hp
 obtain ⟨ia,ic,rfl,_⟩:=id hi
 have HC:=ζh hcell
 have hok:=pick_ok ps ins
 have HK:=ζh hok
 clear hcell hok
 go_enter Tryz.func260,Tryz.ntmps260
 go_wp2_with fail
 have b1:=Blk.new w #[.slice ia ins.length ic] 30
 have m1:=Mod.alloc' (fun _=>False) w (.cells #[.slice ia ins.length ic] 30)
 obtain ⟨w1,hw1⟩:∃ w1,w1=w.alloc (.cells #[.slice ia ins.length ic] 30):=⟨_,rfl⟩
 have s1:w1.heap.size=w.heap.size+1:=by rw [hw1];simp
 rw [←hw1] at b1 m1 ⊢
 have b2:=Blk.new w1 #[.int .i64 0] 3
 have m2:=Mod.alloc' (fun _=>False) w1 (.cells #[.int .i64 0] 3)
 obtain ⟨w2,hw2⟩:∃ w2,w2=w1.alloc (.cells #[.int .i64 0] 3):=⟨_,rfl⟩
 have s2:w2.heap.size=w1.heap.size+1:=by rw [hw2];simp
 rw [s1] at b2
 rw [←hw2] at b2 m2 ⊢
 have b1':=b1.keep m2 (fun x=>x)
 have hm02:=m1.trans m2
 have hi2:=hi.keep hm02 (fun _ _ x=>x)
 have hil:=ζh hi
 have S1:=ζh s1
 have S2:=ζh s2
 clear hw1 hw2 m1 m2 b1 hi hi2 s1 s2
 go_loopw [5,13] (fun a i wr=>∃ k:Nat,k≤ps.length∧i=.int .i64 k∧a=.int .i64 (pickK ps ins k).1∧Blk wr (w.heap.size+1) #[.int .i64 (pickK ps ins k).2] 3∧Mod (fun i=>i=w.heap.size+1) w2 wr) (fun _ i _=>ps.length - (intOf i).toNat)
 case atStart=>exact ⟨0,by omega,rfl,rfl,b2,Mod.refl _ _⟩
 case round =>
  obtain ⟨k,hk,rfl,rfl,hB,hmr⟩:=hrel
  obtain ⟨wo,rfl⟩:∃ wo:World,wo=wr:=⟨_,rfl⟩
  by_cases hlt:k < ps.length
  · obtain ⟨p,hpk⟩:∃ p,ps[k]?=some p:=⟨_,ζg hlt⟩
    obtain ⟨ab,aoff,rfl,d0,d1,d2⟩:=HC.out k p hpk
    have hdl:=lt_of_cell d0
    have M:Mod (fun i=>w.heap.size≤i) w wo:=(hm02.mono (fun _ x=>x.elim)).trans (hmr.mono (fun i e=>by omega))
    have e0:=M.keeps d0 (by omega)
    have e1:=M.keeps d1 (by omega)
    have e2:=M.keeps d2 (by omega)
    have hsucc:=pickK_succ (ins:=ins) hpk
    unfold stepP at hsucc
    have hkI:(k:Int) < ps.length:=by omega
    have HSU:=ζh hsucc
    clear d0 d1 d2 hpk hsucc
    have hne:w.heap.size < w2.heap.size:=by have:=S1.out;have:=S2.out;omega
    have hI5:=(hil.out.keep M (fun b hb=>by omega)).keep (Mod.alloc' (fun _=>False) wo (.cells #[.int .i64 p.group,.int .i64 p.size,.bool p.live] 37)) (fun _ _ x=>x)
    have hib5:=(b1'.keep hmr (by omega)).alloc (.cells #[.int .i64 p.group,.int .i64 p.size,.bool p.live] 37)
    have hB5:=hB.alloc (.cells #[.int .i64 p.group,.int .i64 p.size,.bool p.live] 37)
    have hP5:=Blk.new wo #[.int .i64 p.group,.int .i64 p.size,.bool p.live] 37
    have m5:=Mod.alloc' (fun _=>False) wo (.cells #[.int .i64 p.group,.int .i64 p.size,.bool p.live] 37)
    go_wp2_with fail
    refine (pick1_any p _ ins _ _ _ _ hB5 hib5 hI5).mono ?_
    cases hokp:okP ins (pickK ps ins k).2 p with
    | false =>
      have hnext:pickK ps ins (k+1)=pickK ps ins k:=by rw [HSU.out,hokp];rfl
      rintro e w6 ⟨rfl,hm6⟩
      have hB6:=hB5.keep hm6 (fun x=>x)
      rw [←hnext] at hB6
      have HN:=ζh hnext
      clear hnext hokp
      go_wp2_with fail
      go_roundw
      case rel=>exact ⟨k+1,by omega,by go_num,by rw [HN.out],hB6,hmr.trans ((m5.trans hm6).mono (fun _ x=>x.elim))⟩
      case measure=>simp [intOf];omega
    | true =>
      have hnext:pickK ps ins (k+1)=((k:Int),p.size):=by rw [HSU.out,hokp];rfl
      rintro e w6 ⟨rfl,hm6⟩
      have hB6:=hB5.keep hm6 (fun x=>x)
      have hP6:=hP5.keep hm6 (fun x=>x)
      have z0:=hB6.cell 0
      have z1:=hP6.cell 1
      simp only [ζa,ζb,ζc] at z0 z1
      have zf:=hB6.frozen 0
      have hset:=hB6.set 0 (.int .i64 p.size)
      have hms:Mod (fun i=>i=w.heap.size+1) w6 (w6.setCell ⟨w.heap.size+1,0,none⟩ (.int .i64 p.size)):=mod_setCell _ _ _ _
      have HN:=ζh hnext
      clear hnext hokp
      go_wp2_with fail
      go_region
      go_wp2_with fail
      go_roundw
      case rel=>exact ⟨k+1,by omega,by go_num,by rw [HN.out],by rw [HN.out];exact hset,(hmr.trans ((m5.trans hm6).mono (fun _ x=>x.elim))).trans hms.drew⟩
      case measure=>simp [intOf];omega
  · obtain rfl:k=ps.length:=by omega
    go_wp2_with fail
    go_ret
    exact ⟨rfl,hm02.trans' hmr (fun i hi h=>by omega)⟩
end Vic

namespace Vic
open Go.Proofs.YtkfoeonggmlebaaGreatDoor.Tre
open Go.RowKit Go.ChangeShapes Go.WideShapes Go.ChangeAt
theorem indexL_range (ns:List Int) (n:Int):-1≤indexL ns n∧indexL ns n < ns.length:=by
 unfold indexL
 split
 next h =>
  have:=List.idxOf_lt_length_of_mem h
  omega
 next=>omega
theorem whole1_any (g:Int) (wh:List Bool) (wv:Value) (bb:Nat) (w:World) (hb:Blk w bb #[wv] 170) (h:RowsAt ecB 1 w wv wh) :
 Calls Tryz.prog 278 #[.int .i64 g,.pointer (some ⟨bb,0,none⟩)] w fun e w'=>e=.returned (.bool (isW wh g))∧w=w':=by
 obtain ⟨va,vc,rfl,hcap,hmax,hcell⟩:=bool_cells h
 unfold maxLen at hmax
 have c0:=hb.cell 0
 simp only [ζa,ζb] at c0
 clear h
 by_cases h0:0≤g
 · have d0:decide (0≤g)=true:=by simp [h0]
   by_cases h1:g < wh.length
   · have d1:decide (g < wh.length)=true:=by simp [h1]
     obtain ⟨k,rfl⟩:∃ k:Nat,g=k:=⟨g.toNat,by omega⟩
     obtain ⟨x,hx⟩:∃ x,wh[k]?=some x:=⟨_,ζg (by omega)⟩
     obtain ⟨b,off,rfl,c1⟩:=hcell k x hx
     have e:isW wh k=x:=by unfold isW;rw [d0,d1,Int.toNat_natCast,List.getD_eq_getElem?_getD,hx];rfl
     rw [e]
     have HC:=ζh hcell
     clear e hx hcell
     go_enter Tryz.func278,Tryz.ntmps278
     go_wp2_with fail
     go_ret
     exact ⟨rfl,rfl⟩
   · have d1:decide (g < wh.length)=false:=by simp;omega
     have e:isW wh g=false:=by unfold isW;rw [d0,d1];rfl
     rw [e]
     clear e hcell
     go_enter Tryz.func278,Tryz.ntmps278
     go_wp2_with fail
     go_ret
     exact ⟨rfl,rfl⟩
 · have d0:decide (0≤g)=false:=by simp;omega
   have e:isW wh g=false:=by unfold isW;rw [d0];rfl
   rw [e]
   clear e hcell
   go_enter Tryz.func278,Tryz.ntmps278
   go_wp2_with fail
   go_ret
   exact ⟨rfl,rfl⟩
theorem whole_any (cs:List Int) (cv:Value) (t:Int) (wh:List Bool) (wv:Value) (w:World) (hc:IntsAt w cv cs) (h:RowsAt ecB 1 w wv wh) :
 Calls Tryz.prog 261 #[cv,.int .i64 t,wv] w fun e w'=>e=.returned (.int .i64 (wholeL cs t wh))∧Mod (fun _=>False) w w':=by
 obtain ⟨ca,cc,rfl,hcap,hmax,_⟩:=id hc
 unfold maxLen at hmax
 obtain ⟨wa,wc,rfl,_⟩:=id h
 obtain ⟨r,hr⟩:∃ r,r=wholeL cs t wh:=⟨_,rfl⟩
 rw [←hr]
 obtain ⟨hi1,hi2⟩:=indexL_range cs t
 obtain ⟨E,hE⟩:∃ E:Nat,indexL cs t=(E:Int) - 1:=⟨(indexL cs t+1).toNat,by omega⟩
 have hr2:r=wholeD cs wh E:=by rw [hr];unfold wholeL;rw [hE];congr 1;omega
 have hEl:E≤cs.length:=by omega
 have HR:=ζh hr2
 have HH:=ζh h
 have HCS:=ζh hc
 have HE:=ζh hE
 clear hr hr2 hE hi1 hi2
 have hc2:=hc.keep (Mod.alloc' (fun _=>False) w (.cells #[.slice wa wh.length wc] 170)) (fun _ _ x=>x)
 have HC2:=ζh hc2
 clear hc2 h hc
 go_enter Tryz.func261,Tryz.ntmps261
 go_wp2_with fail
 refine (index_any cs _ t _ HC2.out).mono ?_
 rw [HE.out]
 rintro e w2 ⟨rfl,rfl⟩
 have b1:=Blk.new w #[.slice wa wh.length wc] 170
 have m1:=Mod.alloc' (fun _=>False) w (.cells #[.slice wa wh.length wc] 170)
 go_wp2_with fail
 go_loopw [9] (fun i wr=>∃ k:Nat,k≤E∧i=.int .i64 ((k:Int) - 1)∧Hid (r=wholeD cs wh k)∧Mod (fun _=>False) (w.alloc (.cells #[.slice wa wh.length wc] 170)) wr) (fun i _=>(intOf i+1).toNat)
 case atStart=>exact ⟨E,Nat.le_refl _,rfl,HR,Mod.refl _ _⟩
 case round =>
  obtain ⟨k,hk,rfl,hrk,hmr⟩:=hrel
  cases k with
  | zero =>
    obtain rfl:r=-1:=hrk.out
    have d0:decide (0≤((0:Nat):Int) - 1)=false:=by decide
    go_wp2_with fail
    go_ret
    exact ⟨rfl,m1.trans hmr⟩
  | succ k =>
    have e1:((k+1:Nat):Int) - 1=k:=by omega
    rw [e1]
    obtain ⟨g,hg⟩:∃ g,cs[k]?=some g:=⟨_,ζg (by omega)⟩
    obtain ⟨b,off,rfl,c0'⟩:=intsAt_get HC2.out hg
    have c0:=hmr.keeps c0' (fun x=>x)
    have hs:=wholeD_succ (wh:=wh) hg
    have hkI:(k:Int) < cs.length:=by omega
    have hkN:0≤(k:Int):=by omega
    have HSU:=ζh hs
    clear e1 hs hg c0'
    obtain ⟨wo,rfl⟩:∃ wo:World,wo=wr:=⟨_,rfl⟩
    go_wp2_with fail
    refine (whole1_any g wh _ _ _ (b1.keep hmr (fun x=>x)) (HH.out.keep (fun _=>rfl) (m1.trans hmr) (fun _ _ x=>x))).mono ?_
    cases hw:isW wh g with
    | true =>
      obtain rfl:r=g:=by rw [hrk.out,HSU.out,hw];rfl
      clear hw
      rintro e w3 ⟨rfl,rfl⟩
      go_wp2_with fail
      go_ret
      exact ⟨rfl,m1.trans hmr⟩
    | false =>
      have hn:r=wholeD cs wh k:=by rw [hrk.out,HSU.out,hw];rfl
      have HN:=ζh hn
      clear hw hn
      rintro e w3 ⟨rfl,rfl⟩
      go_wp2_with fail
      go_roundw
      case rel=>exact ⟨k,by omega,by go_num,HN,hmr⟩
      case measure=>simp [intOf]
end Vic

namespace Vic
open Go.Proofs.YtkfoeonggmlebaaGreatDoor.Tre
open Go.RowKit Go.ChangeShapes Go.WideShapes Go.ChangeAt
theorem vicL_cases {L:List Grp} {ps:List Prc} {t:Int}:(vicL L ps t < 0∧vicL L ps t=-1)∨∃ (j:Nat) (p:Prc),vicL L ps t=j∧j < ps.length∧ps[j]?=some p∧p.live=true∧p.group∈belowL L t:=by
 unfold vicL
 rcases pick_ok ps (belowL L t) ps.length with ⟨h1,_⟩ | ⟨j,p,h1,h2,h3,h4,h5,_⟩
 · left;rw [h1];exact ⟨by decide,rfl⟩
 · exact .inr ⟨j,p,h1,h2,h3,h4,h5⟩
theorem row_one (w:World) (x:Int) (base:Nat) (hb:base≤w.heap.size):(w.alloc (.cells #[.int .i64 x] 3)).ownsRow base 3 1 (.slice (some ⟨w.heap.size,0,none⟩) 1 1) 1 [.int .i64 x] :=
 ⟨rfl,.inr ⟨_,1,#[.int .i64 x],rfl,hb,Blk.new w _ _,by omega,by simp [maxLen],rfl,rfl⟩⟩
theorem ownDoomed_any (b g c:Nat) (L:List Grp) (ps:List Prc) (pv:Value) (t:Int) (wh:List Bool) (wv:Value) (w:World) (h:TreeAt w b g c L) (hp:RowsAt ecP 3 w pv ps) (hw:RowsAt ecB 1 w wv wh) (hl:ps.length≤1000) :
 Calls Tryz.prog 231 #[.pointer (some ⟨b,0,none⟩),pv,.int .i64 t,wv] w fun e w'=>∃ v,e=.returned v∧Mod (fun _=>False) w w'∧w'.ownsRow w.heap.size 3 1 v (doomL L ps t wh).length ((doomL L ps t wh).map encI):=by
 obtain ⟨pa,pc,rfl,hcap,hmax,hcell⟩:=prc_cells hp
 unfold maxLen at hmax
 obtain ⟨wa,wc,rfl,_⟩:=id hw
 have HC:=ζh hcell
 have HP:=ζh hp
 have HW:=ζh hw
 clear hcell hp hw
 obtain ⟨r,hr⟩:∃ r,r=doomL L ps t wh:=⟨_,rfl⟩
 rw [←hr]
 unfold doomL at hr
 have HR:=ζh hr
 clear hr
 go_enter Tryz.func231,Tryz.ntmps231
 go_wp2_with fail
 refine (below_any b g c L t _ h).mono ?_
 rintro e w1 ⟨v1,rfl,hm1,hi1⟩
 obtain ⟨a1,k1,rfl,_⟩:=id hi1
 have hT1:=h.keepN hm1
 go_wp2_with fail
 refine (pick_any ps _ (belowL L t) _ _ (HP.out.keep ecP_len hm1 (fun _ _ x=>x)) hi1).mono ?_
 rw [show (pickK ps (belowL L t) ps.length).1=vicL L ps t from rfl]
 rintro e w2 ⟨rfl,hm2⟩
 have hT2:=hT1.keepN hm2
 have hm02:=hm1.trans hm2
 clear hi1
 rcases vicL_cases (L:=L) (ps:=ps) (t:=t) with ⟨hneg,hv⟩ | ⟨j,p,hv,hj,hpj,hpl,hpg⟩
 · have hr:=HR.out
   rw [if_pos hneg] at hr
   subst hr
   rw [hv]
   have d0:decide ((-1:Int) < 0)=true:=rfl
   clear hneg hv HR
   go_wp2_with fail
   go_ret
   exact ⟨_,rfl,hm02,rfl,.inl ⟨rfl,rfl⟩⟩
 · have hr:=HR.out
   unfold atOnce at hr
   rw [hv,if_neg (by omega),grpOf_at hpj] at hr
   rw [hv]
   have d0:decide ((j:Int) < 0)=false:=by simp
   obtain ⟨ab,aoff,rfl,q0',q1',q2'⟩:=HC.out j p hpj
   have q0:=hm02.keeps q0' (fun x=>x)
   have hjI:(j:Int) < ps.length:=by omega
   have hjN:0≤(j:Int):=by omega
   have HR2:=ζh hr
   clear HR hr hv hpj hpl hpg q0' q1' q2'
   go_wp2_with fail
   refine (chain_any b g c L p.group _ hT2).mono ?_
   rintro e w3 ⟨v3,rfl,hm3,hi3⟩
   obtain ⟨a3,k3,rfl,_⟩:=id hi3
   have hT3:=hT2.keepN hm3
   have hm03:=hm02.trans hm3
   go_wp2_with fail
   refine (whole_any (chainL L p.group) _ t wh _ _ hi3 (HW.out.keep (fun _=>rfl) hm03 (fun _ _ x=>x))).mono ?_
   obtain ⟨W,hW⟩:∃ W,W=wholeL (chainL L p.group) t wh:=⟨_,rfl⟩
   rw [←hW]
   have hr:=HR2.out
   rw [←hW] at hr
   clear hW hi3 HR2
   rintro e w4 ⟨rfl,hm4⟩
   have hT4:=hT3.keepN hm4
   have hm04:=hm03.trans hm4
   by_cases hWn:W < 0
   · rw [if_pos hWn] at hr
     subst hr
     have d1:decide (W < 0)=true:=by simp [hWn]
     clear hWn
     go_wp2_with fail
     go_ret
     exact ⟨_,rfl,hm04.alloc _,row_one _ _ _ hm04.size⟩
   · rw [if_neg hWn] at hr
     have d1:decide (W < 0)=false:=by simp;omega
     have HR3:=ζh hr
     clear hWn hr
     go_wp2_with fail
     refine (below_any b g c L W _ hT4).mono ?_
     rintro e w5 ⟨v5,rfl,hm5,hi5⟩
     obtain ⟨a5,k5,rfl,_⟩:=id hi5
     have hm05:=hm04.trans hm5
     clear d0 d1 q0
     go_wp2_with fail
     go_loopw [12,41] (fun v i wr=>∃ k:Nat,k≤ps.length∧i=.int .i64 k∧wr.ownsRow w5.heap.size 3 1 v (doomK ps (belowL L W) k).length ((doomK ps (belowL L W) k).map encI)∧Mod (fun _=>False) w5 wr) (fun _ i _=>ps.length - (intOf i).toNat)
     case atStart=>exact ⟨0,by omega,rfl,⟨rfl,.inl ⟨rfl,rfl⟩⟩,Mod.refl _ _⟩
     case round =>
      obtain ⟨k,hk,rfl,hown,hmr⟩:=hrel
      obtain ⟨wo,rfl⟩:∃ wo:World,wo=wr:=⟨_,rfl⟩
      by_cases hlt:k < ps.length
      · obtain ⟨p2,hpk⟩:∃ p2,ps[k]?=some p2:=⟨_,ζg hlt⟩
        obtain ⟨_,_,eq3,f0,f1,f2⟩:=HC.out k p2 hpk
        injection eq3 with eq3
        injection eq3 with eq3 eq4
        subst eq3 eq4
        have M:=hm05.trans hmr
        have e0:=M.keeps f0 (fun x=>x)
        have e1:=M.keeps f1 (fun x=>x)
        have e2:=M.keeps f2 (fun x=>x)
        have hsucc:=doomK_succ (ins:=belowL L W) hpk
        have hkle:=doomK_le ps (belowL L W) k
        have hkI:(k:Int) < ps.length:=by omega
        have hsm:=hmr.size
        have hma:=Mod.alloc' (fun _=>False) wo (.cells #[.int .i64 p2.group,.int .i64 p2.size,.bool p2.live] 37)
        have hi6:=(hi5.keep hmr (fun _ _ x=>x)).keep hma (fun _ _ x=>x)
        have HI6:=ζh hi6
        have HI5:=ζh hi5
        clear f0 f1 f2 hpk hi6 hi5
        cases hl2:p2.live with
        | false =>
          rw [hl2] at hsucc hma e2
          rw [Bool.false_and,if_neg (by decide)] at hsucc
          rw [←hsucc] at hown
          clear hsucc hl2
          go_wp2_with fail
          go_roundw
          case rel=>exact ⟨k+1,by omega,by go_num,ownsRow_keep hown hma (fun _ _ x=>x),hmr.trans hma⟩
          case measure=>simp [intOf];omega
        | true =>
          rw [hl2] at hsucc hma e2 HI6
          rw [Bool.true_and] at hsucc
          have HS:=ζh hsucc
          clear hsucc hl2
          go_wp2_with fail
          refine (contains_any (belowL L W) _ p2.group _ HI6.out).mono ?_
          cases hin:decide (p2.group∈belowL L W) with
          | false =>
            have hnext:doomK ps (belowL L W) (k+1)=doomK ps (belowL L W) k:=by rw [HS.out,hin];simp
            rw [←hnext] at hown
            clear hnext hin
            rintro e w6 ⟨rfl,rfl⟩
            go_wp2_with fail
            go_roundw
            case rel=>exact ⟨k+1,by omega,by go_num,ownsRow_keep hown hma (fun _ _ x=>x),hmr.trans hma⟩
            case measure=>simp [intOf];omega
          | true =>
            have hnext:doomK ps (belowL L W) (k+1)=doomK ps (belowL L W) k++[(k:Int)]:=by rw [HS.out,hin];simp
            have HN:=ζh hnext
            clear hnext hin
            rintro e w6 ⟨rfl,rfl⟩
            have hown2:=ownsRow_keep hown hma (fun _ _ x=>x)
            have hsz:=hma.size
            obtain ⟨w6,hw6⟩:∃ w6,w6=wo.alloc (.cells #[.int .i64 p2.group,.int .i64 p2.size,.bool true] 37):=⟨_,rfl⟩
            rw [←hw6] at hown2 hma hsz ⊢
            clear hw6
            go_wp2_with (at_builtin;refine wpList_app rfl _ _ 30 rfl w5.heap.size 3 (.int .i64 0) 1 8 Tryz.underlying30 info_int rfl (by decide) (by decide) _ _ _ rfl (hown2.alloc _) ⟨w6.heap.size,0,none⟩ 1 [.int .i64 k] rfl rfl (cell_one_new _ _ _) (by simp [Value.oneCell']) (by omega) (by simp;omega) ?_;intro g1 cap1 w7 o3 m3 hg3 hlt3)
            have o4:w7.ownsRow w5.heap.size 3 1 (.slice (some ⟨g1,0,none⟩) ((doomK ps (belowL L W) k).length+1) cap1) (doomK ps (belowL L W) (k+1)).length ((doomK ps (belowL L W) (k+1)).map encI):=by
             rw [HN.out,List.map_append,List.length_append];exact o3
            have m4:Mod (fun _=>False) w5 w7:=((hmr.trans hma).alloc _).trans' m3 (fun q hq e=>by have:=ownsRow_ge hown q e.symm;omega)
            go_roundw
            case rel=>exact ⟨k+1,by omega,by go_num,o4,m4⟩
            case measure=>simp [intOf];omega
      · obtain rfl:k=ps.length:=by omega
        obtain ⟨a,c',rfl⟩:=ownsRow_form hown
        go_wp2_with fail
        go_ret
        rw [HR3.out]
        exact ⟨_,rfl,hm05.trans hmr,ownsRow_base hown hm05.size⟩
end Vic
end Go.Proofs.YtkfoeonggmlebaaGreatDoor
