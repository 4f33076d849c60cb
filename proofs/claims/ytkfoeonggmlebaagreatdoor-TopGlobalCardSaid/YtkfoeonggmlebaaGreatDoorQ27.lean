/-
  Contracts of the program's functions, and plain facts, towards the laws of millpondtop. No condition beyond those that each theorem bears.
-/
import Derived.Deep.RegionHeld3
import Derived.Test.YtkfoeonggmlebaaGreatDoorQ24
import Derived.Test.YtkfoeonggmlebaaGreatDoorQ26
import Derived.Test.YtkfoeonggmlebaaGreatDoorQAA
set_option maxRecDepth 100000
set_option maxHeartbeats 4000000
namespace Go.Proofs.YtkfoeonggmlebaaGreatDoor
namespace Pro
open Go.RowKit Go.Shelf
attribute [local go_sem] Oper.semAt_some
def rightN (l:List Nd) (n:Nat) (t:Int):Bool:=validN l&&decide (n=l.length)&&decide (0≤t)&&decide (t < l.length)
theorem prright_any (l:List Nd) (v:Value) (ea:Option Addr) (n ec:Nat) (t:Int) (w:World) (h:RowsAt ecNd 3 w v l) :
 Calls Tryz.prog 209 #[v,.slice ea n ec,.int .i64 t] w fun e w'=>e=.returned (.bool (rightN l n t))∧Mod (fun _=>False) w w':=by
 obtain ⟨a,c,rfl,hcap,hmax⟩:=rows_form h
 unfold maxLen at hmax
 have hv:=prvalid_any l _ w h
 obtain ⟨r,hr⟩:∃ r,r=rightN l n t:=⟨_,rfl⟩
 rw [←hr]
 unfold rightN at hr
 have HR:=ζh hr
 clear hr h
 cases hva:validN l with
 | false =>
   rw [hva] at hv
   obtain rfl:r=false:=by rw [HR.out,hva];rfl
   have HV:=ζh hv
   clear hva hv
   go_enter Tryz.func209,Tryz.ntmps209
   go_wp2_with fail
   refine HV.out.mono ?_
   rintro e w1 ⟨rfl,hm⟩
   go_wp2_with fail
   go_ret
   exact ⟨rfl,hm⟩
 | true =>
   rw [hva] at hv
   have HV:=ζh hv
   clear hv
   by_cases h1:n=l.length
   · by_cases h2:0≤t
     · by_cases h3:t < l.length
       · obtain rfl:r=true:=by rw [HR.out,hva];simp [h1,h2,h3]
         clear hva HR
         go_enter Tryz.func209,Tryz.ntmps209
         go_wp2_with fail
         refine HV.out.mono ?_
         rintro e w1 ⟨rfl,hm⟩
         go_wp2_with fail
         go_ret
         refine ⟨?_,hm⟩
         first | rfl | simp [h1,h2,h3]
       · obtain rfl:r=false:=by rw [HR.out,hva];simp [h1,h2,h3]
         clear hva HR
         go_enter Tryz.func209,Tryz.ntmps209
         go_wp2_with fail
         refine HV.out.mono ?_
         rintro e w1 ⟨rfl,hm⟩
         go_wp2_with fail
         go_ret
         refine ⟨?_,hm⟩
         first | rfl | simp [h1,h2,h3]
     · obtain rfl:r=false:=by rw [HR.out,hva];simp [h1,h2]
       clear hva HR
       go_enter Tryz.func209,Tryz.ntmps209
       go_wp2_with fail
       refine HV.out.mono ?_
       rintro e w1 ⟨rfl,hm⟩
       go_wp2_with fail
       go_ret
       refine ⟨?_,hm⟩
       first | rfl | simp [h1,h2]
   · obtain rfl:r=false:=by rw [HR.out,hva];simp [h1]
     clear hva HR
     go_enter Tryz.func209,Tryz.ntmps209
     go_wp2_with fail
     refine HV.out.mono ?_
     rintro e w1 ⟨rfl,hm⟩
     go_wp2_with fail
     go_ret
     refine ⟨?_,hm⟩
     first | rfl | simp [h1]
theorem heldN_eq (l:List Nd) (eff:List Int) (t g:Int):heldN l eff t g=(rightN l eff.length t&&decide (0≤g)&&decide (g < l.length)&&belowN l g t&&(upsN l g t).any fun x=>decide ((nd l x).use≤eff.getD x.toNat 0)):=rfl
theorem prheld_any (l:List Nd) (v:Value) (eff:List Int) (ev:Value) (t g:Int) (w:World) (h:RowsAt ecNd 3 w v l) (he:IntsAt w ev eff) :
 Calls Tryz.prog 160 #[v,ev,.int .i64 t,.int .i64 g] w fun e w'=>e=.returned (.bool (heldN l eff t g))∧Mod (fun _=>False) w w':=by
 obtain ⟨a,c,rfl,hcap,hmax⟩:=rows_form h
 obtain ⟨ea,ec,rfl⟩:=ints_form he
 unfold maxLen at hmax
 obtain ⟨R,hRR⟩:∃ R,R=heldN l eff t g:=⟨_,rfl⟩
 rw [←hRR]
 rw [heldN_eq] at hRR
 have HRR:=ζh hRR
 obtain ⟨r,hr⟩:∃ r,r=w.heap.size:=⟨_,rfl⟩
 obtain ⟨wc,hwc⟩:∃ wc,wc=((w.alloc (.cells #[.slice a l.length c] 235)).alloc (.cells #[.slice ea eff.length ec] 30)).alloc (.cells #[.bool false] 4):=⟨_,rfl⟩
 have m03:Mod (fun _=>False) w wc:=by rw [hwc];exact ((Mod.alloc' _ _ _).alloc _).alloc _
 have sc:wc.heap.size=w.heap.size+3:=by rw [hwc];simp
 have c0:Blk wc r #[.slice a l.length c] 235:=by
  rw [hwc,hr];exact ((Blk.new w _ _).alloc _).alloc _
 have c1:Blk wc (r+1) #[.slice ea eff.length ec] 30:=by
  have b:=Blk.new (w.alloc (.cells #[.slice a l.length c] 235)) #[.slice ea eff.length ec] 30
  rw [World.size_alloc] at b
  rw [hwc,hr];exact b.alloc _
 have c2:Blk wc (r+2) #[.bool false] 4:=by
  have b:=Blk.new ((w.alloc (.cells #[.slice a l.length c] 235)).alloc (.cells #[.slice ea eff.length ec] 30)) #[.bool false] 4
  rw [World.size_alloc,World.size_alloc] at b
  rw [hwc,hr];exact b
 have hRc:=h.keep ecNd_len m03 (fun _ _ x=>x)
 have hEc:=he.keep m03 (fun _ _ x=>x)
 have hright:=prright_any l _ ea eff.length ec t wc hRc
 have H03:=ζh m03
 have HR:=ζh hr
 have HSC:=ζh sc
 have HH:=ζh h
 have HE:=ζh he
 refine (callsIn_wide (n:=0)).1 ?_
 refine callsIn_of_wp_marks Tryz.func160 rfl trivial ?_ rfl
 simp only [Tryz.ntmps160,List.size_toArray,List.length_cons,List.length_nil,Nat.reduceAdd,Nat.reduceSub,Array.replicate_succ,Array.replicate_zero,List.push_toArray,List.append_toArray,List.nil_append,List.cons_append]
 obtain ⟨WX,hWX⟩:∃ WX,WX=wc:=⟨_,rfl⟩
 have c0':Blk wc w.heap.size #[.slice a l.length c] 235:=by rw [←hr];exact c0
 have c1':Blk wc (w.heap.size+1) #[.slice ea eff.length ec] 30:=by rw [←hr];exact c1
 have c2':Blk wc (w.heap.size+1+1) #[.bool false] 4:=by rw [←hr];exact c2
 have hRW:=ζh hRc
 have hEW:=ζh hEc
 rw [hwc] at hright c0' c1' c2' hRW hEW H03
 have B0:=ζh c0'
 have B1:=ζh c1'
 have B2:=ζh c2'
 cases hri:rightN l eff.length t with
 | false =>
   rw [hri] at hright hRR
   obtain rfl:R=false:=hRR
   have HRI:=ζh hright
   clear hright hri m03 hr sc h he hRc hEc c0 c1 c2 hwc HRR c0' c1' c2' hWX
   gi_wp2_with (refine ⟨trivial,rfl,?_⟩;gi_at_call 209;refine (callsIn_wide.2 HRI.out).mono ?_;rintro e w1 ⟨rfl,hm⟩;have q2:=B2.out.keep hm (fun x=>x);have q20:=q2.cell 0;have q21:=(B1.out.keep hm (fun x=>x)).cell 0;have q22:=(B0.out.keep hm (fun x=>x)).cell 0;simp only [ζa,ζb] at q20 q21 q22;have q2f:=q2.frozen 0)
   refine ⟨trivial,?_⟩
   gi_wp2
   have hs:=(q2.set 0 (.bool false)).cell 0
   exact ⟨_,res_bool rfl rfl hs,rfl,(H03.out.trans hm).trans' (mod_setCell _ _ _ _) (fun i hi e=>by omega)⟩
 | true =>
   rw [hri] at hright hRR
   rw [Bool.true_and] at hRR
   have HRI:=ζh hright
   have hva:validN l=true∧0≤t∧t < l.length:=by
    unfold rightN at hri
    simp only [Bool.and_eq_true,decide_eq_true_eq] at hri
    exact ⟨hri.1.1.1,hri.1.2,hri.2⟩
   have hel:eff.length=l.length:=by
    unfold rightN at hri
    simp only [Bool.and_eq_true,decide_eq_true_eq] at hri
    exact hri.1.1.2
   have HVA:=ζh hva.1
   have HT:=ζh hva.2.1
   have HEL:=ζh hel
   have HRR2:=ζh hRR
   clear hright hri m03 hr sc h he hRc hEc c0 c1 c2 hwc HRR c0' c1' c2' hWX hva hel hRR
   by_cases hg0:g < 0
   · have d0:decide (g < 0)=true:=decide_eq_true hg0
     obtain rfl:R=false:=by rw [HRR2.out,show decide (0≤g)=false from decide_eq_false (by omega)];simp
     clear hg0 HRR2
     gi_wp2_with (refine ⟨trivial,rfl,?_⟩;gi_at_call 209;refine (callsIn_wide.2 HRI.out).mono ?_;rintro e w1 ⟨rfl,hm⟩;have q2:=B2.out.keep hm (fun x=>x);have q20:=q2.cell 0;have q21:=(B1.out.keep hm (fun x=>x)).cell 0;have q22:=(B0.out.keep hm (fun x=>x)).cell 0;simp only [ζa,ζb] at q20 q21 q22;have q2f:=q2.frozen 0)
     refine ⟨trivial,?_⟩
     gi_wp2
     have hs:=(q2.set 0 (.bool false)).cell 0
     exact ⟨_,res_bool rfl rfl hs,rfl,(H03.out.trans hm).trans' (mod_setCell _ _ _ _) (fun i hi e=>by omega)⟩
   · have d0:decide (g < 0)=false:=decide_eq_false hg0
     by_cases hg1:(l.length:Int)≤g
     · have d1:decide ((l.length:Int)≤g)=true:=decide_eq_true hg1
       obtain rfl:R=false:=by rw [HRR2.out,show decide (g < (l.length:Int))=false from decide_eq_false (by omega)];simp
       clear hg0 hg1 HRR2
       gi_wp2_with (refine ⟨trivial,rfl,?_⟩;gi_at_call 209;refine (callsIn_wide.2 HRI.out).mono ?_;rintro e w1 ⟨rfl,hm⟩;have q2:=B2.out.keep hm (fun x=>x);have q20:=q2.cell 0;have q21:=(B1.out.keep hm (fun x=>x)).cell 0;have q22:=(B0.out.keep hm (fun x=>x)).cell 0;simp only [ζa,ζb] at q20 q21 q22;have q2f:=q2.frozen 0)
       refine ⟨trivial,?_⟩
       gi_wp2
       have hs:=(q2.set 0 (.bool false)).cell 0
       exact ⟨_,res_bool rfl rfl hs,rfl,(H03.out.trans hm).trans' (mod_setCell _ _ _ _) (fun i hi e=>by omega)⟩
     · have d1:decide ((l.length:Int)≤g)=false:=decide_eq_false hg1
       have HG:=ζh (show -1≤g∧g < l.length by omega)
       cases hbl:belowN l g t with
       | false =>
         obtain rfl:R=false:=by rw [HRR2.out,hbl];simp
         have HBL:=ζh hbl
         clear hg0 hg1 HRR2 hbl
         gi_wp2_with (first | (refine ⟨trivial,rfl,?_⟩;gi_at_call 209;refine (callsIn_wide.2 HRI.out).mono ?_;rintro e w1 ⟨rfl,hm⟩;have q2:=B2.out.keep hm (fun x=>x);have q20:=q2.cell 0;have q21:=(B1.out.keep hm (fun x=>x)).cell 0;have q22:=(B0.out.keep hm (fun x=>x)).cell 0;simp only [ζa,ζb] at q20 q21 q22;have q2f:=q2.frozen 0) | (refine ⟨trivial,rfl,?_⟩;gi_at_call 207;refine (callsIn_wide.2 (prbelow_any l HVA.out _ g t w1 (hRW.out.keep ecNd_len hm (fun _ _ x=>x)) HG.out HT.out)).mono ?_;rw [HBL.out];rintro e w2 ⟨rfl,hm2⟩;have p2:=q2.keep hm2 (fun x=>x);have p20:=p2.cell 0;have p21:=hm2.keeps q21 (fun x=>x);have p22:=hm2.keeps q22 (fun x=>x);simp only [ζa,ζb] at p20;have p2f:=p2.frozen 0))
         have hs:=(p2.set 0 (.bool false)).cell 0
         exact ⟨_,res_bool rfl rfl hs,rfl,((H03.out.trans hm).trans hm2).trans' (mod_setCell _ _ _ _) (fun i hi e=>by omega)⟩
       | true =>
         have hR2:R=(upsN l g t).any fun x=>decide ((nd l x).use≤eff.getD x.toNat 0):=by
          rw [HRR2.out,hbl,show decide (0≤g)=true from decide_eq_true (by omega),show decide (g < (l.length:Int))=true from decide_eq_true (by omega)];simp
         have HR2:=ζh hR2
         have HBL:=ζh hbl
         clear hg0 hg1 HRR2 hbl hR2
         gi_wp2_with (first | (refine ⟨trivial,rfl,?_⟩;gi_at_call 209;refine (callsIn_wide.2 HRI.out).mono ?_;rintro e w1 ⟨rfl,hm⟩;have q2:=B2.out.keep hm (fun x=>x);have q20:=q2.cell 0;have q21:=(B1.out.keep hm (fun x=>x)).cell 0;have q22:=(B0.out.keep hm (fun x=>x)).cell 0;simp only [ζa,ζb] at q20 q21 q22;have q2f:=q2.frozen 0) | (refine ⟨trivial,rfl,?_⟩;gi_at_call 207;refine (callsIn_wide.2 (prbelow_any l HVA.out _ g t w1 (hRW.out.keep ecNd_len hm (fun _ _ x=>x)) HG.out HT.out)).mono ?_;rw [HBL.out];rintro e w2 ⟨rfl,hm2⟩;have p2:=q2.keep hm2 (fun x=>x);have p20:=p2.cell 0;have p21:=hm2.keeps q21 (fun x=>x);have p22:=hm2.keeps q22 (fun x=>x);simp only [ζa,ζb] at p20;have p2f:=p2.frozen 0) | (refine ⟨trivial,rfl,?_⟩;gi_at_call 210;refine (callsIn_wide.2 (prup_any a l.length c g t _)).mono ?_;rintro e w3 ⟨rfl,rfl⟩))
         have hne:∀ b off,0 < l.length→a=some ⟨b,off,none⟩→b < w.heap.size:=by
          intro b off hl0 e
          obtain ⟨b',off',e',hc,_⟩:=nd_cells HH.out (j:=0) (x:=l[0]) (ζg (by omega))
          rw [e] at e'
          injection e' with e'
          injection e' with e' _ _
          rw [e'];exact lt_of_cell hc
         have hnu:∀ (k:Nat) (x:Nd),l[k]?=some x→∃ b off,a=some ⟨b,off,none⟩∧b < w.heap.size∧w.cell? ⟨b,off+k * 3+1,none⟩=some (.int .i64 x.use):=by
          intro k x hx
          obtain ⟨b,off,e,_,hc,_⟩:=nd_cells HH.out hx
          exact ⟨b,off,e,lt_of_cell hc,hc⟩
         have hne2:∀ (k:Nat) (x:Int),eff[k]?=some x→∃ b off,ea=some ⟨b,off,none⟩∧b < w.heap.size∧w.cell? ⟨b,off+k,none⟩=some (.int .i64 x):=by
          intro k x hx
          obtain ⟨b,off,e,hc⟩:=ints_at HE.out hx
          exact ⟨b,off,e,lt_of_cell hc,hc⟩
         have sz:w.heap.size+3≤w2.heap.size:=by have h1:=H03.out.size;have:=hm.size;have:=hm2.size;simp at *;omega
         have M02:=(H03.out.trans hm).trans hm2
         have hR2:=HH.out.keep ecNd_len M02 (fun _ _ x=>x)
         obtain ⟨B,hB⟩:∃ B,B=w2.heap.size:=⟨_,rfl⟩
         have e1:=Blk.new w2 #[.slice a l.length c] 235
         obtain ⟨w3,hw3⟩:∃ w3,w3=w2.alloc (.cells #[.slice a l.length c] 235):=⟨_,rfl⟩
         have n1:Mod (fun _=>False) w2 w3:=by rw [hw3];exact Mod.alloc' _ _ _
         have s3:w3.heap.size=w2.heap.size+1:=by rw [hw3];simp
         rw [←hw3] at e1 ⊢
         have e2:=Blk.new w3 #[.int .i64 g] 3
         obtain ⟨w4,hw4⟩:∃ w4,w4=w3.alloc (.cells #[.int .i64 g] 3):=⟨_,rfl⟩
         have n2:Mod (fun _=>False) w3 w4:=by rw [hw4];exact Mod.alloc' _ _ _
         have s4:w4.heap.size=w3.heap.size+1:=by rw [hw4];simp
         rw [←hw4] at e2 ⊢
         have e3:=Blk.new w4 #[.int .i64 t] 3
         obtain ⟨wd,hwd⟩:∃ wd,wd=w4.alloc (.cells #[.int .i64 t] 3):=⟨_,rfl⟩
         have n3:Mod (fun _=>False) w4 wd:=by rw [hwd];exact Mod.alloc' _ _ _
         have s5:wd.heap.size=w4.heap.size+1:=by rw [hwd];simp
         rw [←hwd] at e3 ⊢
         rw [s3] at e2
         rw [show w4.heap.size=w2.heap.size+2 by omega] at e3
         have N:=(n1.trans n2).trans n3
         have f1:=e1.keep (n2.trans n3) (fun x=>x)
         have f2:=e2.keep n3 (fun x=>x)
         have M0d:=M02.trans N
         have hRd:=hR2.keep ecNd_len N (fun _ _ x=>x)
         have hseq:=upx_seq l HVA.out a c g t w2.heap.size (w2.heap.size+1) (w2.heap.size+2) (fun i=>wd.heap.size≤i) wd hRd HG.out HT.out f1 f2 e3 (by omega) (fun b off h0 e=>by have:=hne b off h0 e;omega) (fun x hx=>hx)
         have hmem:=upsN_mem HVA.out HT.out (g+1).toNat g (Nat.le_refl _) HG.out
         have hpos:∀ x∈upsN l g t,0≤x:=by
          have:=HBL.out
          unfold belowN at this
          rw [List.all_eq_true] at this
          intro x hx
          have:=this x hx
          simpa using this
         obtain ⟨xs,hxs⟩:∃ xs,xs=upsN l g t:=⟨_,rfl⟩
         have hR3:=HR2.out
         rw [←hxs] at hseq hmem hpos hR3
         have r0:=p2.keep N (fun x=>x)
         have r1:=N.keeps p21 (fun x=>x)
         have r2:=N.keeps p22 (fun x=>x)
         have SZ:=ζh (show w.heap.size+3≤w2.heap.size∧wd.heap.size=w2.heap.size+3 by omega)
         have HR3:=ζh hR3
         have HM:=ζh hmem
         have HP:=ζh hpos
         have HNU:=ζh hnu
         have HNE:=ζh hne2
         have HMD:=ζh M0d
         clear H03 B0 B1 B2 HRI hRW hEW HH HE HR2 HR HSC
         clear hw3 hw4 hwd n1 n2 n3 s3 s4 s5 e1 e2 e3 f1 f2 N hRd hR2 M02 hnu hne hne2 hmem hpos hxs hR3 M0d sz hB p2 p20 p21 p22 p2f q2 q20 q21 q22 q2f hm hm2
         refine wp_range_x (gf:=243) (lb:=#[.pointer (some ⟨w2.heap.size+1,0,none⟩),.pointer (some ⟨w2.heap.size+2,0,none⟩),.pointer (some ⟨w2.heap.size,0,none⟩)]) rfl (enters_of Tryz.func243 (by kernel_rfl) rfl) hseq rfl (by have:=SZ.out;omega) (fun i hi=>hi)
          (fun pre W=>(∀ x∈pre,decide ((nd l x).use≤eff.getD x.toNat 0)=false)∧Blk W (w.heap.size+1+1) #[.bool false] 4∧Mod (fun _=>False) w W∧W.cell? ⟨w.heap.size,0,none⟩=some (.slice a l.length c)∧W.cell? ⟨w.heap.size+1,0,none⟩=some (.slice ea eff.length ec))
          (fun cd W=>cd=.ret∧R=true∧Blk W (w.heap.size+1+1) #[.bool true] 4∧Mod (fun _=>False) w W) ?hJ ?hIx ?h0 ?a1 ?assign ?body ?done ?stop
         case assign =>
          intro y x W K hK
          gi_wp2
          exact hK
         case hJ =>
          rintro pre A B ⟨h1,h2,h3,h4,h5⟩ hm
          have z:=SZ.out
          exact ⟨h1,h2.keep hm (by omega),h3.trans' hm (fun i hi h=>by omega),hm.keeps h4 (by show ¬ (w.heap.size=_∨_);omega),hm.keeps h5 (by show ¬ (w.heap.size+1=_∨_);omega)⟩
         case hIx =>
          rintro cd A B ⟨h0,h1,h2,h3⟩ hm
          have z:=SZ.out
          exact ⟨h0,h1,h2.keep hm (by omega),h3.trans' hm (fun i hi h=>by omega)⟩
         case h0=>exact ⟨fun x hx=>(by cases hx),r0,HMD.out,r2,r1⟩
         case body =>
          rintro y pre x W ⟨h1,h2,h3,h4,h5⟩ hx hpre hsz
          have hxm:=ζm hx
          have hx0:=HP.out x hxm
          have hx1:=(HM.out x hxm).2
          obtain ⟨k,rfl⟩:∃ k:Nat,x=k:=⟨x.toNat,by omega⟩
          have hk:k < l.length:=by omega
          obtain ⟨X,hX⟩:∃ X,l[k]?=some X:=⟨_,ζg hk⟩
          obtain ⟨E,hE⟩:∃ E,eff[k]?=some E:=⟨_,ζg (by have:=HEL.out;omega)⟩
          obtain ⟨b,off,e1,hb,hc⟩:=HNU.out k X hX
          obtain ⟨b',off',e1',hb',hc'⟩:=HNE.out k E hE
          have hcW:=h3.keeps hc (fun x=>x)
          have hcE:=h3.keeps hc' (fun x=>x)
          have hnd:decide ((nd l k).use≤eff.getD (k:Int).toNat 0)=decide (X.use≤E):=by
           have e2:nd l k=X:=by unfold nd;simp [hX]
           have e3:eff.getD (k:Int).toNat 0=E:=by simp [hE]
           rw [e2,e3]
          have hi0:(0:Int)≤(k:Int):=by omega
          have hi1:(k:Int) < l.length:=by omega
          have hi2:(k:Int) < eff.length:=by have:=HEL.out;omega
          have d2:decide ((k:Int) < 0)=false:=decide_eq_false (by omega)
          have hq:=h2.cell 0
          simp only [ζa,ζb] at hq
          have hf:=h2.frozen 0
          have hs:=h2.set 0 (.bool true)
          have hms:=mod_setCell W (w.heap.size+1+1) 0 (.bool true)
          have H3:=ζh h3
          subst e1
          subst e1'
          dsimp only [encI]
          by_cases hle:X.use≤E
          · have dd:decide (X.use≤E)=true:=decide_eq_true hle
            have hR:R=true:=by
             rw [HR3.out,List.any_eq_true]
             exact ⟨_,hxm,hnd.trans dd⟩
            have HRT:=ζh hR
            clear hx hpre hnd hxm hc hc' hX hE h3 h1 hle hR hb hb' hseq r0 r1 r2 HNU HNE HM HP HR3 HMD hx0 hx1 hk hcap hmax d0 d1
            gi_wp2
            refine wpIn_region_round_lit rfl (by kernel_rfl) (by kernel_rfl) (by kernel_rfl) ?_
            repeat (gi_big_quiet_step (fail))
            refine wpQuietIn_nil ?_
            intro _ hw'
            obtain ⟨nq,hw''⟩:=hw'
            subst hw''
            gi_wp2
            have md:Mod (fun _=>False) W (W.drewN nq):=Mod.drewN' _ _ _
            have ms:Mod (fun i=>i=w.heap.size+1+1) (W.drewN nq) ((W.drewN nq).setCell ⟨w.heap.size+1+1,0,none⟩ (.bool true)):=mod_setCell _ _ 0 _
            have z:=SZ.out
            exact .inr ⟨_,rfl,⟨rfl,HRT.out,(h2.keep md (fun x=>x)).set 0 (.bool true),(H3.out.trans md).trans' ms (fun i hi h=>by omega)⟩,(md.mono (fun i h=>h.elim)).trans (ms.mono (fun i h=>by omega))⟩
          · have dd:decide (X.use≤E)=false:=decide_eq_false hle
            have hpre':∀ z∈pre++[(k:Int)],decide ((nd l z).use≤eff.getD z.toNat 0)=false:=by
             intro z hz
             rcases List.mem_append.1 hz with h | h
             · exact h1 z h
             · rw [List.mem_singleton.1 h,hnd];exact dd
            have HP2:=ζh hpre'
            clear hx hpre hnd hxm hc hc' hX hE h3 h1 hle hpre' hb hb' hseq r0 r1 r2 HNU HNE HM HP HR3 HMD hx0 hx1 hk hcap hmax d0 d1
            gi_wp2
            refine wpIn_region_round_lit rfl (by kernel_rfl) (by kernel_rfl) (by kernel_rfl) ?_
            repeat (gi_big_quiet_step (fail))
            refine wpQuietIn_nil ?_
            intro _ hw'
            obtain ⟨nq,hw''⟩:=hw'
            subst hw''
            gi_wp2
            have md:Mod (fun _=>False) W (W.drewN nq):=Mod.drewN' _ _ _
            exact .inl ⟨⟨fun z hz=>by have:=HP2.out z (by simpa using hz);simpa using this,h2.keep md (fun x=>x),H3.out.trans md⟩,md.mono (fun i h=>h.elim)⟩
         case done =>
          rintro W ⟨h1,h2,h3,h4,h5⟩ hK
          have hall:((xs.any fun x=>decide ((nd l x).use≤eff.getD x.toNat 0))=false):=by
           rw [List.any_eq_false]
           intro x hx;rw [h1 x hx];simp
          obtain rfl:=HR3.out.trans hall
          have hc:=h2.cell 0
          simp only [ζa,ζb] at hc
          have hf:=h2.frozen 0
          have hs:=h2.set 0 (.bool false)
          have hms:=mod_setCell W (w.heap.size+1+1) 0 (.bool false)
          have hK2:(W.setCell ⟨w.heap.size+1+1,0,none⟩ (.bool false)).heap[wd.heap.size]?=some (.deferred (some [])):=by rw [hms.block _ (Array.getElem?_eq_some_iff.1 hK).1 (by have:=SZ.out;omega)];exact hK
          clear hall h1
          gi_wp2
          have hp:=(mod_putObj (W.setCell ⟨w.heap.size+1+1,0,none⟩ (.bool false)) wd.heap.size (.deferred none))
          have hs2:=(hs.keep hp (by have:=SZ.out;omega)).cell 0
          refine ⟨by simp,.inl ⟨_,_,rfl,run_takeDeferred hK2,?_⟩⟩
          exact ⟨_,res_bool rfl rfl hs2,rfl,(h3.trans' hms (fun i hi h=>by omega)).trans' hp (fun i hi h=>by have:=SZ.out;omega)⟩
         case stop =>
          rintro cd W ⟨rfl,hall,h2,h3⟩ hK
          obtain rfl:=hall
          have hc:=h2.cell 0
          simp only [ζa,ζb] at hc
          gi_wp2
          have hp:=(mod_putObj W wd.heap.size (.deferred none))
          have hs2:=(h2.keep hp (by have:=SZ.out;omega)).cell 0
          refine ⟨by simp,.inl ⟨_,_,rfl,run_takeDeferred hK,?_⟩⟩
          exact ⟨_,res_bool rfl rfl hs2,rfl,h3.trans' hp (fun i hi h=>by have:=SZ.out;omega)⟩
end Pro

namespace Pro
open Go.RowKit Go.Shelf
attribute [local go_sem] Oper.semAt_some
def Bnd (b:Int) (s:List Int):Prop:=∀ z∈s,0≤z∧z≤b
theorem Bnd.getD {b:Int} {s:List Int} (h:Bnd b s) (hb:0≤b) (i:Nat):0≤s.getD i 0∧s.getD i 0≤b:=by
 rw [List.getD_eq_getElem?_getD]
 cases hx:s[i]? with
 | none=>exact ⟨Int.le_refl _,hb⟩
 | some z=>exact h z (ζm hx)
theorem Bnd.set {b:Int} {s:List Int} (h:Bnd b s) (i:Nat) {z:Int} (hz:0≤z∧z≤b):Bnd b (s.set i z):=by
 intro u hu
 rcases List.mem_or_eq_of_mem_set hu with h1 | h1
 · exact h u h1
 · rw [h1];exact hz
theorem Bnd.mono {b b':Int} {s:List Int} (h:Bnd b s) (hb:b≤b'):Bnd b' s:=fun z hz=>⟨(h z hz).1,Int.le_trans (h z hz).2 hb⟩
theorem Bnd.zeros (n:Nat):Bnd 0 (List.replicate n 0):=by
 intro z hz;rw [List.eq_of_mem_replicate hz];omega
theorem addAt_len (s:List Int) (i n:Int):(addAt s i n).length=s.length:=by unfold addAt;simp
theorem addAt_bnd {b d:Int} {s:List Int} (h:Bnd b s) (hb:0≤b) (i n:Int) (hn:0≤n∧n≤d) (hbd:b+d < 4294967296):Bnd (b+d) (addAt s i n):=by
 unfold addAt
 have hg:=h.getD hb i.toNat
 refine (h.mono (by omega)).set _ ?_
 rw [wrap_small _ (by omega) (by omega)]
 omega
def sumF (s:List Int) (r:List Nd):List Int:=r.foldl (fun s x=>addAt s x.up (ownN x)) s
theorem sumF_snoc (s:List Int) (r:List Nd) (x:Nd):sumF s (r++[x])=addAt (sumF s r) x.up (ownN x):=by unfold sumF;rw [List.foldl_append];rfl
theorem sumF_len (s:List Int) (r:List Nd):(sumF s r).length=s.length:=by
 induction r generalizing s with
 | nil=>rfl
 | cons x r ih=>show (sumF (addAt s x.up (ownN x)) r).length=_;rw [ih,addAt_len]
theorem sumF_bnd:∀ (r:List Nd) (s:List Int) (b:Int),Bnd b s→0≤b→(∀ x∈r,0≤ownN x∧ownN x≤33554432)→b+(r.length:Int) * 33554432 < 4294967296→Bnd (b+(r.length:Int) * 33554432) (sumF s r):=by
 intro r
 induction r with
 | nil=>intro s b h _ _ _;simpa [sumF] using h
 | cons x r ih =>
   intro s b h hb hr hl
   rw [List.length_cons] at hl ⊢
   have h2:=addAt_bnd h hb x.up (ownN x) (hr x (by simp)) (by omega)
   have h3:=ih _ (b+33554432) h2 (by omega) (fun y hy=>hr y (by simp [hy])) (by omega)
   have e:b+((r.length+1:Nat):Int) * 33554432=b+33554432+(r.length:Int) * 33554432:=by omega
   rw [e];exact h3
theorem partN_bnd {a p s:Int} (ha:0≤a) (hp:0≤p) (hs:p < s):0≤partN a p s∧partN a p s≤a:=by
 unfold partN
 refine ⟨Int.ediv_nonneg (Int.mul_nonneg ha hp) (by omega),?_⟩
 exact Int.ediv_le_of_le_mul (by omega) (Int.mul_le_mul_of_nonneg_left (by omega) ha)
theorem effOf_bnd {l:List Nd} {t:Int} {S out:List Int} {i:Nat} {x:Nd} (h:Bnd 33554432 out) (hx:0≤ownN x∧ownN x≤33554432):Bnd 33554432 (effOf l t S out i x):=by
 unfold effOf
 split
 · exact h
 · split
   · rename_i h1
     have hp:=partN_bnd hx.1 (h.getD (by omega) x.up.toNat).1 h1.2
     exact h.set _ ⟨hp.1,Int.le_trans hp.2 hx.2⟩
   · exact h.set _ hx
theorem effF_snoc (l:List Nd) (t:Int) (S:List Int):∀ (r:List Nd) (i:Nat) (x:Nd) (out:List Int),effF l t S i (r++[x]) out=effOf l t S (effF l t S i r out) (i+r.length) x:=by
 intro r
 induction r with
 | nil=>intro i x out;rfl
 | cons y r ih =>
   intro i x out
   show effF l t S (i+1) (r++[x]) (effOf l t S out i y)=_
   rw [ih]
   show effOf l t S (effF l t S (i+1) r (effOf l t S out i y)) (i+1+r.length) x=effOf l t S (effF l t S (i+1) r (effOf l t S out i y)) (i+(r.length+1)) x
   rw [show i+1+r.length=i+(r.length+1) by omega]
theorem ints_none (w:World):IntsAt w (.slice none 0 0) []:=⟨none,0,rfl,by simp,by unfold maxLen;omega,fun j hj=>by simp at hj⟩
theorem own_valid {l:List Nd} (h:validN l=true):∀ x∈l,0≤ownN x:=by
 intro x hx
 obtain ⟨k,hk⟩:=List.getElem?_of_mem hx
 have:=(valid_up h hk).2
 unfold ownN
 omega
end Pro
end Go.Proofs.YtkfoeonggmlebaaGreatDoor
