/-
  Contracts of the program's functions, and plain facts, towards the laws of millpondtop. No condition beyond those that each theorem bears.
-/
import Derived.Test.YtkfoeonggmlebaaGreatDoorQ21
import Derived.Test.YtkfoeonggmlebaaGreatDoorQAA
set_option maxRecDepth 100000
set_option maxHeartbeats 4000000
namespace Go.Proofs.YtkfoeonggmlebaaGreatDoor
section
open Go.RowKit
variable {w0 w:World} {F0:Nat→Prop} {K:CK} {c:CoM} {ls:List Part}
theorem core_place (id a g:Int) (t:List Int) (old:Bool) (ha:0≤a) (hg:0≤g∧g < c.tree.length) (ht:∀ n∈t,0≤n∧n < 256) (hl:t.length < 1000000) (st:Step w0 F0 (coreP K c::ls) w) :
 Calls Tryz.prog 230 #[.pointer (some ⟨K.b,0,none⟩),.int .i64 id,.int .i64 a,.int .i64 g,.string (strOf t),.bool old] w fun e w'=>e=.returned (.tuple #[])∧Step w0 F0 (coreP K (c.place id a g t old)::ls) w':=by
 have h2:=core_h2 st
 have HW:=ζh (c_writeF a t ht hl st)
 have HG:=ζh hg
 clear st hl ht hg
 go_enter Tryz.func230,Tryz.ntmps230
 go_wp2_with fail
 refine HW.out.mono ?_
 rintro e w1 ⟨⟨_,rfl⟩,st1⟩
 have h10:=core_h10 st1
 have ST1:=ζh st1
 clear st1
 go_wp2_with fail
 refine (c_pown id g (by exact HG.out) ST1.out).mono ?_
 rintro e w2 ⟨⟨_,rfl⟩,st2⟩
 have h10:=core_h10 st2
 have ST2:=ζh st2
 clear st2
 go_wp2_with fail
 refine (c_pput id 1 a (by omega) ha (by omega) ST2.out).mono ?_
 rintro e w3 ⟨⟨_,rfl⟩,st3⟩
 have h8:=core_h8 st3
 have ST3:=ζh st3
 clear st3
 go_wp2_with fail
 refine (c_gadd id g old ST3.out).mono ?_
 rintro e w4 ⟨⟨_,rfl⟩,st4⟩
 go_wp2_with fail
 go_end0
 exact ⟨rfl,st4⟩
theorem core_out (id:Int) (st:Step w0 F0 (coreP K c::ls) w) :
 Calls Tryz.prog 167 #[.pointer (some ⟨K.b,0,none⟩),.int .i64 id] w fun e w'=>e=.returned (.bool (c.out id).isSome)∧Step w0 F0 (coreP K ((c.out id).getD c)::ls) w':=by
 obtain ⟨R,hR⟩:∃ R,R=c.out id:=⟨_,rfl⟩
 rw [←hR]
 unfold CoM.out at hR
 simp only at hR
 have hpg:=c_page id st
 obtain ⟨p,hp⟩:∃ p,p=c.page id:=⟨_,rfl⟩
 rw [←hp] at hR hpg
 have HR:=ζh hR
 have HP:=ζh hpg
 have h10:=core_h10 st
 clear hR hp hpg st
 unfold Pag.PG.val Pag.PG.cells at HP
 go_enter Tryz.func167,Tryz.ntmps167
 go_wp2_with fail
 refine HP.out.mono ?_
 rintro e w1 ⟨rfl,st1⟩
 go_upto_region 2 with fail
 obtain ⟨w2,hnw2⟩:∃ w2,w2=w1.alloc (.cells #[.int .i64 p.file,.int .i64 p.index,.int .i64 p.place,.int .i64 p.at_,.int .i64 p.owner,.int .i64 p.refs,.int .i64 0,.bool false,.bool p.dirty] 198):=⟨_,rfl⟩
 have stw2:=(st1).local (cs:=#[.int .i64 p.file,.int .i64 p.index,.int .i64 p.place,.int .i64 p.at_,.int .i64 p.owner,.int .i64 p.refs,.int .i64 0,.bool false,.bool p.dirty]) (T:=198)
 rw [←hnw2] at stw2 ⊢
 clear hnw2
 have h0:=core_h0 stw2
 have hb:=stw2.blk1
 have hb4:=hb.cell 4
 simp only [ζa,ζb,ζc] at hb4
 have hch:=c_chain p.owner stw2.drew
 obtain ⟨CH,hCH⟩:∃ CH,CH=c.chain p.owner:=⟨_,rfl⟩
 rw [←hCH] at hch
 have HR2:=HR.out
 rw [←hCH] at HR2
 have HR3:=ζh HR2
 clear st1 stw2 hb HR2 hCH HR
 go_still_tail 6,(by kernel_rfl)
 go_wp2_with fail
 refine hch.mono ?_
 rintro e w3 ⟨v,rfl,st3⟩
 obtain ⟨va,vc,rfl⟩:=ownsRow_form st3.row1
 obtain ⟨x0,x1,x2,x3,x4,x5,x6,x7,x8⟩:=pg_load _ _ p _ st3.blk2
 have ST3:=ζh st3
 clear st3 hch
 rcases Classical.em (0≤p.file) with h1 | h1
 · have d1:decide (0≤p.file)=true:=decide_eq_true h1
   have hr:=HR3.out
   rw [if_pos h1] at hr
   have HRR:=ζh hr
   have hcl:=core_clean id p ST3.out
   unfold Pag.PG.val Pag.PG.cells at hcl
   have HCL:=ζh hcl
   clear h1 hr hcl
   go_wp2_with fail
   refine HCL.out.mono ?_
   rintro e w4 ⟨rfl,st4⟩
   have h10:=core_h10 st4
   have ST4:=ζh st4
   clear st4
   go_wp2_with fail
   refine (c_pput id 0 0 (by omega) (by omega) (by omega) ST4.out).mono ?_
   rintro e w5 ⟨⟨_,rfl⟩,st5⟩
   obtain ⟨C5,hC5⟩:∃ C5:CoM,C5=({ (c.clean id p) with pages:=Pag.putT (c.clean id p).pages id 0 0 }:CoM):=⟨_,rfl⟩
   rw [←hC5] at st5
   have hr5:R=some (C5.gone id p CH):=by rw [HRR.out,hC5];try rfl
   have HR5:=ζh hr5
   have hk1:=core_h1 st5
   have hk2:=core_h2 st5
   have hk3:=core_h3 st5
   obtain ⟨y0,y1,y2,y3,y4,y5,y6,y7,y8⟩:=pg_load _ _ p _ st5.blk2
   have hgv:=ζh (core_giveF p.at_ CH (.slice va CH.length vc) CH.length st5.drew List.mem_cons_self rfl)
   clear st5 hr5 hC5 x0 x1 x2 x3 x4 x5 x6 x7 x8
   go_upto_region 8 with fail
   go_still_tail 7,(by kernel_rfl)
   go_wp2_with fail
   refine hgv.out.mono ?_
   rintro e wa ⟨rfl,sta⟩
   have hk8:=core_h8 sta
   have STA:=ζh sta
   clear sta
   go_wp2_with fail
   refine (c_gdrop id STA.out).mono ?_
   rintro e wb ⟨⟨_,rfl⟩,stb⟩
   have hk9:=core_h9 stb
   have hk11:=core_h11 stb
   obtain ⟨z0,z1,z2,z3,z4,z5,z6,z7,z8⟩:=pg_load _ _ p _ stb.blk2
   have hwn:=ζh (c_went p.owner stb.drew)
   clear stb
   go_upto_region 10 with fail
   go_region_held3 (fun w'=>w'.cell? ⟨K.b,11,none⟩=some (.map (some K.km))∧w'.cell? ⟨K.b,9,none⟩=some (.pointer (some ⟨K.lb,0,none⟩))∧w'.cell? ⟨w1.heap.size,4,none⟩=some (.int .i64 p.owner)) (first | exact ⟨hk11,hk9,z4⟩ | exact ⟨q1,q2,q3⟩ | exact ⟨r1,r2,r3⟩) (first
    | (go_at_call 224;refine hwn.out.mono ?_;rintro e wc ⟨rfl,stc⟩;have q1:=core_h11 stc;have q2:=core_h9 stc;have q3:=(pg_load _ _ p _ stc.blk2).2.2.2.2.1;obtain ⟨wd,hrun,std,hmd⟩:=c_kput id (wentO C5.log p.owner) (wentO_ok _ _) stc;have r1:=core_h11 std;have r2:=core_h9 std;have r3:=(pg_load _ _ p _ std.blk2).2.2.2.2.1))
   go_wp2_with fail
   go_ret
   rw [HR5.out]
   exact ⟨rfl,std.drop2.drop2⟩
 · have d1:decide (0≤p.file)=false:=decide_eq_false h1
   have hr:=HR3.out
   rw [if_neg h1] at hr
   have haw:=core_away id p CH (.slice va CH.length vc) CH.length ST3.out List.mem_cons_self rfl
   unfold Pag.PG.val Pag.PG.cells at haw
   cases hx:c.away id p CH with
   | none =>
     rw [hx] at hr haw
     have HRR:=ζh hr
     have HAW:=ζh haw
     clear h1 hr haw hx
     go_wp2_with fail
     refine HAW.out.mono ?_
     rintro e w4 ⟨rfl,st4⟩
     go_wp2_with fail
     go_ret
     rw [HRR.out]
     exact ⟨rfl,st4.drop2.drop2⟩
   | some c' =>
     rw [hx] at hr haw
     have HRR:=ζh hr
     have HAW:=ζh haw
     clear h1 hr haw hx
     go_wp2_with fail
     refine HAW.out.mono ?_
     rintro e w5 ⟨rfl,st5⟩
     simp only [Option.isSome_some,Option.getD_some] at st5 ⊢
     obtain ⟨C5,hC5⟩:∃ C5:CoM,C5=c':=⟨_,rfl⟩
     rw [←hC5] at st5
     have hr5:R=some (C5.gone id p CH):=by rw [HRR.out,hC5];try rfl
     have HR5:=ζh hr5
     have hk1:=core_h1 st5
     have hk2:=core_h2 st5
     have hk3:=core_h3 st5
     obtain ⟨y0,y1,y2,y3,y4,y5,y6,y7,y8⟩:=pg_load _ _ p _ st5.blk2
     have hgv:=ζh (core_giveF p.at_ CH (.slice va CH.length vc) CH.length st5.drew List.mem_cons_self rfl)
     clear st5 hr5 hC5 x0 x1 x2 x3 x4 x5 x6 x7 x8
     go_upto_region 8 with fail
     go_still_tail 7,(by kernel_rfl)
     go_wp2_with fail
     refine hgv.out.mono ?_
     rintro e wa ⟨rfl,sta⟩
     have hk8:=core_h8 sta
     have STA:=ζh sta
     clear sta
     go_wp2_with fail
     refine (c_gdrop id STA.out).mono ?_
     rintro e wb ⟨⟨_,rfl⟩,stb⟩
     have hk9:=core_h9 stb
     have hk11:=core_h11 stb
     obtain ⟨z0,z1,z2,z3,z4,z5,z6,z7,z8⟩:=pg_load _ _ p _ stb.blk2
     have hwn:=ζh (c_went p.owner stb.drew)
     clear stb
     go_upto_region 10 with fail
     go_region_held3 (fun w'=>w'.cell? ⟨K.b,11,none⟩=some (.map (some K.km))∧w'.cell? ⟨K.b,9,none⟩=some (.pointer (some ⟨K.lb,0,none⟩))∧w'.cell? ⟨w1.heap.size,4,none⟩=some (.int .i64 p.owner)) (first | exact ⟨hk11,hk9,z4⟩ | exact ⟨q1,q2,q3⟩ | exact ⟨r1,r2,r3⟩) (first
      | (go_at_call 224;refine hwn.out.mono ?_;rintro e wc ⟨rfl,stc⟩;have q1:=core_h11 stc;have q2:=core_h9 stc;have q3:=(pg_load _ _ p _ stc.blk2).2.2.2.2.1;obtain ⟨wd,hrun,std,hmd⟩:=c_kput id (wentO C5.log p.owner) (wentO_ok _ _) stc;have r1:=core_h11 std;have r2:=core_h9 std;have r3:=(pg_load _ _ p _ std.blk2).2.2.2.2.1))
     go_wp2_with fail
     go_ret
     rw [HR5.out]
     exact ⟨rfl,std.drop2.drop2⟩
end

section
open Go.RowKit
variable {w0 w:World} {F0:Nat→Prop} {A:Part} {K:CK} {c:CoM} {ls:List Part}
theorem clean_gens (c:CoM) (id:Int) (p:Pag.PG):(c.clean id p).gens=c.gens:=by
 unfold CoM.clean
 split<;>rfl
theorem core_refer (id n:Int) (hn:-1000≤n∧n≤1000) (st:Step w0 F0 (coreP K c::ls) w) :
 Calls Tryz.prog 76 #[.pointer (some ⟨K.b,0,none⟩),.int .i64 id,.int .i64 n] w fun e w'=>(∃ x:Int,e=.returned (.int .i64 x))∧Step w0 F0 (coreP K (c.refer id n)::ls) w':=by
 have h10:=core_h10 st
 have hrf:=ζh (c_prefer id n hn st)
 obtain ⟨R,hR⟩:∃ R,R=c.refer id n:=⟨_,rfl⟩
 rw [←hR]
 unfold CoM.refer at hR
 simp only at hR
 obtain ⟨c1,hc1⟩:∃ c1:CoM,c1={ c with pages:=Pag.referT c.pages id n }:=⟨_,rfl⟩
 obtain ⟨L,hL⟩:∃ L,L=Pag.referL c.pages id n:=⟨_,rfl⟩
 obtain ⟨E,hE⟩:∃ E,E=Pag.referE c.pages id n:=⟨_,rfl⟩
 rw [←hc1,←hL,←hE] at hR
 rw [←hc1,←hL,←hE] at hrf
 have HR:=ζh hR
 clear hR hc1 hL hE hn st
 by_cases hE:E=0
 · have d0:(E != 0)=false:=by rw [hE];rfl
   by_cases hL:0 < L
   · have d1:decide (0 < L)=true:=decide_eq_true hL
     have hr:R=c1:=by rw [HR.out,if_pos (.inr hL)]
     have HRX:=ζh hr
     clear hr hL hE
     go_enter Tryz.func76,Tryz.ntmps76
     go_wp2_with fail
     refine hrf.out.mono ?_
     rintro e w1 ⟨rfl,st1⟩
     have HS1:=ζh st1
     clear st1
     go_wp2_with fail
     go_ret
     rw [HRX.out]
     exact ⟨⟨_,rfl⟩,HS1.out⟩
   · have d1:decide (0 < L)=false:=decide_eq_false hL
     have hr:R=c1.free id:=by rw [HR.out,if_neg (by simp [hE,hL])]
     unfold CoM.free at hr
     simp only at hr
     have HRF:=ζh hr
     clear hr hL hE
     go_enter Tryz.func76,Tryz.ntmps76
     go_wp2_with fail
     refine hrf.out.mono ?_
     rintro e w1 ⟨rfl,st1⟩
     have k10:=core_h10 st1
     have hpg:=c_page id st1
     obtain ⟨p,hp⟩:∃ p,p=c1.page id:=⟨_,rfl⟩
     have hr:=HRF.out
     rw [←hp] at hpg hr
     unfold Pag.PG.val Pag.PG.cells at hpg
     have HRG:=ζh hr
     have HPG:=ζh hpg
     clear hr hp hpg st1 h10
     go_wp2_with fail
     refine HPG.out.mono ?_
     rintro e w2 ⟨rfl,st2⟩
     go_upto_region 5 with fail
     obtain ⟨w3,hnw3⟩:∃ w3,w3=w2.alloc (.cells #[.int .i64 p.file,.int .i64 p.index,.int .i64 p.place,.int .i64 p.at_,.int .i64 p.owner,.int .i64 p.refs,.int .i64 0,.bool false,.bool p.dirty] 198):=⟨_,rfl⟩
     have stw3:=(st2).local (cs:=#[.int .i64 p.file,.int .i64 p.index,.int .i64 p.place,.int .i64 p.at_,.int .i64 p.owner,.int .i64 p.refs,.int .i64 0,.bool false,.bool p.dirty]) (T:=198)
     rw [←hnw3] at stw3 ⊢
     clear hnw3
     have h0:=core_h0 stw3
     have hb:=stw3.blk1
     have hb4:=hb.cell 4
     simp only [ζa,ζb,ζc] at hb4
     have hch:=c_chain p.owner stw3.drew
     obtain ⟨CH,hCH⟩:∃ CH,CH=c1.chain p.owner:=⟨_,rfl⟩
     have hr:=HRG.out
     rw [←hCH] at hch hr
     have HRH:=ζh hr
     clear st2 stw3 hb hCH hr k10
     go_still_tail 6,(by kernel_rfl)
     go_wp2_with fail
     refine hch.mono ?_
     rintro e w4 ⟨v,rfl,st4⟩
     obtain ⟨va,vc,rfl⟩:=ownsRow_form st4.row1
     obtain ⟨x0,x1,x2,x3,x4,x5,x6,x7,x8⟩:=pg_load _ _ p _ st4.blk2
     have ST4:=ζh st4
     clear st4 hch h0 hb4
     by_cases h1:p.place=1
     · have d2:(p.place==1)=true:=by rw [h1];rfl
       have hr:=HRH.out
       rw [if_pos h1] at hr
       have HRI:=ζh hr
       have hcl:=core_clean id p ST4.out
       unfold Pag.PG.val Pag.PG.cells at hcl
       have HCL:=ζh hcl
       clear h1 hr hcl
       go_wp2_with fail
       refine HCL.out.mono ?_
       rintro e w5 ⟨rfl,st5⟩
       have hcg:=clean_gens c1 id p
       obtain ⟨C5,hC5⟩:∃ C5:CoM,C5=c1.clean id p:=⟨_,rfl⟩
       have hr:=HRI.out
       rw [←hC5] at st5 hcg hr
       rw [←hcg] at hr
       have HRX:=ζh hr
       have hk1:=core_h1 st5
       have hk2:=core_h2 st5
       have hk3:=core_h3 st5
       obtain ⟨y0,y1,y2,y3,y4,y5,y6,y7,y8⟩:=pg_load _ _ p _ st5.blk2
       have hgv:=ζh (core_giveF p.at_ CH (.slice va CH.length vc) CH.length st5.drew List.mem_cons_self rfl)
       clear st5 hr hC5 hcg x0 x1 x2 x3 x4 x5 x6 x7 x8
       go_upto_region 9 with fail
       go_still_tail 7,(by kernel_rfl)
       go_wp2_with fail
       refine hgv.out.mono ?_
       rintro e wa ⟨rfl,sta⟩
       have hk8:=core_h8 sta
       have hgd:=ζh (c_gdrop id sta)
       clear sta
       go_wp2_with fail
       refine hgd.out.mono ?_
       rintro e wb ⟨⟨_,rfl⟩,stb⟩
       have hk10:=core_h10 stb
       have STB:=ζh stb
       clear stb
       go_wp2_with fail
       refine (c_pput id 0 0 (by omega) (by omega) (by omega) STB.out).mono ?_
       rintro e w8 ⟨⟨_,rfl⟩,st8⟩
       have k10:=core_h10 st8
       have hdr:=ζh (c_pdrop id st8)
       clear st8
       go_wp2_with fail
       refine hdr.out.mono ?_
       rintro e w9 ⟨rfl,st9⟩
       have HS9:=ζh st9
       clear st9
       go_wp2_with fail
       go_ret
       rw [HRX.out]
       exact ⟨⟨_,rfl⟩,HS9.out.drop2.drop2⟩
     · have d2:(p.place==1)=false:=by rw [beq_eq_false_iff_ne];exact h1
       by_cases h2:p.place=2
       · have d3:(p.place==2)=true:=by rw [h2];rfl
         have hr:=HRH.out
         rw [if_neg h1,if_pos h2] at hr
         have HRX:=ζh hr
         have hk4:=core_h4 ST4.out
         have hk5:=core_h5 ST4.out
         have hk6:=core_h6 ST4.out
         have hgv:=ζh (core_giveS p.at_ CH (.slice va CH.length vc) CH.length ST4.out.drew List.mem_cons_self rfl)
         clear h1 h2 hr
         go_upto_region 12 with fail
         go_still_tail 7,(by kernel_rfl)
         go_wp2_with fail
         refine hgv.out.mono ?_
         rintro e wa ⟨rfl,sta⟩
         have hk10:=core_h10 sta
         have STB:=ζh sta
         clear sta
         go_wp2_with fail
         refine (c_pput id 0 0 (by omega) (by omega) (by omega) STB.out).mono ?_
         rintro e w8 ⟨⟨_,rfl⟩,st8⟩
         have k10:=core_h10 st8
         have hdr:=ζh (c_pdrop id st8)
         clear st8
         go_wp2_with fail
         refine hdr.out.mono ?_
         rintro e w9 ⟨rfl,st9⟩
         have HS9:=ζh st9
         clear st9
         go_wp2_with fail
         go_ret
         rw [HRX.out]
         exact ⟨⟨_,rfl⟩,HS9.out.drop2.drop2⟩
       · have d3:(p.place==2)=false:=by rw [beq_eq_false_iff_ne];exact h2
         have hr:=HRH.out
         rw [if_neg h1,if_neg h2] at hr
         have HRX:=ζh hr
         have hk10:=core_h10 ST4.out
         clear h1 h2 hr
         go_wp2_with fail
         refine (c_pput id 0 0 (by omega) (by omega) (by omega) ST4.out).mono ?_
         rintro e w8 ⟨⟨_,rfl⟩,st8⟩
         have k10:=core_h10 st8
         have hdr:=ζh (c_pdrop id st8)
         clear st8
         go_wp2_with fail
         refine hdr.out.mono ?_
         rintro e w9 ⟨rfl,st9⟩
         have HS9:=ζh st9
         clear st9
         go_wp2_with fail
         go_ret
         rw [HRX.out]
         exact ⟨⟨_,rfl⟩,HS9.out.drop2.drop2⟩
 · have d0:(E != 0)=true:=by rw [bne_iff_ne];exact hE
   have hr:R=c1:=by rw [HR.out,if_pos (.inl hE)]
   have HRX:=ζh hr
   clear hr hE
   go_enter Tryz.func76,Tryz.ntmps76
   go_wp2_with fail
   refine hrf.out.mono ?_
   rintro e w1 ⟨rfl,st1⟩
   have HS1:=ζh st1
   clear st1
   go_wp2_with fail
   go_ret
   rw [HRX.out]
   exact ⟨⟨_,rfl⟩,HS1.out⟩
end
end Go.Proofs.YtkfoeonggmlebaaGreatDoor
