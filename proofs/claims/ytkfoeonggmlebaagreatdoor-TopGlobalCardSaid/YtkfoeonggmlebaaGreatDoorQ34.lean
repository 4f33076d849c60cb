/-
  Contracts of the program's functions, and plain facts, towards the laws of millpondtop. No condition beyond those that each theorem bears.
-/
import Derived.Test.YtkfoeonggmlebaaGreatDoorQ33
import Derived.Test.YtkfoeonggmlebaaGreatDoorQAA
set_option maxRecDepth 100000
set_option maxHeartbeats 4000000
namespace Go.Proofs.YtkfoeonggmlebaaGreatDoor
section
open Cnt (CU ofU addU tryU giveU tryEU tryGU fullU lessU chainB groupB rightB amountB)
open Go.RowKit Go.Shelf Go.ChangeShapes Go.WideShapes
attribute [local go_sem] Oper.semAt_some
variable {w0 w:World} {F0:Nat→Prop} {A:Part} {K:CK} {c:CoM} {ls:List Part}
theorem core_bring (id g:Int) {N:Nat} (hN:N≤1000000) (hs:Small N c) (st:Step w0 F0 (coreP K c::ls) w) :
 Calls Tryz.prog 184 #[.pointer (some ⟨K.b,0,none⟩),.int .i64 id,.int .i64 g] w fun e w'=>e=.returned (.tuple #[.int .i64 (c.bring id g).1.1,.int .i64 (c.bring id g).1.2])∧Step w0 F0 (coreP K (c.bring id g).2::ls) w':=by
 have h10:=core_h10 st
 obtain ⟨R,hR⟩:∃ R,R=c.bring id g:=⟨_,rfl⟩
 rw [←hR]
 unfold CoM.bring at hR
 have hpg:=c_page id st
 have how:=page_owner c (coreInv st) id
 obtain ⟨p,hp⟩:∃ p,p=c.page id:=⟨_,rfl⟩
 obtain ⟨E,hE⟩:∃ E,E=Pag.pageE c.pages id:=⟨_,rfl⟩
 simp only at hR
 rw [←hp,←hE] at hR
 rw [←hp,←hE] at hpg
 rw [←hp] at how
 unfold Pag.PG.val Pag.PG.cells at hpg
 have HN:=ζh hN
 have HS:=ζh hs
 have HR:=ζh hR
 have HPG:=ζh hpg
 have HOW:=ζh how
 clear hR hpg hp hE hN hs st how
 go_enter Tryz.func184,Tryz.ntmps184
 go_wp2_with fail
 refine HPG.out.mono ?_
 rintro e w1 ⟨rfl,st1⟩
 go_upto_region 2 with fail
 obtain ⟨wp,hnwp⟩:∃ wp,wp=w1.alloc (.cells #[.int .i64 p.file,.int .i64 p.index,.int .i64 p.place,.int .i64 p.at_,.int .i64 p.owner,.int .i64 p.refs,.int .i64 0,.bool false,.bool p.dirty] 198):=⟨_,rfl⟩
 have stwp:=(st1).local (cs:=#[.int .i64 p.file,.int .i64 p.index,.int .i64 p.place,.int .i64 p.at_,.int .i64 p.owner,.int .i64 p.refs,.int .i64 0,.bool false,.bool p.dirty]) (T:=198)
 rw [←hnwp] at stwp ⊢
 clear hnwp
 have h0:=core_h0 stwp
 have h8:=core_h8 stwp
 have hli:=c_live g stwp
 obtain ⟨x0,x1,x2,x3,x4,x5,x6,x7,x8⟩:=pg_load _ _ p _ stwp.blk1
 have ST:=ζh stwp
 clear st1 stwp HPG
 by_cases hE:E=0
 · have d0:(E != 0)=false:=by rw [hE];rfl
   cases hl:c.live g with
   | false =>
     have hr:R=((-1,2),c):=by rw [HR.out,if_pos (.inr (.inl hl))]
     rw [hl] at hli
     have HRR:=ζh hr
     have HLI:=ζh hli
     clear hl hr hli hE
     go_wp2_with fail
     refine HLI.out.mono ?_
     rintro e w2 ⟨rfl,rfl⟩
     go_wp2_with fail
     go_ret2
     rw [HRR.out]
     exact ⟨rfl,ST.out.drop2⟩
   | true =>
     rw [hl] at hli
     by_cases hp0:p.place=0
     · have d1:(p.place==0)=true:=by rw [hp0];rfl
       have d11:(p.place==1)=false:=by rw [hp0];rfl
       have d12:(p.place==2)=false:=by rw [hp0];rfl
       by_cases hf:p.file < 0
       · have d2:decide (p.file < 0)=true:=decide_eq_true hf
         have hr:R=((-1,2),c):=by rw [HR.out,if_pos (.inr (.inr ⟨hp0,hf⟩))]
         have HRR:=ζh hr
         have HLI:=ζh hli
         clear hl hr hli hE hp0 hf
         go_wp2_with fail
         refine HLI.out.mono ?_
         rintro e w2 ⟨rfl,rfl⟩
         go_wp2_with fail
         go_ret2
         rw [HRR.out]
         exact ⟨rfl,ST.out.drop2⟩
       · have d2:decide (p.file < 0)=false:=decide_eq_false hf
         have hr:=HR.out
         rw [if_neg (by rw [hl];simp [hE];omega),if_neg (by omega),if_pos hp0] at hr
         have hpl2:¬ p.place=2:=by omega
         have HRR:=ζh hr
         have HLI:=ζh hli
         have HGO:=ζh (live_lt hl)
         have HP2:=ζh hpl2
         clear hl hr hli hE hp0 hf hpl2
         go_wp2_with fail
         refine HLI.out.mono ?_
         rintro e w2 ⟨rfl,rfl⟩
         have htk:=core_take g HN.out HS.out ST.out
         have htt:=take_took HS.out g
         obtain ⟨⟨⟨ra,rt,re⟩,d⟩,hq⟩:∃ r,r=c.take g:=⟨_,rfl⟩
         have hrr:=HRR.out
         rw [←hq] at htk htt hrr
         simp only at htk hrr
         have HTK:=ζh htk
         have HTT:=ζh htt
         have HRX:=ζh hrr
         clear htk htt hrr hq h0 h8 h10
         go_wp2_with fail
         refine HTK.out.mono ?_
         rintro e w3 ⟨rfl,st3⟩
         clear x0 x1 x2 x3 x4 x5 x6 x7 x8
         obtain ⟨x0,x1,x2,x3,x4,x5,x6,x7,x8⟩:=pg_load _ _ p _ st3.blk1
         by_cases he:re=0
         · have d9:(re != 0)=false:=by rw [he];rfl
           have hrr:=HRX.out
           rw [if_neg (by simp [he])] at hrr
           have HRY:=ζh hrr
           have htx:=ζh (core_text p st3)
           have hto:=ζh (core_textOk p st3)
           have HA:=ζh (show 0≤ra from HTT.out.at_ he)
           have HTR:=ζh (show d.tree=c.tree from HTT.out.tree)
           clear hrr he st3
           go_wp2_with fail
           refine htx.out.mono ?_
           rintro e w4 ⟨rfl,st4⟩
           obtain ⟨y0,y1,y2,y3,y4,y5,y6,y7,y8⟩:=pg_load _ _ p _ st4.blk1
           clear x0 x1 x2 x3 x4 x5 x6 x7 x8
           obtain ⟨d1,hd1⟩:∃ d1:CoM,d1=d:=⟨_,rfl⟩
           have HD1T:=ζh (show d1.tree=d.tree by rw [hd1])
           have HD1:=ζh hd1
           have st5:=st4
           rw [←hd1] at st5
           clear st4 hd1
           have k9:=core_h9 st5
           have k11:=core_h11 st5
           have hme:=ζh (core_mem g st5.drew)
           have hkl:=c_klook id st5.drew
           have hsh:=ζh ((coreInv st5).sh)
           obtain ⟨o,ho⟩:∃ o,o=(getA id d1.kept).getD none:=⟨_,rfl⟩
           rw [←ho] at hkl
           have HO:=ζh ho
           have HKL:=ζh hkl
           unfold evK at hkl
           clear st5 ho
           go_upto_region 16 with fail
           go_region_held3 (fun w'=>w'.cell? ⟨K.b,9,none⟩=some (.pointer (some ⟨K.lb,0,none⟩))∧w'.cell? ⟨K.b,11,none⟩=some (.map (some K.km))) (first | exact ⟨k9,k11⟩ | exact ⟨q9,q11⟩ | exact ⟨r9,r11⟩) (first
            | (go_at_call 158;refine hme.out.mono ?_;rintro e w6 ⟨rfl,st6⟩;have q9:=core_h9 st6;have q11:=core_h11 st6;have hkl6:=c_klook id st6;rw [←HO.out] at hkl6;unfold evK at hkl6)
            | (go_at_call 229;refine (c_came o (by rw [HO.out];exact ShAll.get hsh.out id) g (d1.mem g) st6).mono ?_;rintro e w7 ⟨rfl,st7⟩;have r9:=core_h9 st7;have r11:=core_h11 st7))
           all_goals
            have hpl:=core_place id ra g (d.text p) (!Sha.cameB d1.log o (d1.mem g)) HA.out (by have:=HGO.out;have:=HTR.out;have h9:=HD1T.out;simp only;rw [h9];rw [this];exact HGO.out) hto.out.1 hto.out.2 st7
            have HPL:=ζh hpl
            have hrf:R=((-1,0),CoM.came d id ra g p):=HRY.out
            have hcm:CoM.came d id ra g p=CoM.place { d1 with log:=Sha.cameL d1.log o g (d1.mem g) } id ra g (d.text p) (!Sha.cameB d1.log o (d1.mem g)):=by
             unfold CoM.came
             simp only
             rw [if_neg HP2.out,←HD1.out,HO.out]
            have HRF:=ζh (hrf.trans (by rw [hcm]))
            clear hpl st7 st6 q9 q11 r9 r11 hkl6 hrf hcm k9 k11 hkl
            go_wp2_with fail
            refine HPL.out.mono ?_
            rintro e w8 ⟨rfl,st8⟩
            have HS8:=ζh st8
            clear st8
            go_wp2_with fail
            go_ret2
            rw [HRF.out]
            exact ⟨rfl,HS8.out.drop2⟩
         · have d9:(re != 0)=true:=by rw [bne_iff_ne];exact he
           have hrr:=HRX.out
           rw [if_pos he] at hrr
           have HRY:=ζh hrr
           have HS3:=ζh st3
           clear hrr he st3
           go_wp2_with fail
           go_ret2
           rw [HRY.out]
           exact ⟨rfl,HS3.out.drop2⟩
     · have d1:(p.place==0)=false:=by rw [beq_eq_false_iff_ne];exact hp0
       by_cases hp1:p.place=1
       · have d2:(p.place==1)=true:=by rw [hp1];rfl
         have hr:R=((-1,0),{ c with gens:=Gen.touchG id c.gens }):=by rw [HR.out,if_neg (by rw [hl];simp [hE,hp0]),if_pos hp1]
         have HRR:=ζh hr
         have HLI:=ζh hli
         clear hl hr hli hE hp0 hp1
         go_wp2_with fail
         refine HLI.out.mono ?_
         rintro e w2 ⟨rfl,rfl⟩
         go_wp2_with fail
         refine (c_gtouch id ST.out).mono ?_
         rintro e w3 ⟨⟨_,rfl⟩,st3⟩
         have HS3:=ζh st3
         clear st3
         go_wp2_with fail
         go_ret2
         rw [HRR.out]
         exact ⟨rfl,HS3.out.drop2⟩
       · have d2:(p.place==1)=false:=by rw [beq_eq_false_iff_ne];exact hp1
         have hr:=HR.out
         rw [if_neg (by rw [hl];simp [hE,hp0]),if_neg hp1,if_neg hp0] at hr
         have HRR:=ζh hr
         have HLI:=ζh hli
         have HGO:=HOW
         by_cases hp2:p.place=2
         · have d12:(p.place==2)=true:=by rw [hp2];rfl
           have HP2:=ζh hp2
           clear hl hr hli hE hp0 hp1 hp2
           go_wp2_with fail
           refine HLI.out.mono ?_
           rintro e w2 ⟨rfl,rfl⟩
           have htk:=core_take p.owner HN.out HS.out ST.out
           have htt:=take_took HS.out p.owner
           obtain ⟨⟨⟨ra,rt,re⟩,d⟩,hq⟩:∃ r,r=c.take p.owner:=⟨_,rfl⟩
           have hrr:=HRR.out
           rw [←hq] at htk htt hrr
           simp only at htk hrr
           have HTK:=ζh htk
           have HTT:=ζh htt
           have HRX:=ζh hrr
           clear htk htt hrr hq h0 h8 h10
           go_wp2_with fail
           refine HTK.out.mono ?_
           rintro e w3 ⟨rfl,st3⟩
           clear x0 x1 x2 x3 x4 x5 x6 x7 x8
           obtain ⟨x0,x1,x2,x3,x4,x5,x6,x7,x8⟩:=pg_load _ _ p _ st3.blk1
           by_cases he:re=0
           · have d9:(re != 0)=false:=by rw [he];rfl
             have hrr:=HRX.out
             rw [if_neg (by simp [he])] at hrr
             have HRY:=ζh hrr
             have htx:=ζh (core_text p st3)
             have hto:=ζh (core_textOk p st3)
             have HA:=ζh (show 0≤ra from HTT.out.at_ he)
             have HTR:=ζh (show d.tree=c.tree from HTT.out.tree)
             clear hrr he st3
             go_wp2_with fail
             refine htx.out.mono ?_
             rintro e w4 ⟨rfl,st4⟩
             obtain ⟨y0,y1,y2,y3,y4,y5,y6,y7,y8⟩:=pg_load _ _ p _ st4.blk1
             clear x0 x1 x2 x3 x4 x5 x6 x7 x8
             obtain ⟨CH,hCH⟩:∃ CH,CH=d.chain p.owner:=⟨_,rfl⟩
             obtain ⟨d1,hd1⟩:∃ d1:CoM,d1={ d with sl:=CoM.giveSt d.sl p.at_ CH }:=⟨_,rfl⟩
             have HD1T:=ζh (show d1.tree=d.tree by rw [hd1])
             have HCH:=ζh hCH
             have HD1:=ζh hd1
             have k0:=core_h0 st4
             have k4:=core_h4 st4
             have k5:=core_h5 st4
             have k6:=core_h6 st4
             have hch:=c_chain p.owner st4.drew
             rw [←hCH] at hch
             have HCC:=ζh hch
             clear st4 hd1 hCH hch
             go_upto_region 15 with fail
             go_region_held3 (fun w'=>w'.cell? ⟨K.b,0,none⟩=some (.pointer (some ⟨K.tb,0,none⟩))∧w'.cell? ⟨K.b,4,none⟩=some (.pointer (some ⟨K.sp,0,none⟩))∧w'.cell? ⟨K.b,5,none⟩=some (.pointer (some ⟨K.ss,0,none⟩))∧w'.cell? ⟨K.b,6,none⟩=some (.pointer (some ⟨K.su,0,none⟩))∧w'.cell? ⟨w1.heap.size,3,none⟩=some (.int .i64 p.at_)) (first | exact ⟨k0,k4,k5,k6,y3⟩ | exact ⟨q0,q4,q5,q6,q3⟩ | exact ⟨r0,r4,r5,r6,r3⟩) (first
              | (go_at_call 131;refine HCC.out.mono ?_;rintro e wa ⟨va,rfl,sta⟩;obtain ⟨aa,ac,rfl⟩:=ownsRow_form sta.row1;have q0:=core_h0 sta;have q4:=core_h4 sta;have q5:=core_h5 sta;have q6:=core_h6 sta;have q3:=(pg_load _ _ p _ sta.blk2).2.2.2.1)
              | (go_at_call 133;refine (core_giveS p.at_ CH _ _ sta List.mem_cons_self rfl).mono ?_;rintro e wb ⟨rfl,stb⟩;have r0:=core_h0 stb;have r4:=core_h4 stb;have r5:=core_h5 stb;have r6:=core_h6 stb;have r3:=(pg_load _ _ p _ stb.blk2).2.2.2.1))
             have st5:=stb
             rw [←HD1.out] at st5
             clear stb sta r0 r4 r5 r6 r3 q0 q4 q5 q6 q3 k0 k4 k5 k6
             have k9:=core_h9 st5
             have k11:=core_h11 st5
             have hme:=ζh (core_mem p.owner st5.drew)
             have hkl:=c_klook id st5.drew
             have hsh:=ζh ((coreInv st5).sh)
             obtain ⟨o,ho⟩:∃ o,o=(getA id d1.kept).getD none:=⟨_,rfl⟩
             rw [←ho] at hkl
             have HO:=ζh ho
             have HKL:=ζh hkl
             unfold evK at hkl
             clear st5 ho
             go_upto_region 16 with fail
             go_region_held3 (fun w'=>w'.cell? ⟨K.b,9,none⟩=some (.pointer (some ⟨K.lb,0,none⟩))∧w'.cell? ⟨K.b,11,none⟩=some (.map (some K.km))) (first | exact ⟨k9,k11⟩ | exact ⟨q9,q11⟩ | exact ⟨r9,r11⟩) (first
              | (go_at_call 158;refine hme.out.mono ?_;rintro e w6 ⟨rfl,st6⟩;have q9:=core_h9 st6;have q11:=core_h11 st6;have hkl6:=c_klook id st6;rw [←HO.out] at hkl6;unfold evK at hkl6)
              | (go_at_call 229;refine (c_came o (by rw [HO.out];exact ShAll.get hsh.out id) p.owner (d1.mem p.owner) st6).mono ?_;rintro e w7 ⟨rfl,st7⟩;have r9:=core_h9 st7;have r11:=core_h11 st7))
             all_goals
              have hpl:=core_place id ra p.owner (d.text p) (!Sha.cameB d1.log o (d1.mem p.owner)) HA.out (by have:=HGO.out;have:=HTR.out;have h9:=HD1T.out;simp only;rw [h9];rw [this];exact HGO.out) hto.out.1 hto.out.2 st7
              have HPL:=ζh hpl
              have hrf:R=((-1,0),CoM.came d id ra p.owner p):=HRY.out
              have hcm:CoM.came d id ra p.owner p=CoM.place { d1 with log:=Sha.cameL d1.log o p.owner (d1.mem p.owner) } id ra p.owner (d.text p) (!Sha.cameB d1.log o (d1.mem p.owner)):=by
               unfold CoM.came
               simp only
               rw [if_pos HP2.out,←HCH.out,←HD1.out,HO.out]
              have HRF:=ζh (hrf.trans (by rw [hcm]))
              clear hpl st7 st6 q9 q11 r9 r11 hkl6 hrf hcm k9 k11 hkl
              go_wp2_with fail
              refine HPL.out.mono ?_
              rintro e w8 ⟨rfl,st8⟩
              have HS8:=ζh st8
              clear st8
              go_wp2_with fail
              go_ret2
              rw [HRF.out]
              exact ⟨rfl,HS8.out.drop2.drop2⟩
           · have d9:(re != 0)=true:=by rw [bne_iff_ne];exact he
             have hrr:=HRX.out
             rw [if_pos he] at hrr
             have HRY:=ζh hrr
             have HS3:=ζh st3
             clear hrr he st3
             go_wp2_with fail
             go_ret2
             rw [HRY.out]
             exact ⟨rfl,HS3.out.drop2⟩
         · have d12:(p.place==2)=false:=by rw [beq_eq_false_iff_ne];exact hp2
           have HP2:=ζh hp2
           clear hl hr hli hE hp0 hp1 hp2
           go_wp2_with fail
           refine HLI.out.mono ?_
           rintro e w2 ⟨rfl,rfl⟩
           have htk:=core_take p.owner HN.out HS.out ST.out
           have htt:=take_took HS.out p.owner
           obtain ⟨⟨⟨ra,rt,re⟩,d⟩,hq⟩:∃ r,r=c.take p.owner:=⟨_,rfl⟩
           have hrr:=HRR.out
           rw [←hq] at htk htt hrr
           simp only at htk hrr
           have HTK:=ζh htk
           have HTT:=ζh htt
           have HRX:=ζh hrr
           clear htk htt hrr hq h0 h8 h10
           go_wp2_with fail
           refine HTK.out.mono ?_
           rintro e w3 ⟨rfl,st3⟩
           clear x0 x1 x2 x3 x4 x5 x6 x7 x8
           obtain ⟨x0,x1,x2,x3,x4,x5,x6,x7,x8⟩:=pg_load _ _ p _ st3.blk1
           by_cases he:re=0
           · have d9:(re != 0)=false:=by rw [he];rfl
             have hrr:=HRX.out
             rw [if_neg (by simp [he])] at hrr
             have HRY:=ζh hrr
             have htx:=ζh (core_text p st3)
             have hto:=ζh (core_textOk p st3)
             have HA:=ζh (show 0≤ra from HTT.out.at_ he)
             have HTR:=ζh (show d.tree=c.tree from HTT.out.tree)
             clear hrr he st3
             go_wp2_with fail
             refine htx.out.mono ?_
             rintro e w4 ⟨rfl,st4⟩
             obtain ⟨y0,y1,y2,y3,y4,y5,y6,y7,y8⟩:=pg_load _ _ p _ st4.blk1
             clear x0 x1 x2 x3 x4 x5 x6 x7 x8
             obtain ⟨d1,hd1⟩:∃ d1:CoM,d1=d:=⟨_,rfl⟩
             have HD1T:=ζh (show d1.tree=d.tree by rw [hd1])
             have HD1:=ζh hd1
             have st5:=st4
             rw [←hd1] at st5
             clear st4 hd1
             have k9:=core_h9 st5
             have k11:=core_h11 st5
             have hme:=ζh (core_mem p.owner st5.drew)
             have hkl:=c_klook id st5.drew
             have hsh:=ζh ((coreInv st5).sh)
             obtain ⟨o,ho⟩:∃ o,o=(getA id d1.kept).getD none:=⟨_,rfl⟩
             rw [←ho] at hkl
             have HO:=ζh ho
             have HKL:=ζh hkl
             unfold evK at hkl
             clear st5 ho
             go_upto_region 16 with fail
             go_region_held3 (fun w'=>w'.cell? ⟨K.b,9,none⟩=some (.pointer (some ⟨K.lb,0,none⟩))∧w'.cell? ⟨K.b,11,none⟩=some (.map (some K.km))) (first | exact ⟨k9,k11⟩ | exact ⟨q9,q11⟩ | exact ⟨r9,r11⟩) (first
              | (go_at_call 158;refine hme.out.mono ?_;rintro e w6 ⟨rfl,st6⟩;have q9:=core_h9 st6;have q11:=core_h11 st6;have hkl6:=c_klook id st6;rw [←HO.out] at hkl6;unfold evK at hkl6)
              | (go_at_call 229;refine (c_came o (by rw [HO.out];exact ShAll.get hsh.out id) p.owner (d1.mem p.owner) st6).mono ?_;rintro e w7 ⟨rfl,st7⟩;have r9:=core_h9 st7;have r11:=core_h11 st7))
             all_goals
              have hpl:=core_place id ra p.owner (d.text p) (!Sha.cameB d1.log o (d1.mem p.owner)) HA.out (by have:=HGO.out;have:=HTR.out;have h9:=HD1T.out;simp only;rw [h9];rw [this];exact HGO.out) hto.out.1 hto.out.2 st7
              have HPL:=ζh hpl
              have hrf:R=((-1,0),CoM.came d id ra p.owner p):=HRY.out
              have hcm:CoM.came d id ra p.owner p=CoM.place { d1 with log:=Sha.cameL d1.log o p.owner (d1.mem p.owner) } id ra p.owner (d.text p) (!Sha.cameB d1.log o (d1.mem p.owner)):=by
               unfold CoM.came
               simp only
               rw [if_neg HP2.out,←HD1.out,HO.out]
              have HRF:=ζh (hrf.trans (by rw [hcm]))
              clear hpl st7 st6 q9 q11 r9 r11 hkl6 hrf hcm k9 k11 hkl
              go_wp2_with fail
              refine HPL.out.mono ?_
              rintro e w8 ⟨rfl,st8⟩
              have HS8:=ζh st8
              clear st8
              go_wp2_with fail
              go_ret2
              rw [HRF.out]
              exact ⟨rfl,HS8.out.drop2⟩
           · have d9:(re != 0)=true:=by rw [bne_iff_ne];exact he
             have hrr:=HRX.out
             rw [if_pos he] at hrr
             have HRY:=ζh hrr
             have HS3:=ζh st3
             clear hrr he st3
             go_wp2_with fail
             go_ret2
             rw [HRY.out]
             exact ⟨rfl,HS3.out.drop2⟩
 · have d0:(E != 0)=true:=by rw [bne_iff_ne];exact hE
   have hr:R=((-1,2),c):=by rw [HR.out,if_pos (.inl hE)]
   have HRR:=ζh hr
   clear hr hli hE
   go_wp2_with fail
   go_ret2
   rw [HRR.out]
   exact ⟨rfl,ST.out.drop2⟩
end

section
open Cnt (CU ofU addU tryU giveU tryEU tryGU fullU lessU chainB groupB rightB amountB)
open Go.RowKit Go.Shelf Go.ChangeShapes Go.WideShapes
attribute [local go_sem] Oper.semAt_some
variable {w0 w:World} {F0:Nat→Prop} {A:Part} {K:CK} {c:CoM} {ls:List Part}
theorem small_make {N:Nat} {c:CoM} (h:Small N c) (hN:N≤1000000) (f i g:Int):Small (N+1) { c with pages:=Pag.makeT c.pages f i g }:=by
 have:=h.next
 have e:=makeT_next c.pages f i g (by omega)
 exact ⟨Nat.le_trans h.gens (Nat.le_succ _),fun x=>by have:=h.mem x;unfold CoM.mem at *;simp only at *;omega,by simp only;rw [e];omega,h.use⟩
theorem core_open (f i g:Int) {N:Nat} (hN:N < 1000000) (hs:Small N c) (st:Step w0 F0 (coreP K c::ls) w) :
 Calls Tryz.prog 113 #[.pointer (some ⟨K.b,0,none⟩),.agg #[.int .i64 f,.int .i64 i],.int .i64 g] w fun e w'=>e=.returned (.tuple #[.int .i64 (c.openF f i g).1.1,.int .i64 (c.openF f i g).1.2.1,.int .i64 (c.openF f i g).1.2.2])∧Step w0 F0 (coreP K (c.openF f i g).2::ls) w':=by
 obtain ⟨R,hR⟩:∃ R,R=c.openF f i g:=⟨_,rfl⟩
 rw [←hR]
 unfold CoM.openF at hR
 simp only at hR
 have HN:=ζh hN
 have HS:=ζh hs
 have HR:=ζh hR
 have ST0:=ζh st
 clear hR hN hs st
 go_enter Tryz.func113,Tryz.ntmps113
 go_upto_region 1 with fail
 obtain ⟨wk,hnwk⟩:∃ wk,wk=w.alloc (.cells #[.int .i64 f,.int .i64 i] 190):=⟨_,rfl⟩
 have stwk:=(ST0.out).local (cs:=#[.int .i64 f,.int .i64 i]) (T:=190)
 rw [←hnwk] at stwk ⊢
 clear hnwk
 have k7:=core_h7 stwk
 have kb:=stwk.blk1
 have kb0:=kb.cell 0
 have kb1:=kb.cell 1
 simp only [ζa,ζb,ζc] at kb0 kb1
 have hrd0:=c_readL f i stwk.drew
 obtain ⟨B,hB⟩:∃ B,B=Fil.hasU c.files f i:=⟨_,rfl⟩
 rw [←hB] at hrd0
 obtain ⟨E,hE⟩:∃ E:Int,E=if B=true then 0 else 2:=⟨_,rfl⟩
 rw [←hE] at hrd0
 have hrd:=ζh hrd0
 have HB:=ζh hB
 have HE:=ζh hE
 clear stwk hB ST0 hrd0 hE
 go_region_held3 (fun w'=>w'.cell? ⟨K.b,7,none⟩=some (.pointer (some ⟨K.fl,0,none⟩))∧w'.cell? ⟨w.heap.size,0,none⟩=some (.int .i64 f)∧w'.cell? ⟨w.heap.size,1,none⟩=some (.int .i64 i)) (first | exact ⟨k7,kb0,kb1⟩ | exact ⟨q7,q0,q1⟩) (first
  | (go_at_call 186;refine hrd.out.mono ?_;rintro e w1 ⟨rfl,st1⟩;have q7:=core_h7 st1;have q0:=st1.blk1.cell 0;have q1:=st1.blk1.cell 1;simp only [ζa,ζb,ζc] at q0 q1))
 have h0:=core_h0 st1
 have h10:=core_h10 st1
 have hli:=c_live g st1
 have ST:=ζh st1
 clear st1 kb kb0 kb1 k7
 cases B with
 | false =>
   have hr:R=((-1,-1,2),c):=by rw [HR.out,if_pos (.inl HB.out.symm)]
   have HRR:=ζh hr
   clear hr hli
   have dE:(E != 0)=true:=by have:=HE.out;simp at this;rw [this];rfl
   go_wp2_with fail
   go_ret3
   rw [HRR.out]
   exact ⟨rfl,ST.out.drop2⟩
 | true =>
   have dE:(E != 0)=false:=by have:=HE.out;simp at this;rw [this];rfl
   cases hl:c.live g with
   | false =>
     have hr:R=((-1,-1,2),c):=by rw [HR.out,if_pos (.inr hl)]
     rw [hl] at hli
     have HRR:=ζh hr
     have HLI:=ζh hli
     clear hr hli hl
     go_wp2_with fail
     refine HLI.out.mono ?_
     rintro e w2 ⟨rfl,rfl⟩
     go_wp2_with fail
     go_ret3
     rw [HRR.out]
     exact ⟨rfl,ST.out.drop2⟩
   | true =>
     have hr:=HR.out
     rw [if_neg (by rw [←HB.out,hl];simp)] at hr
     rw [hl] at hli
     have HRR:=ζh hr
     have HLI:=ζh hli
     have HLV:=ζh (live_lt hl)
     have hof:=ζh (c_pof f i ST.out.drew)
     obtain ⟨z,hz⟩:∃ z,z=Pag.ofT c.pages f i:=⟨_,rfl⟩
     rw [←hz] at hof
     have HZ:=ζh hz
     clear hr hli hl hz
     go_wp2_with fail
     refine HLI.out.mono ?_
     rintro e w2 ⟨rfl,rfl⟩
     go_wp2_with fail
     go_region_held3 (fun w'=>w'.cell? ⟨K.b,10,none⟩=some (.pointer (some ⟨K.pb,0,none⟩))∧w'.cell? ⟨w.heap.size,0,none⟩=some (.int .i64 f)∧w'.cell? ⟨w.heap.size,1,none⟩=some (.int .i64 i)) (first | exact ⟨h10,q0,q1⟩ | exact ⟨r10,r0,r1⟩) (first
      | (go_at_call 187;refine hof.out.mono ?_;rintro e w3 ⟨rfl,st3⟩;have r10:=core_h10 st3;have r0:=st3.blk1.cell 0;have r1:=st3.blk1.cell 1;simp only [ζa,ζb,ζc] at r0 r1))
     have ST3:=ζh st3
     clear st3 h10 q0 q1 q7 h0
     by_cases hz:z < 0
     · have d0:decide (z < 0)=true:=decide_eq_true hz
       have hr:=HRR.out
       rw [←HZ.out,if_pos hz] at hr
       have HR1:=ζh hr
       have hmk:=ζh (c_pmake f i g (.inr (by rw [←HZ.out];exact hz)) HLV.out ST3.out.drew)
       clear hr hz
       go_wp2_with fail
       go_region_held3 (fun w'=>w'.cell? ⟨K.b,10,none⟩=some (.pointer (some ⟨K.pb,0,none⟩))∧w'.cell? ⟨w.heap.size,0,none⟩=some (.int .i64 f)∧w'.cell? ⟨w.heap.size,1,none⟩=some (.int .i64 i)) (first | exact ⟨r10,r0,r1⟩ | exact ⟨s10,s0,s1⟩) (first
        | (go_at_call 188;refine hmk.out.mono ?_;rintro e w4 ⟨rfl,st4⟩;have s10:=core_h10 st4;have s0:=st4.blk1.cell 0;have s1:=st4.blk1.cell 1;simp only [ζa,ζb,ζc] at s0 s1))
       have hbr:=core_bring c.pages.next g (N:=N+1) (by have:=HN.out;omega) (small_make HS.out (by have:=HN.out;omega) f i g) st4
       obtain ⟨⟨⟨ra,re⟩,d⟩,hq⟩:∃ r,r=CoM.bring { c with pages:=Pag.makeT c.pages f i g } c.pages.next g:=⟨_,rfl⟩
       have hr:=HR1.out
       rw [←hq] at hbr hr
       simp only at hbr hr
       have HBR:=ζh hbr
       have HR2:=ζh hr
       clear hbr hr hq st4 r10 r0 r1
       go_wp2_with fail
       refine HBR.out.mono ?_
       rintro e w5 ⟨rfl,st5⟩
       by_cases he:re=0
       · have d1:(re==0)=true:=by rw [he];rfl
         have hr:=HR2.out
         rw [if_pos he] at hr
         have HR3:=ζh hr
         have HS5:=ζh st5
         clear hr he st5
         go_wp2_with fail
         go_ret3
         rw [HR3.out]
         exact ⟨rfl,HS5.out.drop2⟩
       · have d1:(re==0)=false:=by rw [beq_eq_false_iff_ne];exact he
         have hr:=HR2.out
         rw [if_neg he] at hr
         have HR3:=ζh hr
         have h10:=core_h10 st5
         have hdr:=ζh (c_pdrop c.pages.next st5)
         clear hr he st5
         go_wp2_with fail
         refine hdr.out.mono ?_
         rintro e w6 ⟨rfl,st6⟩
         have HS6:=ζh st6
         clear st6
         go_wp2_with fail
         go_ret3
         rw [HR3.out]
         exact ⟨rfl,HS6.out.drop2⟩
     · have d0:decide (z < 0)=false:=decide_eq_false hz
       have hr:=HRR.out
       rw [←HZ.out,if_neg hz] at hr
       have hbr:=core_bring z g (N:=N) (by have:=HN.out;omega) HS.out ST3.out
       obtain ⟨⟨⟨ra,re⟩,d⟩,hq⟩:∃ r,r=CoM.bring c z g:=⟨_,rfl⟩
       rw [←hq] at hbr hr
       simp only at hbr hr
       have HBR:=ζh hbr
       have HR2:=ζh hr
       clear hbr hr hq hz r10 r0 r1
       go_wp2_with fail
       refine HBR.out.mono ?_
       rintro e w5 ⟨rfl,st5⟩
       by_cases he:re=0
       · have d1:(re==0)=true:=by rw [he];rfl
         have hr:=HR2.out
         rw [if_pos he] at hr
         have HR3:=ζh hr
         have HS5:=ζh st5
         clear hr he st5
         go_wp2_with fail
         go_ret3
         rw [HR3.out]
         exact ⟨rfl,HS5.out.drop2⟩
       · have d1:(re==0)=false:=by rw [beq_eq_false_iff_ne];exact he
         have hr:=HR2.out
         rw [if_neg he] at hr
         have HR3:=ζh hr
         have HS5:=ζh st5
         clear hr he st5
         go_wp2_with fail
         go_ret3
         rw [HR3.out]
         exact ⟨rfl,HS5.out.drop2⟩
end
end Go.Proofs.YtkfoeonggmlebaaGreatDoor
