/-
  Contracts of the program's functions, and plain facts, towards the laws of millpondtop. No condition beyond those that each theorem bears.
-/
import Derived.Test.YtkfoeonggmlebaaGreatDoorQ22
import Derived.Test.YtkfoeonggmlebaaGreatDoorQ24
import Derived.Test.YtkfoeonggmlebaaGreatDoorQAA
set_option maxRecDepth 100000
set_option maxHeartbeats 4000000
namespace Go.Proofs.YtkfoeonggmlebaaGreatDoor
section
open Go.RowKit Go.Shelf Go.ChangeShapes Go.WideShapes
attribute [local go_sem] Oper.semAt_some
variable {w0 w:World} {F0:Nat→Prop} {A:Part} {K:CK} {c:CoM} {ls:List Part}
theorem core_tree (st:Step w0 F0 (coreP K c::ls) w):Calls Tryz.prog 50 #[.pointer (some ⟨K.b,0,none⟩)] w fun e w'=>e=.returned (.pointer (some ⟨K.tb,0,none⟩))∧w=w':=by
 have h0:=core_h0 st
 clear st
 go_enter Tryz.func50,Tryz.ntmps50
 go_wp2_with fail
 go_ret
 exact ⟨rfl,rfl⟩
theorem core_here (id:Int) (st:Step w0 F0 (coreP K c::ls) w) :
 Calls Tryz.prog 116 #[.pointer (some ⟨K.b,0,none⟩),.int .i64 id] w fun e w'=>e=.returned (.tuple #[.int .i64 (c.page id).at_,.bool (c.hereB id)])∧Step w0 F0 (coreP K c::ls) w':=by
 have h10:=core_h10 st
 obtain ⟨R,hR⟩:∃ R,R=c.hereB id:=⟨_,rfl⟩
 rw [←hR]
 unfold CoM.hereB at hR
 have hpg:=c_page id st
 obtain ⟨p,hp⟩:∃ p,p=c.page id:=⟨_,rfl⟩
 obtain ⟨E,hE⟩:∃ E,E=Pag.pageE c.pages id:=⟨_,rfl⟩
 rw [←hp,←hE] at hR hpg
 rw [←hp]
 unfold Pag.PG.val Pag.PG.cells at hpg
 have HR:=ζh hR
 have HPG:=ζh hpg
 clear hR hpg hp hE st
 go_enter Tryz.func116,Tryz.ntmps116
 go_wp2_with fail
 refine HPG.out.mono ?_
 rintro e w1 ⟨rfl,st1⟩
 go_upto_region 2 with fail
 obtain ⟨wp,hnwp⟩:∃ wp,wp=w1.alloc (.cells #[.int .i64 p.file,.int .i64 p.index,.int .i64 p.place,.int .i64 p.at_,.int .i64 p.owner,.int .i64 p.refs,.int .i64 0,.bool false,.bool p.dirty] 198):=⟨_,rfl⟩
 have stwp:=(st1).local (cs:=#[.int .i64 p.file,.int .i64 p.index,.int .i64 p.place,.int .i64 p.at_,.int .i64 p.owner,.int .i64 p.refs,.int .i64 0,.bool false,.bool p.dirty]) (T:=198)
 rw [←hnwp] at stwp ⊢
 clear hnwp
 obtain ⟨x0,x1,x2,x3,x4,x5,x6,x7,x8⟩:=pg_load _ _ p _ stwp.blk1
 have ST:=ζh stwp
 clear st1 stwp HPG
 by_cases hE:E=0
 · have d0:(E==0)=true:=by rw [hE];rfl
   have hr:R=(p.place==1):=by
    rw [HR.out,hE,decide_eq_true rfl,Bool.true_and]
    by_cases h:p.place=1
    · rw [h];rfl
    · rw [decide_eq_false h];symm;rw [beq_eq_false_iff_ne];exact h
   have HRR:=ζh hr
   clear hr hE
   go_wp2_with fail
   go_quiet (fail)
   go_wp2_with fail
   go_ret2
   rw [HRR.out]
   exact ⟨rfl,ST.out.drop2.drewN _⟩
 · have d0:(E==0)=false:=by rw [beq_eq_false_iff_ne];exact hE
   have hr:R=false:=by rw [HR.out,decide_eq_false hE,Bool.false_and]
   have HRR:=ζh hr
   clear hr hE
   go_wp2_with fail
   go_quiet (fail)
   go_wp2_with fail
   go_ret2
   rw [HRR.out]
   exact ⟨rfl,ST.out.drop2.drewN _⟩
theorem core_get (id a:Int) (st:Step w0 F0 (coreP K c::ls) w) :
 Calls Tryz.prog 68 #[.pointer (some ⟨K.b,0,none⟩),.int .i64 id,.int .i64 a] w fun e w'=>e=.returned (.tuple #[.int .u8 (c.get id a).1.1,.int .i64 (c.get id a).1.2])∧Step w0 F0 (coreP K (c.get id a).2::ls) w':=by
 have hhe:=core_here id st
 obtain ⟨R,hR⟩:∃ R,R=c.get id a:=⟨_,rfl⟩
 rw [←hR]
 unfold CoM.get at hR
 have HR:=ζh hR
 clear hR
 cases hb:c.hereB id with
 | false =>
   rw [hb] at hhe
   have hr:R=((0,2),c):=by rw [HR.out,hb];rfl
   have HRR:=ζh hr
   have HHE:=ζh hhe
   clear hb hr hhe st
   go_enter Tryz.func68,Tryz.ntmps68
   go_wp2_with fail
   refine HHE.out.mono ?_
   rintro e w1 ⟨rfl,st1⟩
   have HS1:=ζh st1
   clear st1
   go_wp2_with fail
   go_ret2
   rw [HRR.out]
   exact ⟨rfl,HS1.out⟩
 | true =>
   rw [hb] at hhe
   have hr:=HR.out
   rw [hb,if_pos rfl] at hr
   have HHE:=ζh hhe
   have HRR:=ζh hr
   clear hb hr hhe st
   go_enter Tryz.func68,Tryz.ntmps68
   go_wp2_with fail
   refine HHE.out.mono ?_
   rintro e w1 ⟨rfl,st1⟩
   have k2:=core_h2 st1
   have hgb:=ζh (c_getB (c.page id).at_ a st1)
   have HS1:=ζh st1
   obtain ⟨E,hE⟩:∃ E,E=Byt.byteE c.fr.bytes (c.page id).at_ a:=⟨_,rfl⟩
   rw [←hE] at hgb
   have hr:=HRR.out
   rw [←hE] at hr
   have HR2:=ζh hr
   clear st1 hE hr
   go_wp2_with fail
   refine hgb.out.mono ?_
   rintro e w2 ⟨rfl,rfl⟩
   by_cases hE:E=0
   · have d0:(E==0)=true:=by rw [hE];rfl
     have hr:=HR2.out
     rw [if_pos hE] at hr
     have HR3:=ζh hr
     have k8:=core_h8 HS1.out
     clear hE hr
     go_wp2_with fail
     refine (c_gtouch id HS1.out).mono ?_
     rintro e w3 ⟨⟨_,rfl⟩,st3⟩
     have HS3:=ζh st3
     clear st3
     go_wp2_with fail
     go_ret2
     rw [HR3.out]
     exact ⟨rfl,HS3.out⟩
   · have d0:(E==0)=false:=by rw [beq_eq_false_iff_ne];exact hE
     have hr:=HR2.out
     rw [if_neg hE] at hr
     have HR3:=ζh hr
     clear hE hr
     go_wp2_with fail
     go_ret2
     rw [HR3.out]
     exact ⟨rfl,HS1.out⟩
theorem core_put (id a b:Int) (hb:0≤b∧b < 256) (st:Step w0 F0 (coreP K c::ls) w) :
 Calls Tryz.prog 73 #[.pointer (some ⟨K.b,0,none⟩),.int .i64 id,.int .i64 a,.int .u8 b] w fun e w'=>e=.returned (.int .i64 (c.put id a b).1)∧Step w0 F0 (coreP K (c.put id a b).2::ls) w':=by
 have hhe:=core_here id st
 obtain ⟨R,hR⟩:∃ R,R=c.put id a b:=⟨_,rfl⟩
 rw [←hR]
 unfold CoM.put at hR
 have HR:=ζh hR
 have HB:=ζh hb
 clear hR hb
 cases hb:c.hereB id with
 | false =>
   rw [hb] at hhe
   have hr:R=(2,c):=by rw [HR.out,hb];rfl
   have HRR:=ζh hr
   have HHE:=ζh hhe
   clear hb hr hhe st
   go_enter Tryz.func73,Tryz.ntmps73
   go_wp2_with fail
   refine HHE.out.mono ?_
   rintro e w1 ⟨rfl,st1⟩
   have HS1:=ζh st1
   clear st1
   go_wp2_with fail
   go_ret
   rw [HRR.out]
   exact ⟨rfl,HS1.out⟩
 | true =>
   rw [hb] at hhe
   have hr:=HR.out
   rw [hb,if_pos rfl] at hr
   have HHE:=ζh hhe
   have HRR:=ζh hr
   clear hb hr hhe st
   go_enter Tryz.func73,Tryz.ntmps73
   go_wp2_with fail
   refine HHE.out.mono ?_
   rintro e w1 ⟨rfl,st1⟩
   have k2:=core_h2 st1
   have hgb:=ζh (c_putB (c.page id).at_ a b HB.out st1)
   have HS1:=ζh st1
   obtain ⟨E,hE⟩:∃ E,E=Byt.byteE c.fr.bytes (c.page id).at_ a:=⟨_,rfl⟩
   rw [←hE] at hgb
   have hr:=HRR.out
   rw [←hE] at hr
   have HR2:=ζh hr
   have HE:=ζh hE
   clear st1 hE hr
   go_wp2_with fail
   refine hgb.out.mono ?_
   rintro e w2 ⟨rfl,st2⟩
   by_cases hE:E=0
   · have d0:(E==0)=true:=by rw [hE];rfl
     have hr:=HR2.out
     rw [if_pos hE] at hr
     have HR3:=ζh hr
     have k8:=core_h8 st2
     have hto:=ζh (c_gtouch id st2)
     clear hE hr st2
     go_wp2_with fail
     refine hto.out.mono ?_
     rintro e w3 ⟨⟨_,rfl⟩,st3⟩
     have k10:=core_h10 st3
     have hmk:=ζh (c_pmark id true st3)
     clear st3
     go_wp2_with fail
     refine hmk.out.mono ?_
     rintro e w4 ⟨⟨_,rfl⟩,st4⟩
     have HS4:=ζh st4
     clear st4
     go_wp2_with fail
     go_ret
     rw [HR3.out]
     exact ⟨rfl,HS4.out⟩
   · have d0:(E==0)=false:=by rw [beq_eq_false_iff_ne];exact hE
     have hr:=HR2.out
     rw [if_neg hE] at hr
     have HR3:=ζh hr
     have hbb:Byt.putByte c.fr.bytes (c.page id).at_ a b=c.fr.bytes:=by
      have:=HE.out
      unfold Byt.byteE at this
      unfold Byt.putByte
      split at this
      · exact absurd this hE
      · rename_i h;rw [if_neg h]
     rw [hbb] at st2
     have HS2:=ζh st2
     clear hE hr hbb st2
     go_wp2_with fail
     go_ret
     rw [HR3.out]
     exact ⟨rfl,HS2.out⟩
end
end Go.Proofs.YtkfoeonggmlebaaGreatDoor
