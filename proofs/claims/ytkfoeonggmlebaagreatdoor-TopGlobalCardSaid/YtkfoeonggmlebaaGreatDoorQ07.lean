/-
  Contracts of the program's functions, and plain facts, towards the laws of millpondtop. No condition beyond those that each theorem bears.
-/
import Derived.Test.YtkfoeonggmlebaaGreatDoorQ06
import Derived.Test.YtkfoeonggmlebaaGreatDoorQAA
set_option maxRecDepth 100000
set_option maxHeartbeats 4000000
namespace Go.Proofs.YtkfoeonggmlebaaGreatDoor
section
open Go.RowKit
set_option maxHeartbeats 40000000 in
theorem symm_any (k:Int→Int) (c:Int→Int→Int) (fn:Nat) (lb:Array Value) (g cap:Nat):∀ (N:Nat) (P A B S xs:List Int) (w:World),A.length+B.length≤N→xs=P++(A++(B++S))→RowI w g cap xs→CmpAt k c fn lb g w→0 < A.length→0 < B.length→Fall k A→Fall k B→xs.length≤1000000 →
 Calls Tryz.prog 272 #[.slice (some ⟨g,0,none⟩) xs.length cap,.int .i64 P.length,.int .i64 (P++A).length,.int .i64 (P++(A++B)).length,.func (.func fn) #[] lb] w fun e w' =>
  e=.returned (.tuple #[])∧Mod (fun b=>b=g) w w'∧RowI w' g cap (P++(mrg k A B++S)):=by
 intro N
 induction N with
 | zero=>intro P A B S xs w hN _ _ _ hA0;omega
 | succ N ih =>
 intro P A B S xs w hN hxs hrow hc hA0 hB0 hA hB hfew
 by_cases hA1:A.length=1
 · obtain ⟨x,rfl⟩:=List.length_eq_one_iff.1 hA1
   exact symm_left k c fn lb g cap P B S xs x w (by rw [hxs];simp) hrow hc hB hfew
 by_cases hB1:B.length=1
 · obtain ⟨y,rfl⟩:=List.length_eq_one_iff.1 hB1
   exact symm_right k c fn lb g cap P A S xs y w (by rw [hxs];simp) hrow hc hA (by omega) hfew
 obtain ⟨hlc,hmax⟩:=hrow.few
 unfold maxLen at hmax
 have hnl:xs.length=P.length+A.length+B.length+S.length:=by rw [hxs];simp;omega
 have hml:(P++A).length=P.length+A.length:=by simp
 have hbl:(P++(A++B)).length=P.length+A.length+B.length:=by simp;omega
 obtain ⟨n,hn⟩:∃ n,n=xs.length:=⟨_,rfl⟩
 obtain ⟨a,ha⟩:∃ a,a=P.length:=⟨_,rfl⟩
 obtain ⟨m,hm⟩:∃ m,m=(P++A).length:=⟨_,rfl⟩
 obtain ⟨b,hb⟩:∃ b,b=(P++(A++B)).length:=⟨_,rfl⟩
 rw [←hn] at hlc hfew
 rw [←hn,←ha,←hm,←hb]
 rw [hxs] at hrow
 have henter:=hc.enter
 obtain ⟨mid,hmid⟩:∃ mid,mid=(a+b) / 2:=⟨_,rfl⟩
 obtain ⟨s0,hs0⟩:∃ s0,s0=if mid < m then mid+m - b else a:=⟨_,rfl⟩
 obtain ⟨r0,hr0⟩:∃ r0,r0=if mid < m then mid else m:=⟨_,rfl⟩
 have hm':m=a+A.length:=by omega
 have hb':b=m+B.length:=by omega
 have hbn:b≤n:=by omega
 have hsr:s0≤r0∧a≤s0∧r0≤m∧r0≤mid∧mid+m≤s0+b∧mid < b∧a < mid:=by rw [hs0,hr0];split<;>omega
 have hends:(s0=a∨mid+m=s0+b)∧(r0=m∨r0=mid):=by rw [hs0,hr0];split<;>omega
 have hmI:((a:Int)+(b:Int)) / 2=(mid:Int):=by omega
 have hnI:IntKind.i64.wrap ((mid:Int)+(m:Int))=(mid:Int)+(m:Int):=wrap_small _ (by omega) (by omega)
 have d0:((m:Int) - (a:Int)==1)=false:=by simp;omega
 have d1:((b:Int) - (m:Int)==1)=false:=by simp;omega
 have la:a≤1000000:=by omega
 have lb':b≤1000000:=by omega
 have lm:m≤1000000:=by omega
 have ld:mid≤1000000:=by omega
 have lmI:1≤m:=by omega
 have HIH:=ζh ih
 have HC:=ζh hc
 have HR:=ζh hrow
 have HA:=ζh hA
 have HB:=ζh hB
 have HN:=ζh hN
 have Hn:=ζh (show n=b+S.length by omega)
 have Ha:=ζh ha
 have Hm:=ζh hm'
 have Hb:=ζh hb'
 have HX:=ζh hfew
 have HSR:=ζh hsr
 have HE:=ζh hends
 have HS0:=ζh hs0
 have HR0:=ζh hr0
 have HMI:=ζh hmid
 clear ih hn ha hm hb hnl hml hbl hxs hrow hc hA hB hA0 hB0 hN hm' hb' hsr hends hs0 hr0 hmid hA1 hB1
 go_enter Tryz.func272,Tryz.ntmps272
 by_cases hmm:mid < m
 case' pos =>
  have dm:decide (mid < m)=true:=decide_eq_true hmm
  have ws:(s0:Int)=(mid:Int)+(m:Int) - (b:Int):=by have:=HS0.out;rw [if_pos hmm] at this;have:=HSR.out;omega
  have wr0:r0=mid:=by have:=HR0.out;rwa [if_pos hmm] at this
  have WS:=ζh ws
  have WR:=ζh wr0
  have ww:(mid:Int)+(m:Int) - (b:Int)=(s0:Int):=by omega
  clear ws wr0 hmm
 case' neg =>
  have dm:decide (mid < m)=false:=decide_eq_false hmm
  have ws:s0=a:=by have:=HS0.out;rwa [if_neg hmm] at this
  have wr0:r0=m:=by have:=HR0.out;rwa [if_neg hmm] at this
  have WS:=ζh ws
  have WR:=ζh wr0
  clear ws wr0 hmm
 case' pos =>
  go_wp2_with fail
  clear d0 d1 dm ww hmI hnI
 case' neg =>
  go_wp2_with fail
  clear d0 d1 dm hmI hnI
 all_goals
  go_loopw [20,21] (fun i j wr=>∃ s r:Nat,s0≤s∧s≤r∧r≤r0∧i=.int .i64 (s:Int)∧j=.int .i64 (r:Int) ∧
   Hid (s=s0∨∃ x y,A[s - a - 1]?=some x∧B[mid - s]?=some y∧k y≤k x)∧Hid (r=r0∨∃ x y,A[r - a]?=some x∧B[mid - r - 1]?=some y∧k x < k y) ∧
   Mod (fun b=>b=g) w wr∧Hid (RowI wr g cap (P++(A++(B++S))))) (fun i j _=>(intOf j).toNat - (intOf i).toNat)
  case atStart=>exact ⟨s0,r0,Nat.le_refl _,HSR.out.1,Nat.le_refl _,by rw [WS.out],by rw [WR.out],ζh (.inl rfl),ζh (.inl rfl),Mod.refl _ _,ζh HR.out⟩
  case round =>
   obtain ⟨s,r,hs1,hsr,hr1,rfl,rfl,HL1,HL2,hmr,HRR⟩:=hrel
   obtain ⟨wo,rfl⟩:∃ wo:World,wo=wr:=⟨_,rfl⟩
   have HM:=ζh hmr
   obtain ⟨f1,f2,f3,f4,f5,f6,f7⟩:=HSR.out
   have HQ:=ζh (⟨hs1,hsr,hr1,f1,f2,f3,f4,f5,f6,f7⟩:s0≤s∧s≤r∧r≤r0∧s0≤r0∧a≤s0∧r0≤m∧r0≤mid∧mid+m≤s0+b∧mid < b∧a < mid)
   have lr:r≤1000000:=by omega
   have ls:s≤1000000:=by omega
   clear hmr HR f1 f2 f3 f4 f5 f6 f7 hs1 hsr hr1
   by_cases hlt:s < r
   · obtain ⟨h,hh⟩:∃ h,h=(s+r) / 2:=⟨_,rfl⟩
     obtain ⟨v,hv⟩:∃ v,v=mid+m - 1 - h:=⟨_,rfl⟩
     have hq:=HQ.out
     have hm:=Hm.out
     have hb:=Hb.out
     have hn:=Hn.out
     have ha:=Ha.out
     have hhb:h < r:=by omega
     obtain ⟨x,hx⟩:∃ x,A[h - a]?=some x:=⟨_,ζg (by omega)⟩
     obtain ⟨y,hy⟩:∃ y,B[mid - h - 1]?=some y:=⟨_,ζg (by omega)⟩
     have hhI:((s:Int)+r) / 2=(h:Int):=by omega
     have hvI:(mid:Int)+(m:Int) - 1 - (h:Int)=(v:Int):=by omega
     have c0:=HRR.out.cell (j:=v) (x:=y) (by rw [List.getElem?_append_right (by omega),←ha,List.getElem?_append_right (by omega),List.getElem?_append_left (by omega),show v - a - A.length=mid - h - 1 by omega];exact hy)
     have c1:=HRR.out.cell (j:=h) (x:=x) (by rw [List.getElem?_append_right (by omega),←ha,List.getElem?_append_left (by omega)];exact hx)
     have dlt:decide ((s:Int) < (r:Int))=true:=decide_eq_true (by omega)
     have dlt':decide (s < r)=true:=decide_eq_true hlt
     have hwv:IntKind.i64.wrap (v:Int)=(v:Int):=wrap_small _ (by omega) (by omega)
     have i0:0≤(v:Int):=by omega
     have i1:(v:Int) < n:=by omega
     have i2:0≤(h:Int):=by omega
     have i3:(h:Int) < n:=by omega
     have hcl:=fun w' h'=>HC.out.call y x w' h'
     have hless:=HC.out.less y x
     have HH:=ζh hh
     have HV:=ζh hv
     have HXX:=ζh hx
     have HYY:=ζh hy
     have lh:h≤1000000:=by omega
     have HLT:=ζh hlt
     clear hh hv hq hm hb hn ha hhb hx hy hlt
     cases hl2:decide (k x < k y)
     case false =>
      rw [hl2] at hless
      have HL:=ζh hl2
      clear hl2
      go_wp2_with fail
      go_still_tail 11,(by kernel_rfl)
      go_wp2_with fail
      refine (hcl _ HM.out.drew).mono ?_
      rintro e w1 ⟨rfl,hm1⟩
      go_wp2_with fail
      go_roundw
      case rel =>
       have hq:=HQ.out
       have hh:=HH.out
       have hlt:=HLT.out
       refine ⟨h+1,r,by omega,by omega,by omega,by go_num,by go_num,ζh (.inr ⟨x,y,?_,?_,?_⟩),HL2,HM.out.drew.trans (hm1.mono (fun _ x=>x.elim)),ζh (HRR.out.keep ((Mod.refl (fun _=>False) _).drew.trans hm1) (fun x=>x))⟩
       · rw [show h+1 - a - 1=h - a by omega];exact HXX.out
       · rw [show mid - (h+1)=mid - h - 1 by omega];exact HYY.out
       · have h2:=HL.out
         simp at h2
         exact h2
      case measure=>simp [intOf];have:=HH.out;have:=HQ.out;have:=HLT.out;omega
     case true =>
      rw [hl2] at hless
      have HL:=ζh hl2
      clear hl2
      go_wp2_with fail
      go_still_tail 11,(by kernel_rfl)
      go_wp2_with fail
      refine (hcl _ HM.out.drew).mono ?_
      rintro e w1 ⟨rfl,hm1⟩
      go_wp2_with fail
      go_roundw
      case rel =>
       have hq:=HQ.out
       have hh:=HH.out
       have hlt:=HLT.out
       refine ⟨s,h,by omega,by omega,by omega,by go_num,by go_num,HL1,ζh (.inr ⟨x,y,HXX.out,HYY.out,?_⟩),HM.out.drew.trans (hm1.mono (fun _ x=>x.elim)),ζh (HRR.out.keep ((Mod.refl (fun _=>False) _).drew.trans hm1) (fun x=>x))⟩
       have h2:=HL.out
       simp at h2
       exact h2
      case measure=>simp [intOf];have:=HH.out;have:=HQ.out;have:=HLT.out;omega
   · obtain rfl:s=r:=by have:=HQ.out;omega
     have hq:=HQ.out
     have hm:=Hm.out
     have hb:=Hb.out
     have hn:=Hn.out
     have ha:=Ha.out
     have hx:=HX.out
     have hN:=HN.out
     obtain ⟨i,hi⟩:∃ i,i=s - a:=⟨_,rfl⟩
     obtain ⟨j,hj⟩:∃ j,j=mid - s:=⟨_,rfl⟩
     obtain ⟨u,hu⟩:∃ u,u=mid+m - s:=⟨_,rfl⟩
     have hcut:mrg k A B=mrg k (A.take i) (B.take j)++mrg k (A.drop i) (B.drop j):=by
      have he:=HE.out
      refine cut_ok HA.out HB.out (by omega) (by omega) ?_ ?_
      · rcases HL1.out with h1 | ⟨x,y,h1,h2,h3⟩
        · rcases he.1 with h2 | h2
          · exact .inl (by omega)
          · exact .inr (.inl (by omega))
        · exact .inr (.inr ⟨x,y,by rw [hi];exact h1,by rw [hj];exact h2,h3⟩)
      · rcases HL2.out with h1 | ⟨x,y,h1,h2,h3⟩
        · rcases he.2 with h2 | h2
          · exact .inl (by omega)
          · exact .inr (.inl (by omega))
        · exact .inr (.inr ⟨x,y,by rw [hi];exact h1,by rw [hj];exact h2,h3⟩)
     obtain ⟨A1,hA1⟩:∃ A1,A1=A.take i:=⟨_,rfl⟩
     obtain ⟨A2,hA2⟩:∃ A2,A2=A.drop i:=⟨_,rfl⟩
     obtain ⟨B1,hB1⟩:∃ B1,B1=B.take j:=⟨_,rfl⟩
     obtain ⟨B2,hB2⟩:∃ B2,B2=B.drop j:=⟨_,rfl⟩
     rw [←hA1,←hA2,←hB1,←hB2] at hcut
     have eA:A=A1++A2:=by rw [hA1,hA2,List.take_append_drop]
     have eB:B=B1++B2:=by rw [hB1,hB2,List.take_append_drop]
     have lA1:A1.length=i:=by rw [hA1,List.length_take];omega
     have lA2:A2.length=A.length - i:=by rw [hA2,List.length_drop]
     have lB1:B1.length=j:=by rw [hB1,List.length_take];omega
     have lB2:B2.length=B.length - j:=by rw [hB2,List.length_drop]
     have fA:=Fall.app k (by rw [←eA];exact HA.out:Fall k (A1++A2))
     have fB:=Fall.app k (by rw [←eB];exact HB.out:Fall k (B1++B2))
     have fM1:Fall k (mrg k A1 B1):=mrg_fall k fA.1 fB.1
     have hr0:RowI wo g cap (P++(A1++(A2++(B1++(B2++S))))):=by have:=HRR.out;rw [eA,eB] at this;simpa using this
     have HFA:=ζh fA
     have HFB:=ζh fB
     have HCUT:=ζh hcut
     have lens:(P++A1).length=s∧((P++A1)++A2).length=m∧((P++A1)++(A2++B1)).length=u∧(P++(A1++B1)).length=mid∧(P++mrg k A1 B1).length=mid∧((P++mrg k A1 B1)++A2).length=u∧((P++mrg k A1 B1)++(A2++B2)).length=b∧A1.length+A2.length=A.length∧B1.length+B2.length=B.length:=by
      simp only [List.length_append,mrg_length];omega
     have HL:=ζh lens
     have hall:(P++(A1++(A2++(B1++(B2++S))))).length=n∧(P++(A1++(B1++(A2++(B2++S))))).length=n∧(P++(mrg k A1 B1++(A2++(B2++S)))).length=n:=by
      simp only [List.length_append,mrg_length];omega
     have HALL:=ζh hall
     have huI:(mid:Int)+(m:Int) - (s:Int)=(u:Int):=by omega
     have hwu:IntKind.i64.wrap (u:Int)=(u:Int):=wrap_small _ (by omega) (by omega)
     have HP:=ζh (⟨lA1,lA2,lB1,lB2,hi,hj,hu⟩:A1.length=i∧A2.length=A.length - i∧B1.length=j∧B2.length=B.length - j∧i=s - a∧j=mid - s∧u=mid+m - s)
     have HZ:Hid (A1.length+a=s∧A2.length+s=m∧B1.length+s=mid∧u=m+B1.length∧B2.length+u=b∧a < mid∧mid < b∧A1.length+A2.length+B1.length+B2.length≤N+1):=ζh (by refine ⟨?_,?_,?_,?_,?_,?_,?_,?_⟩<;>omega)
     have dlt:decide ((s:Int) < (s:Int))=false:=decide_eq_false (by omega)
     have HR0:=ζh hr0
     clear hr0 hall lens hcut fA fB fM1 lA1 lA2 lB1 lB2 eA eB hA1 hA2 hB1 hB2 hu hi hj hq hm hb hn ha hN hx HL1 HL2 HRR
     rcases Classical.em (s < m) with hA2 | hA2
     · rcases Classical.em (m < u) with hB1 | hB1
       · have r1:decide (s < m)=true:=decide_eq_true (by have:=HZ.out;(try (have:=HhA2.out));(try (have:=HhB1.out));(try (have:=HhhA1.out));(try (have:=HhhB2.out));omega)
         have r2:decide (m < u)=true:=decide_eq_true (by have:=HZ.out;(try (have:=HhA2.out));(try (have:=HhB1.out));(try (have:=HhhA1.out));(try (have:=HhhB2.out));omega)
         have r5:decide (mid < u)=true:=decide_eq_true (by have:=HZ.out;(try (have:=HhA2.out));(try (have:=HhB1.out));(try (have:=HhhA1.out));(try (have:=HhhB2.out));omega)
         have r4:decide (s < mid)=true:=decide_eq_true (by have:=HZ.out;(try (have:=HhA2.out));(try (have:=HhB1.out));(try (have:=HhhA1.out));(try (have:=HhhB2.out));omega)
         have HhA2:=ζh hA2
         have HhB1:=ζh hB1
         clear hA2 hB1
         have hro:=rotate_any fn lb g cap (P++A1) A2 B1 (B2++S) _ wo (by simp) HR0.out (by have:=HZ.out;(try (have:=HhA2.out));(try (have:=HhB1.out));(try (have:=HhhA1.out));(try (have:=HhhB2.out));omega) (by have:=HZ.out;(try (have:=HhA2.out));(try (have:=HhB1.out));(try (have:=HhhA1.out));(try (have:=HhhB2.out));omega) (by rw [HALL.out.1];exact HX.out)
         rw [HALL.out.1,HL.out.1,HL.out.2.1,HL.out.2.2.1,show P++A1++(B1++(A2++(B2++S)))=P++(A1++(B1++(A2++(B2++S)))) by simp] at hro
         have HRO:=ζh hro
         clear hro
         go_wp2_with fail
         refine HRO.out.mono ?_
         rintro e w1 ⟨rfl,hm1,hr1⟩
         have HM1:=ζh (HM.out.trans hm1)
         have HR1:=ζh hr1
         clear hm1 hr1 HRO
         go_upto_region 41 with fail
         rcases Classical.em (a < s) with hA1 | hA1
         · have r3:decide (a < s)=true:=decide_eq_true hA1
           have HhhA1:=ζh hA1
           clear hA1
           have hst:=HIH.out P A1 B1 (A2++(B2++S)) _ _ (by have:=HZ.out;(try (have:=HhA2.out));(try (have:=HhB1.out));(try (have:=HhhA1.out));(try (have:=HhhB2.out));omega) (by simp) HR1.out (HC.out.at HM1.out) (by have:=HZ.out;(try (have:=HhA2.out));(try (have:=HhB1.out));(try (have:=HhhA1.out));(try (have:=HhhB2.out));omega) (by have:=HZ.out;(try (have:=HhA2.out));(try (have:=HhB1.out));(try (have:=HhhA1.out));(try (have:=HhhB2.out));omega) HFA.out.1 HFB.out.1 (by rw [HALL.out.2.1];exact HX.out)
           rw [HALL.out.2.1,HL.out.1,HL.out.2.2.2.1,←Ha.out] at hst
           have HST:=ζh hst
           clear hst
           go_wp2_with fail
           refine HST.out.mono ?_
           rintro e w2 ⟨rfl,hm2,hr2⟩
           have HM2:=ζh (HM1.out.trans hm2)
           have HR2:=ζh hr2
           clear hm2 hr2 HST HR1 HM1
           go_upto_region 43 with fail
           rcases Classical.em (u < b) with hB2 | hB2
           · have r6:decide (u < b)=true:=decide_eq_true hB2
             have HhhB2:=ζh hB2
             clear hB2
             have hst:=HIH.out (P++mrg k A1 B1) A2 B2 S _ _ (by have:=HZ.out;(try (have:=HhA2.out));(try (have:=HhB1.out));(try (have:=HhhA1.out));(try (have:=HhhB2.out));omega) (by simp) HR2.out (HC.out.at HM2.out) (by have:=HZ.out;(try (have:=HhA2.out));(try (have:=HhB1.out));(try (have:=HhhA1.out));(try (have:=HhhB2.out));omega) (by have:=HZ.out;(try (have:=HhA2.out));(try (have:=HhB1.out));(try (have:=HhhA1.out));(try (have:=HhhB2.out));omega) HFA.out.2.1 HFB.out.2.1 (by rw [HALL.out.2.2];exact HX.out)
             rw [HALL.out.2.2,HL.out.2.2.2.2.1,HL.out.2.2.2.2.2.1,HL.out.2.2.2.2.2.2.1] at hst
             have HST:=ζh hst
             clear hst
             go_wp2_with fail
             refine HST.out.mono ?_
             rintro e w3 ⟨rfl,hm3,hr3⟩
             have hfin:RowI w3 g cap (P++(mrg k A B++S)):=by rw [HCUT.out];simpa using hr3
             have HF:=ζh hfin
             have HM3:=ζh (HM2.out.trans hm3)
             clear hm3 hr3 HST hfin
             go_wp2_with fail
             go_end0
             exact ⟨rfl,HM3.out,HF.out⟩
           · have r6:decide (u < b)=false:=decide_eq_false hB2
             have HhhB2:=ζh hB2
             clear hB2
             have heq:P++(mrg k A1 B1++(A2++(B2++S)))=P++(mrg k A B++S):=by
              have h:B2=[]:=List.length_eq_zero_iff.1 (by have:=HZ.out;(try (have:=HhA2.out));(try (have:=HhB1.out));(try (have:=HhhA1.out));(try (have:=HhhB2.out));omega)
              rw [HCUT.out,h,mrg_nil_right];simp
             have hfin:=HR2.out
             rw [heq] at hfin
             have HF:=ζh hfin
             clear hfin heq
             go_wp2_with fail
             go_end0
             exact ⟨rfl,HM2.out,HF.out⟩
         · have r3:decide (a < s)=false:=decide_eq_false hA1
           have HhhA1:=ζh hA1
           clear hA1
           have heq:P++(A1++(B1++(A2++(B2++S))))=P++(mrg k A1 B1++(A2++(B2++S))):=by
            have h:A1=[]:=List.length_eq_zero_iff.1 (by have:=HZ.out;(try (have:=HhA2.out));(try (have:=HhB1.out));(try (have:=HhhA1.out));(try (have:=HhhB2.out));omega)
            rw [h,mrg_nil_left];simp
           have hr2:=HR1.out
           rw [heq] at hr2
           have HM2:=HM1
           have HR2:=ζh hr2
           clear hr2 heq HR1 HM1
           go_upto_region 43 with fail
           rcases Classical.em (u < b) with hB2 | hB2
           · have r6:decide (u < b)=true:=decide_eq_true hB2
             have HhhB2:=ζh hB2
             clear hB2
             have hst:=HIH.out (P++mrg k A1 B1) A2 B2 S _ _ (by have:=HZ.out;(try (have:=HhA2.out));(try (have:=HhB1.out));(try (have:=HhhA1.out));(try (have:=HhhB2.out));omega) (by simp) HR2.out (HC.out.at HM2.out) (by have:=HZ.out;(try (have:=HhA2.out));(try (have:=HhB1.out));(try (have:=HhhA1.out));(try (have:=HhhB2.out));omega) (by have:=HZ.out;(try (have:=HhA2.out));(try (have:=HhB1.out));(try (have:=HhhA1.out));(try (have:=HhhB2.out));omega) HFA.out.2.1 HFB.out.2.1 (by rw [HALL.out.2.2];exact HX.out)
             rw [HALL.out.2.2,HL.out.2.2.2.2.1,HL.out.2.2.2.2.2.1,HL.out.2.2.2.2.2.2.1] at hst
             have HST:=ζh hst
             clear hst
             go_wp2_with fail
             refine HST.out.mono ?_
             rintro e w3 ⟨rfl,hm3,hr3⟩
             have hfin:RowI w3 g cap (P++(mrg k A B++S)):=by rw [HCUT.out];simpa using hr3
             have HF:=ζh hfin
             have HM3:=ζh (HM2.out.trans hm3)
             clear hm3 hr3 HST hfin
             go_wp2_with fail
             go_end0
             exact ⟨rfl,HM3.out,HF.out⟩
           · have r6:decide (u < b)=false:=decide_eq_false hB2
             have HhhB2:=ζh hB2
             clear hB2
             have heq:P++(mrg k A1 B1++(A2++(B2++S)))=P++(mrg k A B++S):=by
              have h:B2=[]:=List.length_eq_zero_iff.1 (by have:=HZ.out;(try (have:=HhA2.out));(try (have:=HhB1.out));(try (have:=HhhA1.out));(try (have:=HhhB2.out));omega)
              rw [HCUT.out,h,mrg_nil_right];simp
             have hfin:=HR2.out
             rw [heq] at hfin
             have HF:=ζh hfin
             clear hfin heq
             go_wp2_with fail
             go_end0
             exact ⟨rfl,HM2.out,HF.out⟩
       · have r1:decide (s < m)=true:=decide_eq_true (by have:=HZ.out;(try (have:=HhA2.out));(try (have:=HhB1.out));(try (have:=HhhA1.out));(try (have:=HhhB2.out));omega)
         have r2:decide (m < u)=false:=decide_eq_false (by have:=HZ.out;(try (have:=HhA2.out));(try (have:=HhB1.out));(try (have:=HhhA1.out));(try (have:=HhhB2.out));omega)
         have r5:decide (mid < u)=true:=decide_eq_true (by have:=HZ.out;(try (have:=HhA2.out));(try (have:=HhB1.out));(try (have:=HhhA1.out));(try (have:=HhhB2.out));omega)
         have r4:decide (s < mid)=false:=decide_eq_false (by have:=HZ.out;(try (have:=HhA2.out));(try (have:=HhB1.out));(try (have:=HhhA1.out));(try (have:=HhhB2.out));omega)
         have HhA2:=ζh hA2
         have HhB1:=ζh hB1
         clear hA2 hB1
         have heq:P++(A1++(A2++(B1++(B2++S))))=P++(A1++(B1++(A2++(B2++S)))):=by
          have h:B1=[]:=List.length_eq_zero_iff.1 (by have:=HZ.out;(try (have:=HhA2.out));(try (have:=HhB1.out));(try (have:=HhhA1.out));(try (have:=HhhB2.out));omega)
          rw [h];simp
         have hr1:=HR0.out
         rw [heq] at hr1
         have HM1:=HM
         have HR1:=ζh hr1
         clear hr1 heq
         go_upto_region 41 with fail
         have r3:decide (a < s)=true:=decide_eq_true (by have:=HZ.out;(try (have:=HhA2.out));(try (have:=HhB1.out));(try (have:=HhhA1.out));(try (have:=HhhB2.out));omega)
         have heq:P++(A1++(B1++(A2++(B2++S))))=P++(mrg k A1 B1++(A2++(B2++S))):=by
          have h:B1=[]:=List.length_eq_zero_iff.1 (by have:=HZ.out;(try (have:=HhA2.out));(try (have:=HhB1.out));(try (have:=HhhA1.out));(try (have:=HhhB2.out));omega)
          rw [h,mrg_nil_right];simp
         have hr2:=HR1.out
         rw [heq] at hr2
         have HM2:=HM1
         have HR2:=ζh hr2
         clear hr2 heq HR1 HM1
         go_upto_region 43 with fail
         rcases Classical.em (u < b) with hB2 | hB2
         · have r6:decide (u < b)=true:=decide_eq_true hB2
           have HhhB2:=ζh hB2
           clear hB2
           have hst:=HIH.out (P++mrg k A1 B1) A2 B2 S _ _ (by have:=HZ.out;(try (have:=HhA2.out));(try (have:=HhB1.out));(try (have:=HhhA1.out));(try (have:=HhhB2.out));omega) (by simp) HR2.out (HC.out.at HM2.out) (by have:=HZ.out;(try (have:=HhA2.out));(try (have:=HhB1.out));(try (have:=HhhA1.out));(try (have:=HhhB2.out));omega) (by have:=HZ.out;(try (have:=HhA2.out));(try (have:=HhB1.out));(try (have:=HhhA1.out));(try (have:=HhhB2.out));omega) HFA.out.2.1 HFB.out.2.1 (by rw [HALL.out.2.2];exact HX.out)
           rw [HALL.out.2.2,HL.out.2.2.2.2.1,HL.out.2.2.2.2.2.1,HL.out.2.2.2.2.2.2.1] at hst
           have HST:=ζh hst
           clear hst
           go_wp2_with fail
           refine HST.out.mono ?_
           rintro e w3 ⟨rfl,hm3,hr3⟩
           have hfin:RowI w3 g cap (P++(mrg k A B++S)):=by rw [HCUT.out];simpa using hr3
           have HF:=ζh hfin
           have HM3:=ζh (HM2.out.trans hm3)
           clear hm3 hr3 HST hfin
           go_wp2_with fail
           go_end0
           exact ⟨rfl,HM3.out,HF.out⟩
         · have r6:decide (u < b)=false:=decide_eq_false hB2
           have HhhB2:=ζh hB2
           clear hB2
           have heq:P++(mrg k A1 B1++(A2++(B2++S)))=P++(mrg k A B++S):=by
            have h:B2=[]:=List.length_eq_zero_iff.1 (by have:=HZ.out;(try (have:=HhA2.out));(try (have:=HhB1.out));(try (have:=HhhA1.out));(try (have:=HhhB2.out));omega)
            rw [HCUT.out,h,mrg_nil_right];simp
           have hfin:=HR2.out
           rw [heq] at hfin
           have HF:=ζh hfin
           clear hfin heq
           go_wp2_with fail
           go_end0
           exact ⟨rfl,HM2.out,HF.out⟩
     · rcases Classical.em (m < u) with hB1 | hB1
       · have r1:decide (s < m)=false:=decide_eq_false (by have:=HZ.out;(try (have:=HhA2.out));(try (have:=HhB1.out));(try (have:=HhhA1.out));(try (have:=HhhB2.out));omega)
         have r2:decide (m < u)=true:=decide_eq_true (by have:=HZ.out;(try (have:=HhA2.out));(try (have:=HhB1.out));(try (have:=HhhA1.out));(try (have:=HhhB2.out));omega)
         have r5:decide (mid < u)=false:=decide_eq_false (by have:=HZ.out;(try (have:=HhA2.out));(try (have:=HhB1.out));(try (have:=HhhA1.out));(try (have:=HhhB2.out));omega)
         have r4:decide (s < mid)=true:=decide_eq_true (by have:=HZ.out;(try (have:=HhA2.out));(try (have:=HhB1.out));(try (have:=HhhA1.out));(try (have:=HhhB2.out));omega)
         have HhA2:=ζh hA2
         have HhB1:=ζh hB1
         clear hA2 hB1
         have heq:P++(A1++(A2++(B1++(B2++S))))=P++(A1++(B1++(A2++(B2++S)))):=by
          have h:A2=[]:=List.length_eq_zero_iff.1 (by have:=HZ.out;(try (have:=HhA2.out));(try (have:=HhB1.out));(try (have:=HhhA1.out));(try (have:=HhhB2.out));omega)
          rw [h];simp
         have hr1:=HR0.out
         rw [heq] at hr1
         have HM1:=HM
         have HR1:=ζh hr1
         clear hr1 heq
         go_upto_region 41 with fail
         rcases Classical.em (a < s) with hA1 | hA1
         · have r3:decide (a < s)=true:=decide_eq_true hA1
           have HhhA1:=ζh hA1
           clear hA1
           have hst:=HIH.out P A1 B1 (A2++(B2++S)) _ _ (by have:=HZ.out;(try (have:=HhA2.out));(try (have:=HhB1.out));(try (have:=HhhA1.out));(try (have:=HhhB2.out));omega) (by simp) HR1.out (HC.out.at HM1.out) (by have:=HZ.out;(try (have:=HhA2.out));(try (have:=HhB1.out));(try (have:=HhhA1.out));(try (have:=HhhB2.out));omega) (by have:=HZ.out;(try (have:=HhA2.out));(try (have:=HhB1.out));(try (have:=HhhA1.out));(try (have:=HhhB2.out));omega) HFA.out.1 HFB.out.1 (by rw [HALL.out.2.1];exact HX.out)
           rw [HALL.out.2.1,HL.out.1,HL.out.2.2.2.1,←Ha.out] at hst
           have HST:=ζh hst
           clear hst
           go_wp2_with fail
           refine HST.out.mono ?_
           rintro e w2 ⟨rfl,hm2,hr2⟩
           have HM2:=ζh (HM1.out.trans hm2)
           have HR2:=ζh hr2
           clear hm2 hr2 HST HR1 HM1
           go_upto_region 43 with fail
           have heq:P++(mrg k A1 B1++(A2++(B2++S)))=P++(mrg k A B++S):=by
            have h:A2=[]:=List.length_eq_zero_iff.1 (by have:=HZ.out;(try (have:=HhA2.out));(try (have:=HhB1.out));(try (have:=HhhA1.out));(try (have:=HhhB2.out));omega)
            rw [HCUT.out,h,mrg_nil_left];simp
           have hfin:=HR2.out
           rw [heq] at hfin
           have HF:=ζh hfin
           clear hfin heq
           go_wp2_with fail
           go_end0
           exact ⟨rfl,HM2.out,HF.out⟩
         · have r3:decide (a < s)=false:=decide_eq_false hA1
           have HhhA1:=ζh hA1
           clear hA1
           have heq:P++(A1++(B1++(A2++(B2++S))))=P++(mrg k A1 B1++(A2++(B2++S))):=by
            have h:A1=[]:=List.length_eq_zero_iff.1 (by have:=HZ.out;(try (have:=HhA2.out));(try (have:=HhB1.out));(try (have:=HhhA1.out));(try (have:=HhhB2.out));omega)
            rw [h,mrg_nil_left];simp
           have hr2:=HR1.out
           rw [heq] at hr2
           have HM2:=HM1
           have HR2:=ζh hr2
           clear hr2 heq HR1 HM1
           go_upto_region 43 with fail
           have heq:P++(mrg k A1 B1++(A2++(B2++S)))=P++(mrg k A B++S):=by
            have h:A2=[]:=List.length_eq_zero_iff.1 (by have:=HZ.out;(try (have:=HhA2.out));(try (have:=HhB1.out));(try (have:=HhhA1.out));(try (have:=HhhB2.out));omega)
            rw [HCUT.out,h,mrg_nil_left];simp
           have hfin:=HR2.out
           rw [heq] at hfin
           have HF:=ζh hfin
           clear hfin heq
           go_wp2_with fail
           go_end0
           exact ⟨rfl,HM2.out,HF.out⟩
       · have r1:decide (s < m)=false:=decide_eq_false (by have:=HZ.out;(try (have:=HhA2.out));(try (have:=HhB1.out));(try (have:=HhhA1.out));(try (have:=HhhB2.out));omega)
         have r2:decide (m < u)=false:=decide_eq_false (by have:=HZ.out;(try (have:=HhA2.out));(try (have:=HhB1.out));(try (have:=HhhA1.out));(try (have:=HhhB2.out));omega)
         have r5:decide (mid < u)=false:=decide_eq_false (by have:=HZ.out;(try (have:=HhA2.out));(try (have:=HhB1.out));(try (have:=HhhA1.out));(try (have:=HhhB2.out));omega)
         have r4:decide (s < mid)=false:=decide_eq_false (by have:=HZ.out;(try (have:=HhA2.out));(try (have:=HhB1.out));(try (have:=HhhA1.out));(try (have:=HhhB2.out));omega)
         have HhA2:=ζh hA2
         have HhB1:=ζh hB1
         clear hA2 hB1
         have heq:P++(A1++(A2++(B1++(B2++S))))=P++(A1++(B1++(A2++(B2++S)))):=by
          have h:A2=[]:=List.length_eq_zero_iff.1 (by have:=HZ.out;(try (have:=HhA2.out));(try (have:=HhB1.out));(try (have:=HhhA1.out));(try (have:=HhhB2.out));omega)
          rw [h];simp
         have hr1:=HR0.out
         rw [heq] at hr1
         have HM1:=HM
         have HR1:=ζh hr1
         clear hr1 heq
         go_upto_region 41 with fail
         have r3:decide (a < s)=true:=decide_eq_true (by have:=HZ.out;(try (have:=HhA2.out));(try (have:=HhB1.out));(try (have:=HhhA1.out));(try (have:=HhhB2.out));omega)
         have heq:P++(A1++(B1++(A2++(B2++S))))=P++(mrg k A1 B1++(A2++(B2++S))):=by
          have h:B1=[]:=List.length_eq_zero_iff.1 (by have:=HZ.out;(try (have:=HhA2.out));(try (have:=HhB1.out));(try (have:=HhhA1.out));(try (have:=HhhB2.out));omega)
          rw [h,mrg_nil_right];simp
         have hr2:=HR1.out
         rw [heq] at hr2
         have HM2:=HM1
         have HR2:=ζh hr2
         clear hr2 heq HR1 HM1
         go_upto_region 43 with fail
         have heq:P++(mrg k A1 B1++(A2++(B2++S)))=P++(mrg k A B++S):=by
          have h:A2=[]:=List.length_eq_zero_iff.1 (by have:=HZ.out;(try (have:=HhA2.out));(try (have:=HhB1.out));(try (have:=HhhA1.out));(try (have:=HhhB2.out));omega)
          rw [HCUT.out,h,mrg_nil_left];simp
         have hfin:=HR2.out
         rw [heq] at hfin
         have HF:=ζh hfin
         clear hfin heq
         go_wp2_with fail
         go_end0
         exact ⟨rfl,HM2.out,HF.out⟩
end

section
open Go.RowKit
theorem stable_any (k:Int→Int) (c:Int→Int→Int) (fn:Nat) (lb:Array Value) (g cap:Nat) (xs:List Int) (w:World) (hrow:RowI w g cap xs) (hc:CmpAt k c fn lb g w) (hfew:xs.length≤1000000) :
 Calls Tryz.prog 248 #[.slice (some ⟨g,0,none⟩) xs.length cap,.int .i64 xs.length,.func (.func fn) #[] lb] w fun e w' =>
  e=.returned (.tuple #[])∧Mod (fun b=>b=g) w w'∧RowI w' g cap (srt k xs):=by
 obtain ⟨n,hn⟩:∃ n,n=xs.length:=⟨_,rfl⟩
 rw [←hn] at hfew ⊢
 have HN:=ζh hn
 have HC:=ζh hc
 have HR:=ζh hrow
 have henter:=hc.enter
 clear hn hc hrow
 go_enter Tryz.func248,Tryz.ntmps248
 go_wp2_with fail
 go_loopw [7,8] (fun i j wr=>∃ (a b:Nat) (A B ys:List Int),i=.int .i64 (a:Int)∧j=.int .i64 (b:Int)∧a≤1000000∧b=a+20∧Hid (xs=A++B∧Full k 20 A ys∧a=A.length)∧Mod (fun b=>b=g) w wr∧Hid (RowI wr g cap (ys++B))) (fun i _ _=>n - (intOf i).toNat)
 case atStart=>exact ⟨0,20,[],xs,[],rfl,rfl,by omega,rfl,ζh ⟨rfl,.nil,rfl⟩,Mod.refl _ _,ζh HR.out⟩
 case round =>
  obtain ⟨a,b,A,B,ys,rfl,rfl,ha6,hb,HX,hm,HY⟩:=hrel
  obtain ⟨wo,rfl⟩:∃ wo:World,wo=wr:=⟨_,rfl⟩
  obtain ⟨hx,hF,ha⟩:=HX.out
  have hlen:n=A.length+B.length:=by rw [HN.out,hx,List.length_append]
  have hyl:=hF.length
  have HM:=ζh hm
  clear hm HR
  by_cases hlt:b≤n
  · have hB:B=B.take 20++B.drop 20:=(List.take_append_drop 20 B).symm
    have hCl:(B.take 20).length=20:=by rw [List.length_take];omega
    obtain ⟨C,hC⟩:∃ C,C=B.take 20:=⟨_,rfl⟩
    obtain ⟨D,hD⟩:∃ D,D=B.drop 20:=⟨_,rfl⟩
    rw [←hC,←hD] at hB
    rw [←hC] at hCl
    have hal:(ys++C++D).length=n:=by rw [List.append_assoc,←hB,List.length_append];omega
    have hi:=isort_any k c fn lb g cap ys C D wo (by have:=HY.out;rw [hB] at this;rwa [List.append_assoc]) (HC.out.at HM.out) (by omega)
    rw [hal,show (ys++C).length=b by rw [List.length_append];omega,show ys.length=a by omega] at hi
    have HI:=ζh hi
    have HX2:Hid (xs=(A++C)++D∧Full k 20 (A++C) (ys++srt k C)∧b=(A++C).length):=ζh ⟨by rw [hx,hB];simp,hF.snoc hCl,by rw [List.length_append];omega⟩
    have dl:decide (b≤n)=true:=decide_eq_true hlt
    have HB:=ζh (⟨hb,hlt⟩:b=a+20∧b≤n)
    have hbm:b≤1000000:=by omega
    clear hB hCl hC hD hal hi hx hF ha hlen hyl HX HY hlt hb
    go_wp2_with fail
    refine HI.out.mono ?_
    rintro e w1 ⟨rfl,hm1,hr1⟩
    have HM1:=ζh (HM.out.trans hm1)
    have HR1:=ζh hr1
    clear hm1 hr1 HI HM
    go_wp2_with fail
    go_roundw
    case rel=>exact ⟨b,b+20,A++C,D,ys++srt k C,rfl,by go_num,by omega,rfl,HX2,HM1.out,ζh HR1.out⟩
    case measure=>simp [intOf];have:=HB.out;omega
  · have hi:=isort_any k c fn lb g cap ys B [] wo (by have:=HY.out;simpa using this) (HC.out.at HM.out) (by simp;omega)
    rw [List.append_nil,List.append_nil,show (ys++B).length=n by rw [List.length_append];omega,show ys.length=a by omega] at hi
    have HI:=ζh hi
    have HX2:Hid (xs=A++B∧Full k 20 A ys∧B.length < 20):=ζh ⟨hx,hF,by omega⟩
    have dl:decide (b≤n)=false:=decide_eq_false hlt
    clear hi hx hF ha hlen hyl HX HY hlt hb
    go_wp2_with fail
    refine HI.out.mono ?_
    rintro e w1 ⟨rfl,hm1,hr1⟩
    have HM1:=ζh (HM.out.trans hm1)
    have HR1:=ζh hr1
    clear hm1 hr1 HI HM dl
    go_wp2_with fail
    go_loopw [6] (fun i wq=>∃ (bs:Nat) (A B ys:List Int),i=.int .i64 (bs:Int)∧20≤bs∧bs≤2000000∧Hid (xs=A++B∧Full k bs A ys∧B.length < bs)∧Hid (Mod (fun b=>b=g) w wq)∧Hid (RowI wq g cap (ys++srt k B))) (fun i _=>n - (intOf i).toNat)
    case atStart=>exact ⟨20,A,B,ys,rfl,by omega,by omega,HX2,HM1,ζh HR1.out⟩
    case round =>
     clear HX2 HM1 HR1 ha6
     obtain ⟨bs,A,B,ys,rfl,h20,h2m,HX,HM,HY⟩:=hrel
     obtain ⟨wo,rfl⟩:∃ wo:World,wo=wr:=⟨_,rfl⟩
     by_cases hlt:bs < n
     · have dl:decide (bs < n)=true:=decide_eq_true hlt
       have hb1:bs≤1000000:=by omega
       go_wp2_with fail
       go_loopw [7,8] (fun i j wr=>∃ (a b:Nat) (A1 zs A2 ys2:List Int),i=.int .i64 (a:Int)∧j=.int .i64 (b:Int)∧a≤1000000∧b=a+2 * bs∧Hid (A=A1++A2∧Full k (2 * bs) A1 zs∧Full k bs A2 ys2∧a=A1.length)∧Hid (Mod (fun b=>b=g) w wr)∧Hid (RowI wr g cap (zs++(ys2++srt k B)))) (fun i _ _=>n - (intOf i).toNat)
       case atStart=>exact ⟨0,2 * bs,[],[],A,ys,rfl,by go_num,by omega,by omega,ζh ⟨rfl,.nil,HX.out.2.1,rfl⟩,HM,ζh HY.out⟩
       case round =>
        clear HM HY
        obtain ⟨a,b,A1,zs,A2,ys2,rfl,rfl,ha6,hb,HA,HM,HY⟩:=hrel
        obtain ⟨wi,rfl⟩:∃ wi:World,wi=wr:=⟨_,rfl⟩
        obtain ⟨hx,hF,hBl⟩:=HX.out
        obtain ⟨hA,hF1,hF2,ha⟩:=HA.out
        have hlen:n=A1.length+A2.length+B.length:=by rw [HN.out,hx,hA,List.length_append,List.length_append]
        have hz:=hF1.length
        have hy2:=hF2.length
        by_cases hbn:b≤n
        · have h2:2 * bs≤A2.length:=by
           rcases Nat.lt_or_ge A2.length (2 * bs) with h | h
           · rcases hF2.small h with ⟨h1,_⟩ | ⟨h1,_⟩
             · rw [h1] at hlen;simp at hlen;omega
             · omega
           · exact h
          obtain ⟨C,D,A',ys',e1,e2,e3,e4,hF3⟩:=hF2.two (by omega) h2
          have lC:=srt_length k C
          have lD:=srt_length k D
          have lB:=srt_length k B
          have hl3:=hF3.length
          have hcat:zs++(ys2++srt k B)=zs++(srt k C++(srt k D++(ys'++srt k B))):=by rw [e2];simp
          have htot:(zs++(ys2++srt k B)).length=n:=by simp only [List.length_append];omega
          have hs:=symm_any k c fn lb g cap _ zs (srt k C) (srt k D) (ys'++srt k B) (zs++(ys2++srt k B)) wi (Nat.le_refl _) hcat HY.out (HC.out.at HM.out) (by omega) (by omega) (srt_fall k C) (srt_fall k D) (by omega)
          rw [htot,←srt_append,show (zs++srt k C).length=a+bs by rw [List.length_append];omega,show (zs++(srt k C++srt k D)).length=b by simp only [List.length_append];omega,show zs.length=a by omega] at hs
          have HS:=ζh hs
          have HA2:Hid (A=(A1++(C++D))++A'∧Full k (2 * bs) (A1++(C++D)) (zs++srt k (C++D))∧Full k bs A' ys'∧b=(A1++(C++D)).length) :=
           ζh ⟨by rw [hA,e1];simp,hF1.snoc (by rw [List.length_append];omega),hF3,by simp only [List.length_append];omega⟩
          have dn:decide (b≤n)=true:=decide_eq_true hbn
          have HB:=ζh (⟨hb,hbn⟩:b=a+2 * bs∧b≤n)
          have hbm:b≤1000000:=by omega
          clear hx hF hBl hA hF1 hF2 ha hlen hz hy2 h2 e1 e2 e3 e4 hF3 lC lD lB hl3 hcat htot hs hbn HA HY hb
          go_wp2_with fail
          refine HS.out.mono ?_
          rintro e w2 ⟨rfl,hm2,hr2⟩
          have HM2:=ζh (HM.out.trans hm2)
          have HR2:=ζh hr2
          clear hm2 hr2 HS HM dn
          go_wp2_with fail
          go_roundw
          case rel=>exact ⟨b,b+2 * bs,A1++(C++D),zs++srt k (C++D),A',ys',rfl,by go_num,hbm,rfl,HA2,HM2,ζh (by have:=HR2.out;simpa using this)⟩
          case measure=>simp [intOf];have:=HB.out;omega
        · have lB:=srt_length k B
          have lA:=srt_length k A2
          have hsm:=hF2.small (by omega)
          by_cases hmn:a+bs < n
          · obtain ⟨h1,h2⟩:A2.length=bs∧ys2=srt k A2:=by
             rcases hsm with ⟨h1,_⟩ | h
             · rw [h1] at hlen;simp at hlen;omega
             · exact h
            have htot:(zs++(ys2++srt k B)).length=n:=by simp only [List.length_append];omega
            have hs:=symm_any k c fn lb g cap _ zs (srt k A2) (srt k B) [] (zs++(ys2++srt k B)) wi (Nat.le_refl _) (by rw [h2];simp) HY.out (HC.out.at HM.out) (by omega) (by omega) (srt_fall k A2) (srt_fall k B) (by omega)
            rw [htot,←srt_append,show (zs++srt k A2).length=a+bs by rw [List.length_append];omega,show (zs++(srt k A2++srt k B)).length=n by simp only [List.length_append];omega,show zs.length=a by omega,List.append_nil] at hs
            have HS:=ζh hs
            have HX3:Hid (xs=A1++(A2++B)∧Full k (2 * bs) A1 zs∧(A2++B).length < 2 * bs):=ζh ⟨by rw [hx,hA];simp,hF1,by rw [List.length_append];omega⟩
            have dn:decide (b≤n)=false:=decide_eq_false hbn
            have dm:decide ((a:Int)+(bs:Int) < (n:Int))=true:=decide_eq_true (by omega)
            clear hx hF hBl hA hF1 hF2 ha hlen hz hy2 h1 h2 lA lB hsm htot hs hbn hmn HA HY hb HX dl
            go_wp2_with fail
            refine HS.out.mono ?_
            rintro e w2 ⟨rfl,hm2,hr2⟩
            have HM2:=ζh (HM.out.trans hm2)
            have HR2:=ζh hr2
            clear hm2 hr2 HS HM dn dm
            go_wp2_with fail
            go_roundw
            case rel=>exact ⟨2 * bs,A1,A2++B,zs,by go_num,by omega,by omega,HX3,HM2,ζh HR2.out⟩
            case measure=>simp [intOf];omega
          · have hrow:RowI wi g cap (zs++srt k (A2++B)):=by
             have h0:=HY.out
             rcases hsm with ⟨h1,h2⟩ | ⟨h1,h2⟩
             · rw [h1];rw [h2] at h0;simpa using h0
             · have hB0:B=[]:=List.length_eq_zero_iff.1 (by omega)
               rw [hB0,srt_nil,h2] at h0
               rw [hB0];simpa using h0
            have HX3:Hid (xs=A1++(A2++B)∧Full k (2 * bs) A1 zs∧(A2++B).length < 2 * bs):=ζh ⟨by rw [hx,hA];simp,hF1,by rw [List.length_append];omega⟩
            have dn:decide (b≤n)=false:=decide_eq_false hbn
            have dm:decide ((a:Int)+(bs:Int) < (n:Int))=false:=decide_eq_false (by omega)
            have HR2:=ζh hrow
            clear hx hF hBl hA hF1 hF2 ha hlen hz hy2 lA lB hsm hbn hmn HA HY hb HX dl hrow
            go_wp2_with fail
            go_roundw
            case rel=>exact ⟨2 * bs,A1,A2++B,zs,by go_num,by omega,by omega,HX3,HM,ζh HR2.out⟩
            case measure=>simp [intOf];omega
     · have hend:RowI wo g cap (srt k xs):=by
        obtain ⟨hx,hF,hBl⟩:=HX.out
        have h0:=HY.out
        have hlen:n=A.length+B.length:=by rw [HN.out,hx,List.length_append]
        rcases hF.small (by omega) with ⟨h1,h2⟩ | ⟨h1,h2⟩
        · rw [hx,h1];rw [h2] at h0;simpa using h0
        · have hB0:B=[]:=List.length_eq_zero_iff.1 (by omega)
          rw [hB0,srt_nil,h2] at h0
          rw [hx,hB0];simpa using h0
       have dl:decide (bs < n)=false:=decide_eq_false hlt
       have HE:=ζh hend
       clear hend hlt HX HY
       go_wp2_with fail
       go_end0
       exact ⟨rfl,HM.out,HE.out⟩
theorem stablefunc_any (k:Int→Int) (c:Int→Int→Int) (fn:Nat) (lb:Array Value) (g cap:Nat) (xs:List Int) (w:World) (hrow:RowI w g cap xs) (hc:CmpAt k c fn lb g w) (hfew:xs.length≤1000000) :
 Calls Tryz.prog 220 #[.slice (some ⟨g,0,none⟩) xs.length cap,.func (.func fn) #[] lb] w fun e w' =>
  e=.returned (.tuple #[])∧Mod (fun b=>b=g) w w'∧RowI w' g cap (srt k xs):=by
 have HS:=ζh (stable_any k c fn lb g cap xs w hrow hc hfew)
 clear hrow hc
 go_enter Tryz.func220,Tryz.ntmps220
 go_wp2_with fail
 refine HS.out.mono ?_
 rintro e w1 ⟨rfl,hm,hr⟩
 go_wp2_with fail
 go_end0
 exact ⟨rfl,hm,hr⟩
theorem stablefunc_nil (fn:Nat) (lb:Array Value) (w:World) :
 Calls Tryz.prog 220 #[.slice none 0 0,.func (.func fn) #[] lb] w fun e w'=>e=.returned (.tuple #[])∧Mod (fun _=>False) w w':=by
 have hins:∀ w:World,Calls Tryz.prog 271 #[.slice none 0 0,.int .i64 0,.int .i64 0,.func (.func fn) #[] lb] w fun e w'=>e=.returned (.tuple #[])∧w=w':=by
  intro w
  go_enter Tryz.func271,Tryz.ntmps271
  go_wp2_with fail
  go_loopw [8] (fun i wr=>i=.int .i64 1∧wr=w) (fun _ _=>0)
  case atStart=>exact ⟨by go_num,rfl⟩
  case round =>
   obtain ⟨rfl,rfl⟩:=hrel
   go_wp2_with fail
   go_end0
   exact ⟨rfl,rfl⟩
 have hst:∀ w:World,Calls Tryz.prog 248 #[.slice none 0 0,.int .i64 0,.func (.func fn) #[] lb] w fun e w'=>e=.returned (.tuple #[])∧w=w':=by
  intro w
  go_enter Tryz.func248,Tryz.ntmps248
  go_wp2_with fail
  go_loopw [7,8] (fun i j wr=>i=.int .i64 0∧j=.int .i64 20∧wr=w) (fun _ _ _=>0)
  case atStart=>exact ⟨rfl,rfl,rfl⟩
  case round =>
   obtain ⟨rfl,rfl,rfl⟩:=hrel
   go_wp2_with fail
   refine (hins _).mono ?_
   rintro e w1 ⟨rfl,rfl⟩
   go_wp2_with fail
   obtain ⟨wo,ho⟩:∃ wo:World,wo=wr:=⟨_,rfl⟩
   rw [←ho]
   go_loopw [6] (fun i wq=>i=.int .i64 20∧wq=wo) (fun _ _=>0)
   case atStart=>exact ⟨rfl,rfl⟩
   case round =>
    obtain ⟨rfl,rfl⟩:=hrel
    go_wp2_with fail
    go_end0
    exact ⟨rfl,rfl⟩
 have HS:=ζh hst
 clear hins hst
 go_enter Tryz.func220,Tryz.ntmps220
 go_wp2_with fail
 refine (HS.out _).mono ?_
 rintro e w1 ⟨rfl,rfl⟩
 go_wp2_with fail
 go_end0
 exact ⟨rfl,Mod.refl _ _⟩
end
end Go.Proofs.YtkfoeonggmlebaaGreatDoor
