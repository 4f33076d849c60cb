/-
  Contracts of the program's functions, and plain facts, towards the laws of millpondtop. No condition beyond those that each theorem bears.
-/
import Derived.Test.YtkfoeonggmlebaaGreatDoorQ48
import Derived.Test.YtkfoeonggmlebaaGreatDoorQAA
set_option maxRecDepth 100000
set_option maxHeartbeats 4000000
namespace Go.Proofs.YtkfoeonggmlebaaGreatDoor
section
open Go.RowKit Go.Shelf Go.ChangeShapes Go.WideShapes
attribute [local go_sem] Oper.semAt_some
theorem oomM_at {m n w:Nat} (h1:1≤m) (h2:m≤8) (h3:n≤14) (h4:w≤1):oomM m n w=true:=by
 have h:oomRow m w=true:=by
  have hm:m=1∨m=2∨m=3∨m=4∨m=5∨m=6∨m=7∨m=8:=by omega
  have hw:w=0∨w=1:=by omega
  rcases hm with rfl | rfl | rfl | rfl | rfl | rfl | rfl | rfl<;>rcases hw with rfl | rfl
  · exact oomRow1a
  · exact oomRow1b
  · exact oomRow2a
  · exact oomRow2b
  · exact oomRow3a
  · exact oomRow3b
  · exact oomRow4a
  · exact oomRow4b
  · exact oomRow5a
  · exact oomRow5b
  · exact oomRow6a
  · exact oomRow6b
  · exact oomRow7a
  · exact oomRow7b
  · exact oomRow8a
  · exact oomRow8b
 unfold oomRow at h
 exact List.all_eq_true.1 h n (List.mem_range.2 (by omega))
set_option maxHeartbeats 8000000 in
theorem law_oom (M0 n0:Int) (wh:Bool) (w:World) (ht:Pol.TabIs w):Calls Tryz.prog 3 #[.int .i64 M0,.int .i64 n0,.bool wh] w fun e w'=>e=.returned (.bool true)∧Mod (fun _=>False) w w':=by
 have HT:=ζh ht
 have HW:=ζh (works_any w ht)
 clear ht
 by_cases hout:M0 < 1∨8 < M0∨n0 < 0∨14 < n0
 · have hO:=ζh hout
   clear hout
   go_enter Tryz.func3,Tryz.ntmps3
   go_wp2_with fail
   refine HW.out.mono ?_
   rintro e w1 ⟨rfl,m1⟩
   have M1:=ζh m1
   clear HW HT m1
   cases b1:decide (M0 < 1)
   case true =>
    go_wp2_with fail
    go_ret
    exact ⟨rfl,M1.out⟩
   case false =>
   cases b2:decide (8 < M0)
   case true =>
    go_wp2_with fail
    go_ret
    exact ⟨rfl,M1.out⟩
   case false =>
   cases b3:decide (n0 < 0)
   case true =>
    go_wp2_with fail
    go_ret
    exact ⟨rfl,M1.out⟩
   case false =>
    have b4:decide (14 < n0)=true:=by
     have:=hO.out
     simp at b1 b2 b3 ⊢
     omega
    go_wp2_with fail
    go_ret
    exact ⟨rfl,M1.out⟩
 · obtain ⟨m,hm⟩:∃ m:Nat,M0=m:=⟨M0.toNat,by omega⟩
   obtain ⟨n,hn⟩:∃ n:Nat,n0=n:=⟨n0.toNat,by omega⟩
   subst hm hn
   obtain ⟨ww,hww⟩:∃ ww:Nat,ww=if wh=true then 1 else 0:=⟨_,rfl⟩
   have hw1:ww≤1:=by rw [hww];split<;>omega
   have hg:=oomM_at (m:=m) (n:=n) (w:=ww) (by omega) (by omega) (by omega) hw1
   have l0:1≤m:=by omega
   have l1:m≤8:=by omega
   have l2:n≤14:=by omega
   unfold oomM at hg
   obtain ⟨v0,hv0⟩:∃ v0,v0=VmM.new 30 30 []:=⟨_,rfl⟩
   rw [←hv0] at hg
   obtain ⟨D,hD⟩:∃ D,D=doneM v0 (opsO m ww):=⟨_,rfl⟩
   rw [←hD] at hg
   dsimp only at hg
   obtain ⟨S0,hS0⟩:∃ S0,S0=storesM n D.2 1 50 0:=⟨_,rfl⟩
   rw [←hS0] at hg
   obtain ⟨S1,hS1⟩:∃ S1,S1=onesM m S0.2 0:=⟨_,rfl⟩
   rw [←hS1] at hg
   obtain ⟨A,hA⟩:∃ A,A=S1.2.doOp ⟨9,0,16 * m,1,0⟩:=⟨_,rfl⟩
   rw [←hA] at hg
   obtain ⟨Z,hZ⟩:∃ Z,Z=loadsM n A.2 1 50 0:=⟨_,rfl⟩
   rw [←hZ] at hg
   simp only [Bool.and_eq_true,decide_eq_true_eq] at hg
   obtain ⟨⟨⟨⟨⟨⟨g1,g2⟩,g3⟩,g4⟩,g5⟩,g6⟩,g7⟩:=hg
   have HV0:=ζh hv0
   have HD:=ζh hD
   have HS0:=ζh hS0
   have HS1:=ζh hS1
   have HA:=ζh hA
   have HZ:=ζh hZ
   have G1:=ζh g1
   have G2:=ζh g2
   have G3:=ζh g3
   have G4:=ζh g4
   have G5:=ζh g5
   have G6:=ζh g6
   have G7:=ζh g7
   have HWW:=ζh hww
   have hmw:IntKind.i64.wrap (16 * (m:Int))=16 * (m:Int):=wrap_small _ (by omega) (by omega)
   clear hout hv0 hD hS0 hS1 hA hZ g1 g2 g3 g4 g5 g6 g7 hww
   go_enter Tryz.func3,Tryz.ntmps3
   go_wp2_with fail
   refine HW.out.mono ?_
   rintro e w1 ⟨rfl,m1⟩
   have HN:=ζh (vm_new 30 30 [] (.slice none 0 0) w1 (Pol.TabIs.keep HT.out m1 (fun x=>x)) ⟨none,0,rfl,Nat.le_refl _,by unfold maxLen;omega,fun j hj=>by simp at hj⟩)
   have M1:=ζh m1
   have d1:decide ((m:Int) < 1)=false:=decide_eq_false (by omega)
   have d2:decide (8 < (m:Int))=false:=decide_eq_false (by omega)
   have d3:decide ((n:Int) < 0)=false:=decide_eq_false (by omega)
   have d4:decide (14 < (n:Int))=false:=decide_eq_false (by omega)
   clear HW HT m1
   go_wp2_with fail
   refine HN.out.mono ?_
   rintro e w2 ⟨K,rfl,hk,st1⟩
   rw [←HV0.out] at st1
   have hi1:VIs 0 K.vb K v0:=⟨by rw [HV0.out];exact new_sm _ _ _,by rw [hk,HV0.out];rfl,rfl⟩
   obtain ⟨vb,hvb⟩:∃ vb,vb=K.vb:=⟨_,rfl⟩
   rw [←hvb] at hi1 ⊢
   obtain ⟨gb,hgb⟩:∃ gb,gb=w2.heap.size:=⟨_,rfl⟩
   have HI:=ζh hi1
   have HGB:=ζh hgb
   have HVB:=ζh hvb
   have HST1:=ζh st1
   clear st1 hi1 hk HN hvb hgb d1 d2 d3 d4
   cases hwh:wh
   case' false =>
    have hw0:ww=0:=by rw [HWW.out,hwh];rfl
    have st2:=Step.localAt 4 (cs:=#[.int .i64 0,.int .i64 0,.int .i64 0,.int .i64 0,.int .i64 0,.int .i64 0,.int .i64 0,.int .i64 0,.int .i64 0,.int .i64 0,.int .i64 2,.int .i64 1,.int .i64 2,.int .i64 m,.int .i64 0,.int .i64 2,.int .i64 1,.int .i64 3,.int .i64 0,.int .i64 0,.int .i64 2,.int .i64 1,.int .i64 4,.int .i64 0,.int .i64 0,.int .i64 3,.int .i64 1,.int .i64 0,.int .i64 0,.int .i64 0,.int .i64 3,.int .i64 2,.int .i64 0,.int .i64 0,.int .i64 0,.int .i64 3,.int .i64 1,.int .i64 0,.int .i64 0,.int .i64 0,.int .i64 5,.int .i64 0,.int .i64 20,.int .i64 0,.int .i64 0,.int .i64 5,.int .i64 1,.int .i64 20,.int .i64 0,.int .i64 0]) (T:=27) HST1.out
    have hcs:(#[.int .i64 0,.int .i64 0,.int .i64 0,.int .i64 0,.int .i64 0,.int .i64 0,.int .i64 0,.int .i64 0,.int .i64 0,.int .i64 0,.int .i64 2,.int .i64 1,.int .i64 2,.int .i64 m,.int .i64 0,.int .i64 2,.int .i64 1,.int .i64 3,.int .i64 0,.int .i64 0,.int .i64 2,.int .i64 1,.int .i64 4,.int .i64 0,.int .i64 0,.int .i64 3,.int .i64 1,.int .i64 0,.int .i64 0,.int .i64 0,.int .i64 3,.int .i64 2,.int .i64 0,.int .i64 0,.int .i64 0,.int .i64 3,.int .i64 1,.int .i64 0,.int .i64 0,.int .i64 0,.int .i64 5,.int .i64 0,.int .i64 20,.int .i64 0,.int .i64 0,.int .i64 5,.int .i64 1,.int .i64 20,.int .i64 0,.int .i64 0]:Array Value).toList=(opsO m ww).flatMap ecOp:=by rw [hw0];rfl
    obtain ⟨wa,hwa⟩:∃ wa,wa=w2.alloc (.cells #[.int .i64 0,.int .i64 0,.int .i64 0,.int .i64 0,.int .i64 0,.int .i64 0,.int .i64 0,.int .i64 0,.int .i64 0,.int .i64 0,.int .i64 2,.int .i64 1,.int .i64 2,.int .i64 m,.int .i64 0,.int .i64 2,.int .i64 1,.int .i64 3,.int .i64 0,.int .i64 0,.int .i64 2,.int .i64 1,.int .i64 4,.int .i64 0,.int .i64 0,.int .i64 3,.int .i64 1,.int .i64 0,.int .i64 0,.int .i64 0,.int .i64 3,.int .i64 2,.int .i64 0,.int .i64 0,.int .i64 0,.int .i64 3,.int .i64 1,.int .i64 0,.int .i64 0,.int .i64 0,.int .i64 5,.int .i64 0,.int .i64 20,.int .i64 0,.int .i64 0,.int .i64 5,.int .i64 1,.int .i64 20,.int .i64 0,.int .i64 0] 27):=⟨_,rfl⟩
    obtain ⟨cs,hcl⟩:∃ cs:Array Value,cs=#[.int .i64 0,.int .i64 0,.int .i64 0,.int .i64 0,.int .i64 0,.int .i64 0,.int .i64 0,.int .i64 0,.int .i64 0,.int .i64 0,.int .i64 2,.int .i64 1,.int .i64 2,.int .i64 m,.int .i64 0,.int .i64 2,.int .i64 1,.int .i64 3,.int .i64 0,.int .i64 0,.int .i64 2,.int .i64 1,.int .i64 4,.int .i64 0,.int .i64 0,.int .i64 3,.int .i64 1,.int .i64 0,.int .i64 0,.int .i64 0,.int .i64 3,.int .i64 2,.int .i64 0,.int .i64 0,.int .i64 0,.int .i64 3,.int .i64 1,.int .i64 0,.int .i64 0,.int .i64 0,.int .i64 5,.int .i64 0,.int .i64 20,.int .i64 0,.int .i64 0,.int .i64 5,.int .i64 1,.int .i64 20,.int .i64 0,.int .i64 0]:=⟨_,rfl⟩
   case' true =>
    have hw0:ww=1:=by rw [HWW.out,hwh];rfl
    have st2:=Step.localAt 4 (cs:=#[.int .i64 0,.int .i64 0,.int .i64 0,.int .i64 0,.int .i64 0,.int .i64 0,.int .i64 0,.int .i64 0,.int .i64 0,.int .i64 0,.int .i64 2,.int .i64 1,.int .i64 2,.int .i64 m,.int .i64 0,.int .i64 2,.int .i64 1,.int .i64 3,.int .i64 0,.int .i64 0,.int .i64 2,.int .i64 1,.int .i64 4,.int .i64 1,.int .i64 0,.int .i64 3,.int .i64 1,.int .i64 0,.int .i64 0,.int .i64 0,.int .i64 3,.int .i64 2,.int .i64 0,.int .i64 0,.int .i64 0,.int .i64 3,.int .i64 1,.int .i64 0,.int .i64 0,.int .i64 0,.int .i64 5,.int .i64 0,.int .i64 20,.int .i64 0,.int .i64 0,.int .i64 5,.int .i64 1,.int .i64 20,.int .i64 0,.int .i64 0]) (T:=27) HST1.out
    have hcs:(#[.int .i64 0,.int .i64 0,.int .i64 0,.int .i64 0,.int .i64 0,.int .i64 0,.int .i64 0,.int .i64 0,.int .i64 0,.int .i64 0,.int .i64 2,.int .i64 1,.int .i64 2,.int .i64 m,.int .i64 0,.int .i64 2,.int .i64 1,.int .i64 3,.int .i64 0,.int .i64 0,.int .i64 2,.int .i64 1,.int .i64 4,.int .i64 1,.int .i64 0,.int .i64 3,.int .i64 1,.int .i64 0,.int .i64 0,.int .i64 0,.int .i64 3,.int .i64 2,.int .i64 0,.int .i64 0,.int .i64 0,.int .i64 3,.int .i64 1,.int .i64 0,.int .i64 0,.int .i64 0,.int .i64 5,.int .i64 0,.int .i64 20,.int .i64 0,.int .i64 0,.int .i64 5,.int .i64 1,.int .i64 20,.int .i64 0,.int .i64 0]:Array Value).toList=(opsO m ww).flatMap ecOp:=by rw [hw0];rfl
    obtain ⟨wa,hwa⟩:∃ wa,wa=w2.alloc (.cells #[.int .i64 0,.int .i64 0,.int .i64 0,.int .i64 0,.int .i64 0,.int .i64 0,.int .i64 0,.int .i64 0,.int .i64 0,.int .i64 0,.int .i64 2,.int .i64 1,.int .i64 2,.int .i64 m,.int .i64 0,.int .i64 2,.int .i64 1,.int .i64 3,.int .i64 0,.int .i64 0,.int .i64 2,.int .i64 1,.int .i64 4,.int .i64 1,.int .i64 0,.int .i64 3,.int .i64 1,.int .i64 0,.int .i64 0,.int .i64 0,.int .i64 3,.int .i64 2,.int .i64 0,.int .i64 0,.int .i64 0,.int .i64 3,.int .i64 1,.int .i64 0,.int .i64 0,.int .i64 0,.int .i64 5,.int .i64 0,.int .i64 20,.int .i64 0,.int .i64 0,.int .i64 5,.int .i64 1,.int .i64 20,.int .i64 0,.int .i64 0] 27):=⟨_,rfl⟩
    obtain ⟨cs,hcl⟩:∃ cs:Array Value,cs=#[.int .i64 0,.int .i64 0,.int .i64 0,.int .i64 0,.int .i64 0,.int .i64 0,.int .i64 0,.int .i64 0,.int .i64 0,.int .i64 0,.int .i64 2,.int .i64 1,.int .i64 2,.int .i64 m,.int .i64 0,.int .i64 2,.int .i64 1,.int .i64 3,.int .i64 0,.int .i64 0,.int .i64 2,.int .i64 1,.int .i64 4,.int .i64 1,.int .i64 0,.int .i64 3,.int .i64 1,.int .i64 0,.int .i64 0,.int .i64 0,.int .i64 3,.int .i64 2,.int .i64 0,.int .i64 0,.int .i64 0,.int .i64 3,.int .i64 1,.int .i64 0,.int .i64 0,.int .i64 0,.int .i64 5,.int .i64 0,.int .i64 20,.int .i64 0,.int .i64 0,.int .i64 5,.int .i64 1,.int .i64 20,.int .i64 0,.int .i64 0]:=⟨_,rfl⟩
   all_goals
    rw [←hwa,←hcl,←HGB.out] at st2
    rw [←hcl] at hcs
    have HW0:=ζh hw0
    have HWA:=ζh hwa
    have HSs:Hid (Step w1 (fun _=>False) (VL K v0++[blkP gb cs 27 ]) wa):=ζh st2
    have HIs:Hid (VIs (0+200 * 0) vb K v0):=HI
    have HCS:=ζh hcs
    have hlen:(opsO m ww).length=10:=rfl
    have HLN:=ζh hlen
    have hok:OpsOk (opsO m ww):=⟨by rw [hlen];omega,by intro o ho;simp only [opsO,List.mem_cons,List.not_mem_nil,or_false] at ho;rcases ho with rfl | rfl | rfl | rfl | rfl | rfl | rfl | rfl | rfl | rfl<;>(simp [KO])⟩
    have HOK:=ζh hok
    clear st2 hw0 hwa hcs hcl HI HST1 hlen hok
    go_upto_region 12 with fail
    rw [←HWA.out,←HGB.out]
    clear HWA
    go_loopw [11] (fun i wr=>∃ (k:Nat) (K':VK) (v':VmM),k≤10∧i=.int .i64 k∧Hid (D=doneM v' ((opsO m ww).drop k))∧Hid (VIs (0+200 * k) vb K' v')∧Hid (Step w1 (fun _=>False) (VL K' v'++[blkP gb cs 27 ]) wr)) (fun i _=>10 - (intOf i).toNat)
    case atStart=>exact ⟨0,K,v0,by omega,rfl,ζh (by rw [HD.out];rfl),HIs,HSs⟩
    case round =>
    obtain ⟨k,K',v',hk,rfl,HRK,HIK,HSK⟩:=hrel
    obtain ⟨wo,rfl⟩:∃ wo:World,wo=wr:=⟨_,rfl⟩
    clear HIs HSs HD
    by_cases hlt:k < 10
    · have hkI:(k:Int) < 10:=by omega
      have hkN:0≤(k:Int):=by omega
      obtain ⟨o,ho⟩:∃ o,(opsO m ww)[k]?=some o:=⟨_,ζg (by rw [HLN.out];omega)⟩
      have hrk:=HRK.out
      rw [doneM_drop ho] at hrk
      have hblk:Blk wo gb cs 27:=HSK.out.blk (ζm (i:=4) rfl)
      obtain ⟨_,goff,hoa,y0,y1,y2,y3,y4⟩:=op_cells (rows_blk (by rw [HLN.out];omega) HCS.out hblk) ho
      injection hoa with hoa
      injection hoa with e1 e2
      subst e1 e2
      simp only [Nat.zero_add] at y0 y1 y2 y3 y4
      have hko:=HOK.out.2 o (ζm ho)
      have hdo:=do_is hko HIK.out (by omega) HSK.out
      obtain ⟨Q,hQ⟩:∃ Q,Q=v'.doOp o:=⟨_,rfl⟩
      rw [←hQ] at hdo hrk
      have hq0:Q.1.err=0:=by
       by_cases he:Q.1.err=0
       · exact he
       · rw [if_neg he] at hrk
         have:=G1.out
         rw [hrk] at this
         cases this
      rw [if_pos hq0] at hrk
      unfold opV at hdo
      have HDO:=ζh hdo
      have HR2:=ζh hrk
      have HQ0:=ζh hq0
      clear hblk hdo hrk hQ ho hko HSK HIK HRK hq0
      go_wp2_with fail
      refine HDO.out.mono ?_
      rintro e w3 ⟨K2,ka,kn,kc,rfl,hi2,st2⟩
      have ST2:=ζh (Step.dropAt 4 (st2.still (Mod.alloc' (fun _=>False) w3 (.cells #[.int .i64 Q.1.err,.int .i64 Q.1.n,.slice ka kn kc] 32))) rfl)
      have HI2:=ζh hi2
      clear st2 hi2 HDO y0 y1 y2 y3 y4
      unfold ansV
      rw [HQ0.out] at ST2 ⊢
      go_wp2_with fail
      go_roundw
      case rel=>exact ⟨k+1,K2,Q.2,by omega,by go_num,HR2,ζh (HI2.out.up (by omega)),ST2⟩
      case measure=>simp [intOf];omega
    have hk10:k=10:=by omega
    have hr:=HRK.out
    rw [hk10,show (opsO m ww).drop 10=[] from rfl] at hr
    have HIs:Hid (VIs (0+200 * 10) vb K' D.2):=ζh (by rw [hr,←hk10];exact HIK.out)
    have HSs:Hid (Step w1 (fun _=>False) (VL K' D.2++[]) wo):=ζh (by rw [hr];exact Step.dropAt 4 HSK.out rfl)
    have dk1:decide ((k:Int) < 10)=false:=decide_eq_false (by omega)
    have dk2:decide (k < 10)=false:=decide_eq_false (by omega)
    have HK10:=ζh hk10
    clear hr HRK HIK HSK HCS HOK HLN hlt hk hk10
    go_upto_region 18 with fail
    clear dk1 dk2
    obtain ⟨k10,hkk⟩:∃ k10:Nat,k10=k:=⟨_,rfl⟩
    rw [←hkk]
    clear hkk
    go_loopw [13] (fun i wr=>∃ (k:Nat) (K':VK) (v':VmM),k≤n∧i=.int .i64 k∧Hid (S0=storesM (n - k) v' 1 50 k)∧Hid (VIs ((0+200 * 10)+200 * k) vb K' v')∧Hid (Step w1 (fun _=>False) (VL K' v'++[]) wr)) (fun i _=>n - (intOf i).toNat)
    case atStart=>exact ⟨0,_,D.2,by omega,rfl,ζh (by rw [HS0.out];rfl),HIs,HSs⟩
    case round =>
    obtain ⟨k,K',v',hk,rfl,HRK,HIK,HSK⟩:=hrel
    obtain ⟨wo,rfl⟩:∃ wo:World,wo=wr:=⟨_,rfl⟩
    clear HIs HSs HS0
    by_cases hlt:k < n
    · have hkI:(k:Int) < n:=by omega
      have dkI:decide (k < n)=true:=decide_eq_true hlt
      have hx1:IntKind.i64.wrap (16 * (k:Int))=16 * k:=wrap_small _ (by omega) (by omega)
      have hx2:IntKind.i64.wrap (50+(k:Int))=50+k:=wrap_small _ (by omega) (by omega)
      have hrk:=HRK.out
      rw [show n - k=(n - (k+1))+1 by omega] at hrk
      unfold storesM at hrk
      have hdo:=do_is (o:=storeO 1 50 k) ⟨by show (9:Int)≠1;decide,by show (9:Int)≠7;decide,by show (9:Int)≠12;decide,by show KO 9;decide⟩ HIK.out (by omega) HSK.out
      obtain ⟨Q,hQ⟩:∃ Q,Q=v'.doOp (storeO 1 50 k):=⟨_,rfl⟩
      rw [←hQ] at hdo hrk
      have hq0:Q.1.err=0:=by
       by_cases he:Q.1.err=0
       · exact he
       · rw [if_neg he] at hrk
         have:=G2.out
         rw [hrk] at this
         cases this
      rw [if_pos hq0] at hrk
      unfold opV storeO at hdo
      have HDO:=ζh hdo
      have HR2:=ζh hrk
      have HQ0:=ζh hq0
      clear hdo hrk hQ HSK HIK HRK hq0
      go_wp2_with fail
      refine HDO.out.mono ?_
      rintro e w3 ⟨K2,ka,kn,kc,rfl,hi2,st2⟩
      have ST2:=ζh (Step.dropAt 4 (st2.still (Mod.alloc' (fun _=>False) w3 (.cells #[.int .i64 Q.1.err,.int .i64 Q.1.n,.slice ka kn kc] 32))) rfl)
      have HI2:=ζh hi2
      clear st2 hi2 HDO
      unfold ansV
      rw [HQ0.out] at ST2 ⊢
      go_wp2_with fail
      go_roundw
      case rel=>exact ⟨k+1,K2,Q.2,by omega,by go_num,HR2,ζh (HI2.out.up (by omega)),ST2⟩
      case measure=>simp [intOf];omega
    obtain rfl:n=k:=by omega
    have hr:=HRK.out
    rw [Nat.sub_self] at hr
    have HIs:Hid (VIs ((0+200 * 10)+200 * n) vb K' S0.2):=ζh (by rw [hr];exact HIK.out)
    have HSs:Hid (Step w1 (fun _=>False) (VL K' S0.2++[]) wo):=ζh (by rw [hr];exact HSK.out)
    have dkI:decide (n < n)=false:=decide_eq_false (by omega)
    clear hr HRK HIK HSK hlt hk
    go_upto_region 24 with fail
    clear dkI
    go_loopw [15] (fun i wr=>∃ (k:Nat) (K':VK) (v':VmM),k≤m∧i=.int .i64 k∧Hid (S1=onesM (m - k) v' k)∧Hid (VIs ((0+200 * 10+200 * n)+200 * k) vb K' v')∧Hid (Step w1 (fun _=>False) (VL K' v'++[]) wr)) (fun i _=>m - (intOf i).toNat)
    case atStart=>exact ⟨0,_,S0.2,by omega,rfl,ζh (by rw [HS1.out];rfl),HIs,HSs⟩
    case round =>
    obtain ⟨k,K',v',hk,rfl,HRK,HIK,HSK⟩:=hrel
    obtain ⟨wo,rfl⟩:∃ wo:World,wo=wr:=⟨_,rfl⟩
    clear HIs HSs HS1
    by_cases hlt:k < m
    · have hkI:(k:Int) < m:=by omega
      have dkI:decide (k < m)=true:=decide_eq_true hlt
      have hx1:IntKind.i64.wrap (16 * (k:Int))=16 * k:=wrap_small _ (by omega) (by omega)
      have hrk:=HRK.out
      rw [show m - k=(m - (k+1))+1 by omega] at hrk
      unfold onesM at hrk
      have hdo:=do_is (o:=⟨9,0,16 * k,1,0⟩) ⟨by show (9:Int)≠1;decide,by show (9:Int)≠7;decide,by show (9:Int)≠12;decide,by show KO 9;decide⟩ HIK.out (by omega) HSK.out
      obtain ⟨Q,hQ⟩:∃ Q,Q=v'.doOp (⟨9,0,16 * k,1,0⟩):=⟨_,rfl⟩
      rw [←hQ] at hdo hrk
      have hq0:Q.1.err=0:=by
       by_cases he:Q.1.err=0
       · exact he
       · rw [if_neg he] at hrk
         have:=G3.out
         rw [hrk] at this
         cases this
      rw [if_pos hq0] at hrk
      unfold opV at hdo
      have HDO:=ζh hdo
      have HR2:=ζh hrk
      have HQ0:=ζh hq0
      clear hdo hrk hQ HSK HIK HRK hq0
      go_wp2_with fail
      refine HDO.out.mono ?_
      rintro e w3 ⟨K2,ka,kn,kc,rfl,hi2,st2⟩
      have ST2:=ζh (Step.dropAt 4 (st2.still (Mod.alloc' (fun _=>False) w3 (.cells #[.int .i64 Q.1.err,.int .i64 Q.1.n,.slice ka kn kc] 32))) rfl)
      have HI2:=ζh hi2
      clear st2 hi2 HDO
      unfold ansV
      rw [HQ0.out] at ST2 ⊢
      go_wp2_with fail
      go_roundw
      case rel=>exact ⟨k+1,K2,Q.2,by omega,by go_num,HR2,ζh (HI2.out.up (by omega)),ST2⟩
      case measure=>simp [intOf];omega
    obtain rfl:m=k:=by omega
    have hr:=HRK.out
    rw [Nat.sub_self] at hr
    have HIs:Hid (VIs ((0+200 * 10+200 * n)+200 * m) vb K' S1.2):=ζh (by rw [hr];exact HIK.out)
    have HSs:Hid (Step w1 (fun _=>False) (VL K' S1.2++[]) wo):=ζh (by rw [hr];exact HSK.out)
    have dkI:decide (m < m)=false:=decide_eq_false (by omega)
    clear hr HRK HIK HSK hlt hk
    go_upto_region 29 with fail
    clear dkI
    have hdo:=do_is (o:=⟨9,0,16 * m,1,0⟩) ⟨by show (9:Int)≠1;decide,by show (9:Int)≠7;decide,by show (9:Int)≠12;decide,by show KO 9;decide⟩ (HIs.out.up (M:=9000) (by omega)) (by omega) HSs.out
    rw [←HA.out] at hdo
    unfold opV at hdo
    have HDO:=ζh hdo
    clear HIs HSs hdo HA HV0 G1 G2 G3 HK10
    go_wp2_with fail
    refine HDO.out.mono ?_
    rintro e w6 ⟨K6,ka,kn,kc,rfl,hi6,st6⟩
    unfold ansV
    have st7:=Step.localAt 5 (cs:=#[.int .i64 A.1.err,.int .i64 A.1.n,.slice ka kn kc]) (T:=32) st6
    have hpr:=vm_procs (ls:=[rowP 3 1 (.slice ka kn kc) A.1.killed.length (A.1.killed.map encI),blkP w6.heap.size #[.int .i64 A.1.err,.int .i64 A.1.n,.slice ka kn kc] 32 ]) hi6.len hi6.sm.few st7
    rw [hi6.vb] at hpr
    obtain ⟨ab,hab⟩:∃ ab,ab=w6.heap.size:=⟨_,rfl⟩
    rw [←hab] at hpr
    have HPR:=ζh hpr
    have HAB:=ζh hab
    have HI:=ζh hi6
    clear hpr hab hi6 st6 st7 HDO
    go_wp2_with fail
    rw [←HAB.out]
    refine HPR.out.mono ?_
    rintro e w7 ⟨pv,rfl,st8⟩
    have hpl:A.2.procs.length=3:=by have:=congrArg List.length G6.out;simpa using this
    obtain ⟨pa,pc,rfl⟩:=ownsRow_form (rowAtI 1 st8 rfl)
    obtain ⟨⟨q0,q1,q2⟩,hq⟩:∃ q:(Int × Option SpM) × (Int × Option SpM) × (Int × Option SpM),A.2.procs=[q.1,q.2.1,q.2.2]:=by
     match hx:A.2.procs with
     | [a,b,c]=>exact ⟨(a,b,c),rfl⟩
     | []=>rw [hx] at hpl;cases hpl
     | [_]=>rw [hx] at hpl;cases hpl
     | [_,_]=>rw [hx] at hpl;cases hpl
     | _::_::_::_::_=>rw [hx] at hpl;simp at hpl
    have st9:=Step.back 4 (Step.front 1 st8 rfl)
    have st9':Step w1 (fun _=>False) (VL K6 A.2++[rowP 37 3 (.slice pa A.2.procs.length pc) A.2.procs.length (A.2.prcs.flatMap Vic.ecP),rowP 3 1 (.slice ka kn kc) A.1.killed.length (A.1.killed.map encI),blkP ab #[.int .i64 A.1.err,.int .i64 A.1.n,.slice ka kn kc] 32 ]) w7:=st9
    rw [show A.2.prcs.flatMap Vic.ecP=[.int .i64 q0.1,.int .i64 (VmM.prc q0).size,.bool q0.2.isSome,.int .i64 q1.1,.int .i64 (VmM.prc q1).size,.bool q1.2.isSome,.int .i64 q2.1,.int .i64 (VmM.prc q2).size,.bool q2.2.isSome] by unfold VmM.prcs;rw [hq];rfl,hpl] at st9'
    rw [hpl]
    have hrow:=rowAtI 4 st9' rfl
    have hkr:=rowAtI 5 st9' rfl
    obtain ⟨pg,rfl⟩:∃ g,pa=some ⟨g,0,none⟩:=by
     rcases id hrow.2 with ⟨_,h0⟩ | ⟨g,cap,cur,hv,_⟩
     · cases h0
     · injection hv with hv
       exact ⟨g,hv⟩
    have hkn:kn=1+ww:=by
     have h5:=G5.out
     rcases id hkr.2 with ⟨_,h0⟩ | ⟨g,cap,cur,hv,_⟩
     · omega
     · injection hv with hv1 hv2 hv3
       omega
    have g6:=G6.out
    rw [hq] at g6
    simp only [List.map_cons,List.map_nil,List.cons.injEq,and_true] at g6
    obtain ⟨e0,e1,e2⟩:=g6
    rw [HW0.out] at e2 hkn
    rw [e0,e1,e2,G4.out] at st9'
    have CELLS:∀ (K':VK) (v':VmM) (w':World) (b2:Bool) (kn':Nat),Step w1 (fun _=>False) (VL K' v'++[rowP 37 3 (.slice (some ⟨pg,0,none⟩) 3 pc) 3 [.int .i64 q0.1,.int .i64 (VmM.prc q0).size,.bool false,.int .i64 q1.1,.int .i64 (VmM.prc q1).size,.bool true,.int .i64 q2.1,.int .i64 (VmM.prc q2).size,.bool b2],rowP 3 1 (.slice ka kn' kc) A.1.killed.length (A.1.killed.map encI),blkP ab #[.int .i64 13,.int .i64 A.1.n,.slice ka kn' kc] 32 ]) w' →
     w'.cell? ⟨pg,2,none⟩=some (.bool false)∧w'.cell? ⟨pg,5,none⟩=some (.bool true)∧w'.cell? ⟨pg,8,none⟩=some (.bool b2)∧w'.cell? ⟨ab,0,none⟩=some (.int .i64 13)∧w'.cell? ⟨ab,2,none⟩=some (.slice ka kn' kc):=by
     intro K' v' w' b2 kn' st
     have hrow:=rowAtI 4 st rfl
     have hbl:Blk w' ab #[.int .i64 13,.int .i64 A.1.n,.slice ka kn' kc] 32:=st.blk (ζm (i:=6) rfl)
     exact ⟨hrow.cellAt 2 (by decide),hrow.cellAt 5 (by decide),hrow.cellAt 8 (by decide),hbl.cell 0,hbl.cell 2⟩
    rw [hkn] at st9'
    have HSs:=ζh st9'
    have HIs:Hid (VIs 9200 vb K6 A.2):=ζh (HI.out.up (by omega))
    have CE:=ζh CELLS
    obtain ⟨y2,y5,y8,z0,z2⟩:=CELLS _ _ _ _ _ st9'
    clear st8 st9 st9' hpl hrow hkr hq HPR CELLS e0 e1 e2 hkn HI G5 G6 G4
    go_upto_region 34 with fail
    clear y2 y5 y8 z0 z2
    go_loopw [19] (fun i wr=>∃ (k:Nat) (K':VK) (v':VmM),k≤n∧i=.int .i64 k∧Hid (Z=loadsM (n - k) v' 1 50 k)∧Hid (VIs (9200+200 * k) vb K' v')∧Hid (Step w1 (fun _=>False) (VL K' v'++[rowP 37 3 (.slice (some ⟨pg,0,none⟩) 3 pc) 3 _,rowP 3 1 (.slice ka _ kc) A.1.killed.length (A.1.killed.map encI),blkP ab #[.int .i64 13,.int .i64 A.1.n,.slice ka _ kc] 32 ]) wr)) (fun i _=>n - (intOf i).toNat)
    case atStart=>exact ⟨0,_,A.2,by omega,rfl,ζh (by rw [HZ.out];rfl),HIs,HSs⟩
    case round =>
    obtain ⟨k,K',v',hk,rfl,HRK,HIK,HSK⟩:=hrel
    obtain ⟨wo,rfl⟩:∃ wo:World,wo=wr:=⟨_,rfl⟩
    clear HIs HSs HZ
    by_cases hlt:k < n
    · have hkI:(k:Int) < n:=by omega
      have dkI:decide (k < n)=true:=decide_eq_true hlt
      have hx1:IntKind.i64.wrap (16 * (k:Int))=16 * k:=wrap_small _ (by omega) (by omega)
      have hx2:IntKind.i64.wrap (50+(k:Int))=50+k:=wrap_small _ (by omega) (by omega)
      have hrk:=HRK.out
      rw [show n - k=(n - (k+1))+1 by omega] at hrk
      unfold loadsM at hrk
      have hdo:=do_is (o:=loadO 1 k) ⟨by show (8:Int)≠1;decide,by show (8:Int)≠7;decide,by show (8:Int)≠12;decide,by show KO 8;decide⟩ HIK.out (by omega) HSK.out
      obtain ⟨Q,hQ⟩:∃ Q,Q=v'.doOp (loadO 1 k):=⟨_,rfl⟩
      rw [←hQ] at hdo hrk
      have hq0:Q.1.err=0∧Q.1.n=50+k:=by
       by_cases he:Q.1.err=0∧Q.1.n=50+k
       · exact he
       · rw [if_neg he] at hrk
         have:=G7.out
         rw [hrk] at this
         cases this
      rw [if_pos hq0] at hrk
      unfold opV loadO at hdo
      have HDO:=ζh hdo
      have HR2:=ζh hrk
      have HQ0:=ζh hq0
      clear hdo hrk hQ HSK HIK HRK hq0
      go_wp2_with fail
      refine HDO.out.mono ?_
      rintro e w8 ⟨K2,la,ln,lc,rfl,hi2,st2⟩
      have ST2:=ζh (st2.still (Mod.alloc' (fun _=>False) w8 (.cells #[.int .i64 Q.1.err,.int .i64 Q.1.n,.slice la ln lc] 32)))
      have HI2:=ζh hi2
      clear st2 hi2 HDO
      unfold ansV
      go_upto_region 37 with fail
      obtain ⟨wn,hwn⟩:∃ wn,wn=w8.alloc (.cells #[.int .i64 Q.1.err,.int .i64 Q.1.n,.slice la ln lc] 32):=⟨_,rfl⟩
      obtain ⟨gn,hgn⟩:∃ gn,gn=w8.heap.size:=⟨_,rfl⟩
      have hbk:=Blk.new w8 #[.int .i64 Q.1.err,.int .i64 Q.1.n,.slice la ln lc] 32
      rw [←hwn,←hgn] at hbk
      rw [←hwn] at ST2
      rw [←hwn,←hgn]
      have c0:wn.cell? ⟨gn,0,none⟩=some (.int .i64 Q.1.err):=hbk.cell 0
      have c1:wn.cell? ⟨gn,1,none⟩=some (.int .i64 Q.1.n):=hbk.cell 1
      have ST3:=ζh (Step.dropAt 4 ST2.out rfl)
      rw [HQ0.out.1] at c0
      rw [HQ0.out.2] at c1
      clear hwn hgn hbk ST2
      go_wp2_with fail
      go_roundw
      case rel=>exact ⟨k+1,K2,Q.2,by omega,by go_num,HR2,ζh (HI2.out.up (by omega)),ST3⟩
      case measure=>simp [intOf];omega
    obtain rfl:n=k:=by omega
    have dkI:decide (n < n)=false:=decide_eq_false (by omega)
    obtain ⟨y2,y5,y8,z0,z2⟩:=CE.out _ _ _ _ _ HSK.out
    have M8:=ζh (M1.out.trans' HSK.out.mod (fun i hi h=>h))
    clear HRK HIK HSK CE hlt hk y2 y5 y8 z0
    go_wp2_with fail
    go_ret
    exact ⟨rfl,M8.out⟩
end
end Go.Proofs.YtkfoeonggmlebaaGreatDoor
