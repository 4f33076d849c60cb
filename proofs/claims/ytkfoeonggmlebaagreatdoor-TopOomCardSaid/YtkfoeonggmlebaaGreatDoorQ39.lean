/-
  Contracts of the program's functions, and plain facts, towards the laws of millpondtop. No condition beyond those that each theorem bears.
-/
import Derived.Test.YtkfoeonggmlebaaGreatDoorQ38
import Derived.Test.YtkfoeonggmlebaaGreatDoorQAA
set_option maxRecDepth 100000
set_option maxHeartbeats 4000000
namespace Go.Proofs.YtkfoeonggmlebaaGreatDoor
section
open Go.RowKit Go.Shelf Go.ChangeShapes Go.WideShapes
open Ent (Ent)
open Go.Proofs.YtkfoeonggmlebaaGreatDoor.Reg
attribute [local go_sem] Oper.semAt_some
variable {w0 w:World} {F0:Nat→Prop} {A B C:Part} {ls ps:List Part} {sb rb:Nat} {s:SpM} {v:Value}
theorem own_nil {w:World} {base T sz n:Nat} {v:Value} {xs:List Value} (h:w.ownsRow base T sz v n xs):∀ n c,v=.slice none n c→c=0:=by
 rintro n c rfl
 rcases h.2 with ⟨h,_⟩ | ⟨g,cap,cur,h,_⟩
 · injection h
 · cases h
theorem sp_map (x:Rg) (st:Step w0 F0 (spaceP sb s::ls) w) :
 Calls Tryz.prog 60 #[.pointer (some ⟨sb,0,none⟩),.agg (ecRg x).toArray] w fun e w'=>e=.returned (.int .i64 (s.map x).1)∧Step w0 F0 (spaceP sb (s.map x).2::ls) w':=by
 obtain ⟨rb,v,ht,st2⟩:=spaceL_open st
 obtain ⟨a,c,rfl⟩:=ownsRow_form st2.row1
 obtain ⟨E,hE⟩:∃ E,E=addR s.regs x:=⟨_,rfl⟩
 have hmap:s.map x=(E.1,if E.1=0 then { s with regs:=E.2 } else s):=by unfold SpM.map;rw [←hE]
 rw [hmap]
 clear hmap
 have hnil:=own_nil st2.row1
 have hm1:=Mod.alloc' (fun _=>False) w (.cells (ecRg x).toArray 131)
 have hb1:=Blk.new w (ecRg x).toArray 131
 have st3:=st2.still hm1
 have hrow:=rowsOf ecRg_len st3.row1 rfl
 have hadd:=radd_any s.regs _ x _ (hrow.keep ecRg_len (Mod.refl (fun _=>False) _).drew (fun _ _ h=>h)) hnil
 obtain ⟨wa,hwa⟩:∃ wa,wa=w.alloc (.cells (ecRg x).toArray 131):=⟨_,rfl⟩
 obtain ⟨g,hg⟩:∃ g,g=w.heap.size:=⟨_,rfl⟩
 rw [←hwa] at hm1 hb1 st3 hadd
 rw [←hg] at hb1
 rw [←hE] at hadd
 have c0:=(Step.blk0 st3).cell 0
 simp only [ζa,ζb] at c0
 obtain ⟨y0,y1,y2,y3,y4,y5⟩:=rg_load hb1
 rw [rg_agg] at hadd hwa ⊢
 have HA:=ζh hadd
 have ST:=ζh st3
 have HT:=ζh ht
 have HB:=ζh hb1
 have HWA:=ζh hwa
 have HG:=ζh hg
 have HE:=ζh hE
 clear st st2 hE hnil hm1 hb1 st3 hrow hadd hwa hg ht
 go_enter Tryz.func60,Tryz.ntmps60
 go_upto_region 1 with fail
 rw [←HWA.out,←HG.out]
 go_region_held3 (fun w'=>w'.cell? ⟨sb,0,none⟩=some (.slice a s.regs.length c)∧w'.cell? ⟨g,0,none⟩=some (.int .i64 x.a)∧w'.cell? ⟨g,1,none⟩=some (.int .i64 x.b)∧w'.cell? ⟨g,2,none⟩=some (.int .i64 x.k)∧w'.cell? ⟨g,3,none⟩=some (.int .i64 x.f)∧w'.cell? ⟨g,4,none⟩=some (.int .i64 x.i)∧w'.cell? ⟨g,5,none⟩=some (.bool x.wr)) (first | exact ⟨c0,y0,y1,y2,y3,y4,y5⟩ | exact ⟨d0,z0,z1,z2,z3,z4,z5⟩) (first
  | (go_at_call 100;refine HA.out.mono ?_;rintro e w1 ⟨u,rfl,hm1,ho1⟩;have hm2:=((Mod.refl (fun _=>False) wa).drew).trans hm1;have d0:=hm2.keeps c0 (fun x=>x);obtain ⟨z0,z1,z2,z3,z4,z5⟩:=rg_load (HB.out.keep hm2 (fun x=>x))))
 rename_i hHeld
 clear hHeld y0 y1 y2 y3 y4 y5 z0 z1 z2 z3 z4 z5 c0
 have ST1:=ζh (ST.out.still hm2)
 have HM2:=ζh hm1
 have HO:=ζh ho1
 clear hm1 hm2 ho1
 by_cases h0:E.1=0
 · have b0:(E.1==0)=true:=by simp [h0]
   have ho:=HO.out h0
   obtain ⟨ua,uc,rfl⟩:=ownsRow_form ho
   have st5:=sp_regs (ST.out.drew) HM2.out ho
   have hb5:=Step.blk0 st5
   have g0:=hb5.frozen 0
   have st6:=Step.set0 (j:=0) (v:=.slice ua E.2.length uc) st5
   have ST6:=ζh (spaceL_pack (s:={ s with regs:=E.2 }) rfl HT.out st6)
   clear ho st5 hb5 st6
   have H0:=ζh h0
   clear h0
   go_wp2_with fail
   go_ret
   exact ⟨rfl,ST6.out⟩
 · have b0:(E.1==0)=false:=by simp [h0]
   have ST6:=ζh (spaceL_pack (s:=s) rfl HT.out ST1.out)
   have H0:=ζh h0
   clear h0
   go_wp2_with fail
   go_ret
   exact ⟨rfl,ST6.out⟩
theorem sp_new (w:World):Calls Tryz.prog 55 #[] w fun e w'=>∃ sb F,e=.returned (.pointer (some ⟨sb,0,none⟩))∧Mod (fun _=>False) w w'∧(spaceP sb SpM.new).at_ w' F∧∀ x,F x→w.heap.size≤x:=by
 go_enter Tryz.func55,Tryz.ntmps55
 go_wp2_with fail
 refine (rdnew_any _).mono ?_
 rintro e w1 ⟨rfl,hm1,hK1,hs1⟩
 obtain ⟨rb,hrb⟩:∃ rb,rb=w.heap.size:=⟨_,rfl⟩
 rw [←hrb] at hK1 hs1 ⊢
 obtain ⟨bk,hbk⟩:∃ bk:Bk,bk=fun l p=>if l=0∧p=0 then some rb else none:=⟨_,rfl⟩
 rw [←hbk] at hK1
 have h00:bk 0 0=some rb:=by rw [hbk];exact if_pos ⟨rfl,rfl⟩
 have hin:∀ b,RadF bk b→b=rb:=by
  rintro b ⟨l,p,hb⟩
  rw [hbk] at hb
  simp only at hb
  split at hb
  · injection hb with hb;exact hb.symm
  · cases hb
 have hm2:=Mod.alloc' (fun _=>False) w1 (.cells #[.slice none 0 0,.pointer (some ⟨rb,0,none⟩)] 93)
 have hb2:=Blk.new w1 #[.slice none 0 0,.pointer (some ⟨rb,0,none⟩)] 93
 have hK2:=hK1.keep hm2 (fun _ _ _ _ x=>x)
 have hat:(spaceP w1.heap.size SpM.new).at_ (w1.alloc (.cells #[.slice none 0 0,.pointer (some ⟨rb,0,none⟩)] 93)) (fun x=>x=w1.heap.size∨RadF bk x):=by
  refine ⟨rb,.slice none 0 0,fun x=>x=w1.heap.size,fun x=>RadF bk x,⟨hb2,rfl⟩,⟨fun _=>False,fun x=>RadF bk x,⟨⟨rfl,.inl ⟨rfl,rfl⟩⟩,?_⟩,⟨fun x=>RadF bk x,fun _=>False,⟨⟨List.Pairwise.nil,fun e he=>(by cases he),fun e he=>(by cases he)⟩,bk,hK2,h00,rfl⟩,fun _ x=>x,fun _ _ x=>x,fun x=>by simp⟩,fun _ x=>x.elim,fun x=>by simp⟩,fun x hx hc=>?_,fun x=>Iff.rfl⟩
  · funext x;simp [Value.ownBlock]
  · have:=hin x hc;omega
 have HAT:=ζh hat
 have HM:=ζh (hm1.trans hm2)
 have HIN:=ζh hin
 have HS:=ζh hs1
 have HRB:=ζh hrb
 clear hat hm1 hm2 hin hs1 hbk hK1 hK2 h00 hb2 hrb
 go_wp2_with fail
 go_ret
 refine ⟨_,_,rfl,HM.out,HAT.out,fun x hx=>?_⟩
 rcases hx with hx | hx
 · have:=HS.out;have:=HRB.out;omega
 · have:=HIN.out x hx;have:=HRB.out;omega
end
end Go.Proofs.YtkfoeonggmlebaaGreatDoor
