/-
  Contracts of the program's functions, and plain facts, towards the laws of millpondtop. No condition beyond those that each theorem bears.
-/
import Derived.Test.YtkfoeonggmlebaaGreatDoorQ25
import Derived.Test.YtkfoeonggmlebaaGreatDoorQ30
import Derived.Test.YtkfoeonggmlebaaGreatDoorQ31
import Derived.Test.YtkfoeonggmlebaaGreatDoorQAA
set_option maxRecDepth 100000
set_option maxHeartbeats 4000000
namespace Go.Proofs.YtkfoeonggmlebaaGreatDoor
section
open Go.RowKit Go.Shelf Go.ChangeShapes Go.WideShapes
attribute [local go_sem] Oper.semAt_some
def optD (d:Value) (b:Bool) (v:Value):Value:=bif b then v else d
theorem optD_true (d v:Value):optD d true v=v:=rfl
theorem optD_false (d v:Value):optD d false v=d:=rfl
def newDeps:List Nat:=[0,2,4,6,7,8,9,10,11,12]
def DnN (f:Nat→Bool):Prop:=((f 14=true→f 13=true)∧(f 15=true→f 14=true))∧∀ d∈newDeps,f 13=true→f d=true
theorem DnN.no {f:Nat→Bool} (h:DnN f) {i:Nat} (hi:i∈newDeps) (hf:f i=false):f 13=false∧f 14=false:=by
 have h13:f 13=false:=by
  cases hx:f 13 with
  | false=>rfl
  | true=>have:=h.2 i hi hx;rw [hf] at this;cases this
 refine ⟨h13,?_⟩
 cases hx:f 14 with
 | false=>rfl
 | true=>have:=h.1.1 hx;rw [h13] at this;cases this
theorem DnN.no15 {f:Nat→Bool} (h:DnN f) (hf:f 14=false):f 15=false:=by
 cases hx:f 15 with
 | false=>rfl
 | true=>have:=h.1.2 hx;rw [hf] at this;cases this
theorem updF_ne {f:Nat→Bool} {i j:Nat} (h:j≠i):updF f i j=f j:=by unfold updF;exact if_neg h
theorem updF_at {f:Nat→Bool} {i:Nat}:updF f i i=true:=by unfold updF;exact if_pos rfl
theorem updF_up {f:Nat→Bool} {i j:Nat} (h:f j=true):updF f i j=true:=by
 by_cases e:j=i
 · subst e;exact updF_at
 · rw [updF_ne e,h]
theorem DnN.upd {f:Nat→Bool} (h:DnN f) {i:Nat} (h1:i≠13) (h2:i≠14) (h3:i≠15):DnN (updF f i) :=
 ⟨⟨fun e=>updF_up (h.1.1 (by rwa [updF_ne (by omega)] at e)),fun e=>updF_up (h.1.2 (by rwa [updF_ne (by omega)] at e))⟩,fun d hd e=>updF_up (h.2 d hd (by rwa [updF_ne (by omega)] at e))⟩
theorem DnN.upd13 {f:Nat→Bool} (h:DnN f) (hd:∀ d∈newDeps,f d=true):DnN (updF f 13) :=
 ⟨⟨fun e=>updF_at,fun e=>updF_up (h.1.2 (by rwa [updF_ne (by omega)] at e))⟩,fun d hd' _=>updF_up (hd d hd')⟩
theorem DnN.upd14 {f:Nat→Bool} (h:DnN f) (h13:f 13=true):DnN (updF f 14) :=
 ⟨⟨fun e=>updF_up h13,fun e=>updF_at⟩,fun d hd' _=>updF_up (h.2 d hd' h13)⟩
theorem DnN.upd15 {f:Nat→Bool} (h:DnN f) (h14:f 14=true):DnN (updF f 15) :=
 ⟨⟨fun e=>updF_up (h.1.1 h14),fun e=>updF_up h14⟩,fun d hd' _=>updF_up (h.2 d hd' (h.1.1 h14))⟩
theorem Step.nil0 {w0 w:World} {F0:Nat→Prop} {l:List Part} (st:Step w0 F0 l w):Step w0 F0 (nilP::l) w :=
 st.push (A:=nilP) (F:=fun _=>False) (Mod.refl _ _) rfl (fun x hx=>hx.elim)
theorem Step.nils {w0 w:World} {F0:Nat→Prop} {l:List Part} (st:Step w0 F0 l w):∀ n,Step w0 F0 (List.replicate n nilP++l) w
 | 0=>st
 | n+1=>(st.nils n).nil0
theorem newInv (F S:Int) (sizes:List Int):(CoM.new F S sizes).Inv :=
 ⟨Tre.newT_good,rfl,rfl,(fun e he=>by cases he),(fun e he=>by cases he),(fun e he=>by cases he)⟩
theorem core_new (F S:Int) (sizes:List Int) (v:Value) (w:World) (ht:Pol.TabIs w) (h:IntsAt w v sizes) :
 Calls Tryz.prog 20 #[.int .i64 F,.int .i64 S,v] w fun e w'=>∃ K,e=.returned (.pointer (some ⟨K.b,0,none⟩))∧Step w (fun _=>False) [coreP K (CoM.new F S sizes)] w':=by
 have st:Step w (fun _=>False) [] w:=Step.refl (F:=fun _=>False) (fun _ x=>x) ht (fun x=>x)
 obtain ⟨va,vc,rfl⟩:=ints_form h
 obtain ⟨v,hv⟩:∃ v,v=Value.slice va sizes.length vc:=⟨_,rfl⟩
 rw [←hv] at h ⊢
 have ST:=ζh st
 have HI:=ζh h
 have HV:=ζh hv
 have hmk:∀ w,(Instr.makeSlice 87 (.int .i64 1) (.int .i64 1)).run Tryz.prog w=.ok (.slice (some ⟨w.heap.size,0,none⟩) 1 1) (w.alloc (.cells #[.int .i64 0,.int .i64 0,.bool false] 164)):=by intro w;kernel_rfl
 have hmm:=@run_makeMap Tryz.prog
 clear st h hv ht
 go_enter Tryz.func20,Tryz.ntmps20
 go_wp2_with fail
 refine wp_region_inv (by kernel_rfl) (fun f a W=>∃ K:CK,a={ tmps:=#[.int .i64 F,.int .i64 S,v,undef,undef,undef,(optD (.pointer none) (f 15) (.pointer (some ⟨K.b,0,none⟩))),(optV (f 0) (.pointer (some ⟨K.tb,0,none⟩))),(optV (f 1) (.int .i64 F)),(optV (f 2) (.agg #[.pointer (some ⟨K.fp,0,none⟩),.pointer (some ⟨K.fs,0,none⟩),.pointer (some ⟨K.fu,0,none⟩)])),(optV (f 3) (.int .i64 S)),(optV (f 4) (.agg #[.pointer (some ⟨K.sp,0,none⟩),.pointer (some ⟨K.ss,0,none⟩),.pointer (some ⟨K.su,0,none⟩)])),(optV (f 5) v),(optV (f 6) (.pointer (some ⟨K.fl,0,none⟩))),(optV (f 7) (.pointer (some ⟨K.gb,0,none⟩))),(optV (f 8) (.pointer (some ⟨K.lb,0,none⟩))),(optV (f 9) (.pointer (some ⟨K.pb,0,none⟩))),(optV (f 10) (.map (some K.km))),(optV (f 11) K.gv),(optV (f 12) K.uv),(optV (f 13) (.agg K.cells)),(optV (f 14) (.pointer (some ⟨K.b,0,none⟩)))],defers:=[] }∧DnN f∧(f 11=true→∃ x y z,K.gv=.slice x y z)∧(f 12=true→∃ x y z,K.uv=.slice x y z)∧Step w (fun _=>False) [(if f 14=true then blkP K.b K.cells 89 else nilP),(if f 0=true then treeP K.tb Tre.newT else nilP),(if f 2=true then poolP K.fp (CoM.newSt F).pool else nilP),(if f 2=true then bytesP K.fs (CoM.newSt F).bytes else nilP),(if f 2=true then cntP K.fu (CoM.newSt F).used else nilP),(if f 4=true then poolP K.sp (CoM.newSt S).pool else nilP),(if f 4=true then bytesP K.ss (CoM.newSt S).bytes else nilP),(if f 4=true then cntP K.su (CoM.newSt S).used else nilP),(if f 6=true then filP K.fl (Fil.newFU sizes) else nilP),(if f 7=true then gensP K.gb [] else nilP),(if f 8=true then logP K.lb (List.replicate 64 (0,0)) else nilP),(if f 9=true then pagesP K.pb ⟨[],[],[],0⟩ else nilP),(if f 10=true then mapP ekInt evK K.km [] else nilP),(if f 11=true then rowP 164 3 K.gv 1 [.int .i64 0,.int .i64 0,.bool false] else nilP),(if f 12=true then rowP 3 1 K.uv 1 [.int .i64 (-1)] else nilP)] W) (by kernel_rfl) ?h0 ?hstep ?hend
 case h0 =>
  refine ⟨⟨0,0,0,0,0,0,0,0,0,0,0,0,0,undef,undef⟩,by simp [optV_false,optD_false],⟨⟨fun h=>(by cases h),fun h=>(by cases h)⟩,fun d hd h=>(by cases h)⟩,by simp,by simp,?_⟩
  simp only [Bool.false_eq_true,if_false]
  exact ST.out.drew.nils 15
 case hstep =>
  rintro i o f a W ho hf hdep ⟨K,rfl,hdn,hgv,huv,st⟩ K' hK
  have hi:i < 16:=(ζi.1 ho).1
  obtain rfl | rfl | rfl | rfl | rfl | rfl | rfl | rfl | rfl | rfl | rfl | rfl | rfl | rfl | rfl | rfl:i=0∨i=1∨i=2∨i=3∨i=4∨i=5∨i=6∨i=7∨i=8∨i=9∨i=10∨i=11∨i=12∨i=13∨i=14∨i=15:=by omega
  all_goals
   simp only [ζc,ζb,Option.some.injEq] at ho
   subst ho
   rw [if_pos (by rfl)]
   have HS:=ζh st
   have HF:=ζh hf
   have HD:=ζh hdep
   have HDN:=ζh hdn
   have HGV:=ζh hgv
   have HUV:=ζh huv
   clear hf hdep hi st hgv huv hdn
   try dsimp only
  · obtain ⟨n13,n14⟩:=HDN.out.no (by decide) HF.out
    have st:=HS.out
    simp only [HF.out,n14,Bool.false_eq_true,if_false] at st
    have HST:=ζh st
    clear st
    go_simp
    go_at_call 25
    refine (Tre.new_any _).mono ?_
    rintro e w4 ⟨b,g,cc,rfl,hm4,hT,f1,f2⟩
    have st5:=HST.out.makeAt (B:=treeP b Tre.newT) 1 (by rfl) hm4 ⟨g,cc,hT,rfl⟩ (by rintro x (h | h)<;>omega)
    have HS5:=ζh st5
    clear st5
    simp only [Act.put,List.setIfInBounds_toArray,List.set_cons_zero,List.set_cons_succ]
    refine hK.out _ _ ⟨{ K with tb:=b },by simp [optV_true,optD_true,optD_false,optV_false,updF,n13,n14,CK.cells],HDN.out.upd (by decide) (by decide) (by decide),by simpa [updF] using HGV.out,by simpa [updF] using HUV.out,?_⟩
    have:=HS5.out;simpa [updF,n14] using this
  · go_simp
    refine hK.out _ _ ⟨K,by simp [optV_true,optD_true,optD_false,updF],HDN.out.upd (by decide) (by decide) (by decide),by simpa [updF] using HGV.out,by simpa [updF] using HUV.out,?_⟩
    have:=HS.out;simpa [updF] using this
  · have f0:f 1=true:=HD.out ⟨1,.data⟩ (by simp) (by rfl)
    obtain ⟨n13,n14⟩:=HDN.out.no (by decide) HF.out
    have st:=HS.out
    simp only [HF.out,n14,Bool.false_eq_true,if_false] at st
    simp only [f0,optV_true,optD_true,optD_false]
    have HST:=ζh st
    clear st
    go_simp
    go_at_call 26
    refine (core_newStore F 2 (by rfl) (by rfl) (by rfl) HST.out).mono ?_
    rintro e w4 ⟨p,s,u,rfl,st5⟩
    have HS5:=ζh st5
    clear st5
    simp only [Act.put,List.setIfInBounds_toArray,List.set_cons_zero,List.set_cons_succ]
    refine hK.out _ _ ⟨{ K with fp:=p,fs:=s,fu:=u },by simp [optV_true,optD_true,optD_false,optV_false,updF,f0,n13,n14,CK.cells],HDN.out.upd (by decide) (by decide) (by decide),by simpa [updF] using HGV.out,by simpa [updF] using HUV.out,?_⟩
    have:=HS5.out;simpa [updF,n14] using this
  · go_simp
    refine hK.out _ _ ⟨K,by simp [optV_true,optD_true,optD_false,updF],HDN.out.upd (by decide) (by decide) (by decide),by simpa [updF] using HGV.out,by simpa [updF] using HUV.out,?_⟩
    have:=HS.out;simpa [updF] using this
  · have f0:f 3=true:=HD.out ⟨3,.data⟩ (by simp) (by rfl)
    obtain ⟨n13,n14⟩:=HDN.out.no (by decide) HF.out
    have st:=HS.out
    simp only [HF.out,n14,Bool.false_eq_true,if_false] at st
    simp only [f0,optV_true,optD_true,optD_false]
    have HST:=ζh st
    clear st
    go_simp
    go_at_call 26
    refine (core_newStore S 5 (by rfl) (by rfl) (by rfl) HST.out).mono ?_
    rintro e w4 ⟨p,s,u,rfl,st5⟩
    have HS5:=ζh st5
    clear st5
    simp only [Act.put,List.setIfInBounds_toArray,List.set_cons_zero,List.set_cons_succ]
    refine hK.out _ _ ⟨{ K with sp:=p,ss:=s,su:=u },by simp [optV_true,optD_true,optD_false,optV_false,updF,f0,n13,n14,CK.cells],HDN.out.upd (by decide) (by decide) (by decide),by simpa [updF] using HGV.out,by simpa [updF] using HUV.out,?_⟩
    have:=HS5.out;simpa [updF,n14] using this
  · go_simp
    refine hK.out _ _ ⟨K,by simp [optV_true,optD_true,optD_false,updF],HDN.out.upd (by decide) (by decide) (by decide),by simpa [updF] using HGV.out,by simpa [updF] using HUV.out,?_⟩
    have:=HS.out;simpa [updF] using this
  · obtain ⟨n13,n14⟩:=HDN.out.no (by decide) HF.out
    have st:=HS.out
    simp only [HF.out,n14,Bool.false_eq_true,if_false] at st
    have f0:f 5=true:=HD.out ⟨5,.data⟩ (by simp) (by rfl)
    simp only [f0,optV_true,optD_true,optD_false]
    have HST:=ζh st
    clear st
    go_simp
    go_at_call 27
    refine (Fil.fnew_any sizes v _ (HI.out.keep HST.out.mod (fun b hb h=>h))).mono ?_
    rintro e w4 ⟨b,Fx,rfl,hm4,hT,f1⟩
    have st5:=HST.out.makeAt (B:=filP b (Fil.newFU sizes)) 8 (by rfl) hm4 hT (by exact f1)
    have HS5:=ζh st5
    clear st5
    simp only [Act.put,List.setIfInBounds_toArray,List.set_cons_zero,List.set_cons_succ]
    refine hK.out _ _ ⟨{ K with fl:=b },by simp [optV_true,optD_true,optD_false,optV_false,updF,f0,n13,n14,CK.cells],HDN.out.upd (by decide) (by decide) (by decide),by simpa [updF] using HGV.out,by simpa [updF] using HUV.out,?_⟩
    have:=HS5.out;simpa [updF,n14] using this
  · obtain ⟨n13,n14⟩:=HDN.out.no (by decide) HF.out
    have st:=HS.out
    simp only [HF.out,n14,Bool.false_eq_true,if_false] at st
    have HST:=ζh st
    clear st
    go_simp
    go_at_call 28
    refine (Gen.gensnew_any _).mono ?_
    rintro e w4 ⟨b,mb,rfl,hm4,hT,f1,f2⟩
    have st5:=HST.out.makeAt (B:=gensP b []) 9 (by rfl) hm4 ⟨mb,hT,rfl⟩ (by rintro x (h | h)<;>omega)
    have HS5:=ζh st5
    clear st5
    simp only [Act.put,List.setIfInBounds_toArray,List.set_cons_zero,List.set_cons_succ]
    refine hK.out _ _ ⟨{ K with gb:=b },by simp [optV_true,optD_true,optD_false,optV_false,updF,n13,n14,CK.cells],HDN.out.upd (by decide) (by decide) (by decide),by simpa [updF] using HGV.out,by simpa [updF] using HUV.out,?_⟩
    have:=HS5.out;simpa [updF,n14] using this
  · obtain ⟨n13,n14⟩:=HDN.out.no (by decide) HF.out
    have st:=HS.out
    simp only [HF.out,n14,Bool.false_eq_true,if_false] at st
    have HST:=ζh st
    clear st
    go_simp
    go_at_call 29
    refine (Sha.lognew_any _).mono ?_
    rintro e w4 ⟨b,rfl,hm4,hT,f1⟩
    have st5:=HST.out.makeAt (B:=logP b (List.replicate 64 (0,0))) 10 (by rfl) hm4 ⟨hT,rfl⟩ (by rintro x h;omega)
    have HS5:=ζh st5
    clear st5
    simp only [Act.put,List.setIfInBounds_toArray,List.set_cons_zero,List.set_cons_succ]
    refine hK.out _ _ ⟨{ K with lb:=b },by simp [optV_true,optD_true,optD_false,optV_false,updF,n13,n14,CK.cells],HDN.out.upd (by decide) (by decide) (by decide),by simpa [updF] using HGV.out,by simpa [updF] using HUV.out,?_⟩
    have:=HS5.out;simpa [updF,n14] using this
  · obtain ⟨n13,n14⟩:=HDN.out.no (by decide) HF.out
    have st:=HS.out
    simp only [HF.out,n14,Bool.false_eq_true,if_false] at st
    have HST:=ζh st
    clear st
    go_simp
    go_at_call 30
    refine (pgnew_any _).mono ?_
    rintro e w4 ⟨b,Fx,rfl,hm4,hT,f1⟩
    have st5:=HST.out.makeAt (B:=pagesP b ⟨[],[],[],0⟩) 11 (by rfl) hm4 hT (by exact f1)
    have HS5:=ζh st5
    clear st5
    simp only [Act.put,List.setIfInBounds_toArray,List.set_cons_zero,List.set_cons_succ]
    refine hK.out _ _ ⟨{ K with pb:=b },by simp [optV_true,optD_true,optD_false,optV_false,updF,n13,n14,CK.cells],HDN.out.upd (by decide) (by decide) (by decide),by simpa [updF] using HGV.out,by simpa [updF] using HUV.out,?_⟩
    have:=HS5.out;simpa [updF,n14] using this
  · obtain ⟨n13,n14⟩:=HDN.out.no (by decide) HF.out
    have st:=HS.out
    simp only [HF.out,n14,Bool.false_eq_true,if_false] at st
    have st5:=st.makeAt (B:=mapP ekInt evK W.heap.size []) 12 (by rfl) (Mod.alloc' _ W (.map #[] 0)) ⟨MapA.new,rfl⟩ (by rintro x rfl;exact Nat.le_refl _)
    have HS5:=ζh st5
    clear st st5
    go_simp
    refine hK.out _ _ ⟨{ K with km:=W.heap.size },by simp [optV_true,optD_true,optD_false,optV_false,updF,n13,n14,CK.cells],HDN.out.upd (by decide) (by decide) (by decide),by simpa [updF] using HGV.out,by simpa [updF] using HUV.out,?_⟩
    have:=HS5.out;simpa [updF,n14] using this
  · obtain ⟨n13,n14⟩:=HDN.out.no (by decide) HF.out
    have st:=HS.out
    simp only [HF.out,n14,Bool.false_eq_true,if_false] at st
    have st5:=st.makeAt (B:=rowP 164 3 (.slice (some ⟨W.heap.size,0,none⟩) 1 1) 1 [.int .i64 0,.int .i64 0,.bool false]) 13 (by rfl) (Mod.alloc' _ W (.cells #[.int .i64 0,.int .i64 0,.bool false] 164)) ⟨ownsRow_base (Tre.owns_of_blk (Blk.new W #[.int .i64 0,.int .i64 0,.bool false] 164) (by rfl) (by decide)) (Nat.zero_le _),rfl⟩ (by intro x hx;have e:W.heap.size=x:=(by simpa [Value.ownBlock] using hx);omega)
    have HS5:=ζh st5
    clear st st5
    go_simp
    refine hK.out _ _ ⟨{ K with gv:=.slice (some ⟨W.heap.size,0,none⟩) 1 1 },by simp [optV_true,optD_true,optD_false,optV_false,updF,n13,n14,CK.cells],HDN.out.upd (by decide) (by decide) (by decide),fun _=>⟨_,_,_,rfl⟩,by simpa [updF] using HUV.out,?_⟩
    have:=HS5.out;simpa [updF,n14] using this
  · obtain ⟨n13,n14⟩:=HDN.out.no (by decide) HF.out
    have st:=HS.out
    simp only [HF.out,n14,Bool.false_eq_true,if_false] at st
    have st5:=st.makeAt (B:=rowP 3 1 (.slice (some ⟨W.heap.size,0,none⟩) 1 1) 1 [.int .i64 (-1)]) 14 (by rfl) (Mod.alloc' _ W (.cells #[.int .i64 (-1)] 3)) ⟨ownsRow_base (Tre.owns_of_blk (Blk.new W #[.int .i64 (-1)] 3) (by rfl) (by decide)) (Nat.zero_le _),rfl⟩ (by intro x hx;have e:W.heap.size=x:=(by simpa [Value.ownBlock] using hx);omega)
    have HS5:=ζh st5
    clear st st5
    go_simp
    refine hK.out _ _ ⟨{ K with uv:=.slice (some ⟨W.heap.size,0,none⟩) 1 1 },by simp [optV_true,optD_true,optD_false,optV_false,updF,n13,n14,CK.cells],HDN.out.upd (by decide) (by decide) (by decide),by simpa [updF] using HGV.out,fun _=>⟨_,_,_,rfl⟩,?_⟩
    have:=HS5.out;simpa [updF,n14] using this
  · have g0:f 0=true:=HD.out ⟨0,.data⟩ (by simp) (by rfl)
    have g2:f 2=true:=HD.out ⟨2,.data⟩ (by simp) (by rfl)
    have g4:f 4=true:=HD.out ⟨4,.data⟩ (by simp) (by rfl)
    have g6:f 6=true:=HD.out ⟨6,.data⟩ (by simp) (by rfl)
    have g7:f 7=true:=HD.out ⟨7,.data⟩ (by simp) (by rfl)
    have g8:f 8=true:=HD.out ⟨8,.data⟩ (by simp) (by rfl)
    have g9:f 9=true:=HD.out ⟨9,.data⟩ (by simp) (by rfl)
    have g10:f 10=true:=HD.out ⟨10,.data⟩ (by simp) (by rfl)
    have g11:f 11=true:=HD.out ⟨11,.data⟩ (by simp) (by rfl)
    have g12:f 12=true:=HD.out ⟨12,.data⟩ (by simp) (by rfl)
    obtain ⟨x1,x2,x3,hx⟩:=HGV.out g11
    obtain ⟨y1,y2,y3,hy⟩:=HUV.out g12
    simp only [g0,g2,g4,g6,g7,g8,g9,g10,g11,g12,optV_true,optD_true,optD_false]
    rw [hx,hy]
    have HX:=ζh hx
    have HY:=ζh hy
    clear hx hy
    go_simp
    refine hK.out _ _ ⟨K,by simp [optV_true,optD_true,optD_false,updF,CK.cells,HX.out,HY.out,g0,g2,g4,g6,g7,g8,g9,g10,g11,g12],HDN.out.upd13 (by intro d hd;unfold newDeps at hd;simp at hd;rcases hd with rfl | rfl | rfl | rfl | rfl | rfl | rfl | rfl | rfl | rfl<;>assumption),by simpa [updF] using HGV.out,by simpa [updF] using HUV.out,?_⟩
    have:=HS.out;simpa [updF] using this
  · have g13:f 13=true:=HD.out ⟨13,.data⟩ (by simp) (by rfl)
    have st:=HS.out
    simp only [HF.out,Bool.false_eq_true,if_false] at st
    have st5:=st.makeAt (B:=blkP W.heap.size K.cells 89) 0 (by rfl) (Mod.alloc' _ W (.cells K.cells 89)) ⟨Blk.new W _ _,rfl⟩ (by rintro x rfl;exact Nat.le_refl _)
    have HS5:=ζh st5
    clear st st5
    have n15:=HDN.out.no15 HF.out
    simp only [g13,optV_true,optD_true,optD_false]
    go_simp
    refine hK.out _ _ ⟨{ K with b:=W.heap.size },by simp [optV_true,optD_true,optD_false,optV_false,updF,g13,n15,CK.cells],HDN.out.upd14 g13,by simpa [updF] using HGV.out,by simpa [updF] using HUV.out,?_⟩
    have:=HS5.out;simpa [updF,CK.cells] using this
  · have g14:f 14=true:=HD.out ⟨14,.data⟩ (by simp) (by rfl)
    simp only [g14,optV_true,optD_true,optD_false]
    go_simp
    refine hK.out _ _ ⟨K,by simp [optV_true,optD_true,optD_false,updF,g14],HDN.out.upd15 g14,by simpa [updF] using HGV.out,by simpa [updF] using HUV.out,?_⟩
    have:=HS.out;simpa [updF] using this
 case hend =>
  rintro f a W hall ⟨K,rfl,_,_,_,st⟩
  have f0:=hall 0 (by decide)
  have f1:=hall 1 (by decide)
  have f2:=hall 2 (by decide)
  have f3:=hall 3 (by decide)
  have f4:=hall 4 (by decide)
  have f5:=hall 5 (by decide)
  have f6:=hall 6 (by decide)
  have f7:=hall 7 (by decide)
  have f8:=hall 8 (by decide)
  have f9:=hall 9 (by decide)
  have f10:=hall 10 (by decide)
  have f11:=hall 11 (by decide)
  have f12:=hall 12 (by decide)
  have f13:=hall 13 (by decide)
  have f14:=hall 14 (by decide)
  have f15:=hall 15 (by decide)
  simp only [f0,f1,f2,f3,f4,f5,f6,f7,f8,f9,f10,f11,f12,f13,f14,f15,if_true,optV_true,optD_true] at st ⊢
  clear f0 f1 f2 f3 f4 f5 f6 f7 f8 f9 f10 f11 f12 f13 f14 f15 hall
  have hp:=core_pack (ls:=[]) (c:=CoM.new F S sizes) (K:=K) (by rw [List.append_nil];exact st) (newInv F S sizes)
  have HP:=ζh hp
  clear st hp
  go_wp2_with fail
  go_ret
  exact ⟨K,rfl,HP.out⟩
end

section
open Go.RowKit Go.Shelf Go.ChangeShapes Go.WideShapes
attribute [local go_sem] Oper.semAt_some
variable {w0 w:World} {F0:Nat→Prop} {A:Part} {K:CK} {c:CoM} {ls:List Part}
theorem core_whole (st:Step w0 F0 (coreP K c::ls) w) :
 Calls Tryz.prog 232 #[.pointer (some ⟨K.b,0,none⟩)] w fun e w'=>∃ v,e=.returned v∧Step w0 F0 (coreP K c::rowP 4 1 v c.guards.length (c.wholes.map Value.bool)::ls) w':=by
 have h12:=core_h12 st
 obtain ⟨ga,gc,hgv⟩:=ownsRow_form (core_gu st)
 have hin:=coreInv st
 obtain ⟨n,hn⟩:∃ n,n=c.guards.length:=⟨_,rfl⟩
 have hn64:n≤64:=by rw [hn,hin.gl];exact hin.good.le
 rw [hgv] at h12
 rw [←hn] at h12 ⊢
 have HN:=ζh hn
 have HGV:=ζh hgv
 have st1:=st.rowNil (T:=4) (sz:=1)
 have ST:=ζh st1
 clear hn hgv hin st st1
 go_enter Tryz.func232,Tryz.ntmps232
 go_wp2_with fail
 go_loopw [3,11] (fun v i wr=>∃ k:Nat,k≤n∧i=.int .i64 k∧Step w0 F0 (coreP K c::rowP 4 1 v k ((c.wholes.take k).map Value.bool)::ls) wr) (fun _ i _=>n - (intOf i).toNat)
 case atStart=>exact ⟨0,by omega,rfl,ST.out⟩
 case round =>
  obtain ⟨k,hk,rfl,hst⟩:=hrel
  obtain ⟨wo,rfl⟩:∃ wo:World,wo=wr:=⟨_,rfl⟩
  clear h12 ST
  by_cases hlt:k < n
  · have hkI:(k:Int) < n:=by omega
    have hkN:0≤(k:Int):=by omega
    have hkg:k < c.guards.length:=by rw [←HN.out];exact hlt
    obtain ⟨x,hx⟩:∃ x,c.guards[k]?=some x:=⟨_,ζg hkg⟩
    have hwk:c.wholes[k]?=some x.whole:=by unfold CoM.wholes;rw [List.getElem?_map,hx];rfl
    have hgr:=rowsOf ecGu_len (core_gu hst) rfl
    rw [HGV.out] at hgr
    obtain ⟨gb,goff,rfl,g0,g1,g2⟩:=gu_cells hgr hx
    have HWK:=ζh hwk
    have HST:=ζh hst
    clear hgr hx hkg hst hwk
    go_upto_region 5 with fail
    obtain ⟨wx,hnwx⟩:∃ wx,wx=wo.alloc (.cells #[.int .i64 x.min,.int .i64 x.low,.bool x.whole] 164):=⟨_,rfl⟩
    have stwx:=(HST.out).local (cs:=#[.int .i64 x.min,.int .i64 x.low,.bool x.whole]) (T:=164)
    rw [←hnwx] at stwx ⊢
    clear hnwx
    have x0:=stwx.blk1.cell 2
    simp only [ζa,ζb,ζc] at x0
    have STX:=ζh stwx.drop2
    have HR:=ζh stwx.drop2.row1
    clear stwx g0 g1 g2
    go_wp2_with (at_builtin;go_loud (refine wpList_app rfl _ _ 170 rfl 0 4 (.bool false) 1 1 Tryz.underlying170 info_bool rfl (by decide) (by decide) u3 k _ rfl (HR.out.alloc _) ⟨wx.heap.size,0,none⟩ 1 [.bool x.whole] rfl rfl (cell_one_new _ _ _) (by simp [Value.oneCell']) (by omega) (Nat.zero_le _) ?_;intro g1 cap1 w9 o9 m9 hg9 hlt9))
    have ST9:=Step.appd STX.out o9 m9 hg9
    have e9:(c.wholes.take k).map Value.bool++[.bool x.whole]=(c.wholes.take (k+1)).map Value.bool:=by
     rw [Tre.take_succ_get HWK.out,List.map_append];rfl
    rw [e9] at ST9
    have HS9:=ζh ST9
    clear o9 m9 hg9 hlt9 e9 ST9
    go_wp2_with fail
    go_roundw
    case rel=>exact ⟨k+1,by omega,by go_num,HS9.out⟩
    case measure=>simp [intOf];omega
  · obtain rfl:k=n:=by omega
    have htk:c.wholes.take k=c.wholes:=List.take_of_length_le (by unfold CoM.wholes;rw [List.length_map,←HN.out];omega)
    rw [htk] at hst
    have HST:=ζh hst
    clear hst htk
    go_wp2_with fail
    go_ret
    exact ⟨_,rfl,HST.out⟩
end

section
open Go.RowKit Go.Shelf Go.ChangeShapes Go.WideShapes
attribute [local go_sem] Oper.semAt_some
variable {w0 w:World} {F0:Nat→Prop} {A:Part} {K:CK} {c:CoM} {ls:List Part}
theorem res_page {fn:Func} {p q:Tmp} (h:fn.results=#[.cell p 198,.tmp q]) {tmps:Array Value} {w:World} {g:Nat} {x:Pag.PG} {n:Value} (hp:tmps.getD p undef=.pointer (some ⟨g,0,none⟩)) (hq:tmps.getD q undef=n) (hb:Blk w g x.cells 198) :
 (results fn tmps).run Tryz.prog w=.ok (.tuple #[x.val,n]) w:=by
 have hp':tmps[p]?.getD undef=.pointer (some ⟨g,0,none⟩):=by simpa using hp
 have hq':tmps[q]?.getD undef=n:=by simpa using hq
 obtain ⟨x0,x1,x2,x3,x4,x5,x6,x7,x8⟩:=pg_load _ _ x _ hb
 have hl:(loadVar 198 ⟨g,0,none⟩).run Tryz.prog w=.ok x.val w:=by
  unfold loadVar Pag.PG.val Pag.PG.cells
  simp [Tryz.isAgg198 ,go_sem,x0,x1,x2,x3,x4,x5,x6,x7,x8]
 simp [results,h,hp',hq',asAddr,hl]
theorem core_page (id:Int) (st:Step w0 F0 (coreP K c::ls) w) :
 Calls Tryz.prog 121 #[.pointer (some ⟨K.b,0,none⟩),.int .i64 id] w fun e w'=>e=.returned (.tuple #[(c.page id).val,.int .i64 (Pag.pageE c.pages id)])∧Step w0 F0 (coreP K c::ls) w':=by
 have hpg:=fun (w:World) (ls:List Part) (st:Step w0 F0 (coreP K c::ls) w)=>c_page id st
 obtain ⟨p,hp⟩:∃ p,p=c.page id:=⟨_,rfl⟩
 rw [←hp] at hpg ⊢
 unfold Pag.PG.val Pag.PG.cells at hpg ⊢
 have ST:=ζh st
 clear hp st
 go_enter Tryz.func121,Tryz.ntmps121
 go_upto_region 1 with fail
 obtain ⟨wa,hnwa⟩:∃ wa,wa=w.alloc (.cells #[.int .i64 0,.int .i64 0,.int .i64 0,.int .i64 0,.int .i64 0,.int .i64 0,.int .i64 0,.bool false,.bool false] 198):=⟨_,rfl⟩
 have stwa:=(ST.out).local (cs:=#[.int .i64 0,.int .i64 0,.int .i64 0,.int .i64 0,.int .i64 0,.int .i64 0,.int .i64 0,.bool false,.bool false]) (T:=198)
 rw [←hnwa] at stwa ⊢
 clear hnwa
 have h10:=core_h10 stwa
 have HPG:=ζh (hpg _ _ stwa)
 clear stwa hpg
 go_wp2_with fail
 refine HPG.out.mono ?_
 rintro e w1 ⟨rfl,st1⟩
 have b1:=st1.blk1
 obtain ⟨g,hg⟩:∃ g,g=w.heap.size:=⟨_,rfl⟩
 rw [←hg] at b1 st1 ⊢
 have hst:(storeVar 198 ⟨g,0,none⟩ (.agg #[.int .i64 p.file,.int .i64 p.index,.int .i64 p.place,.int .i64 p.at_,.int .i64 p.owner,.int .i64 p.refs,.int .i64 0,.bool false,.bool p.dirty])).run Tryz.prog w1=.ok () (w1.setRow g p.cells) :=
  run_storeVar_row w1 g 198 198 _ p.cells b1 (by rw [show p.cells.size=9 from rfl];kernel_rfl) rfl (by simp [Pag.PG.cells,Value.oneCell'])
 have s9:Blk (w1.setRow g p.cells) g p.cells 198:=Byt.Blk.setRow b1
 obtain ⟨F1,h1,hu⟩:=Step.updAt 1 st1 (A:=blkP g _ 198) rfl
 obtain ⟨_,rfl⟩:=h1
 have stz:=hu (w1.setRow g p.cells) (blkP g p.cells 198) (fun x=>x=g) (Byt.mod_setRow _ _ _) ⟨s9,rfl⟩ (fun x hx=>.inl hx)
 have stz2:Step w0 F0 (coreP K c::ls) (w1.setRow g p.cells):=Step.drop2 stz
 have STZ:=ζh stz2
 have HS9:=ζh s9
 have HST:=ζh hst
 clear s9 st1 stz stz2 b1 hst hu hg h10
 go_wp2_with (refine Byt.wpList_storeBy rfl 198 _ _ (by rfl) ⟨g,0,none⟩ _ (by rfl) (by rfl) HST.out ?_)
 refine bodyPost_ret (res_page rfl rfl rfl (x:=p) HS9.out) rfl ?_
 exact ⟨rfl,STZ.out⟩
end

section
open Go.RowKit Go.Shelf Go.ChangeShapes Go.WideShapes
attribute [local go_sem] Oper.semAt_some
variable {w0 w:World} {F0:Nat→Prop} {A:Part} {K:CK} {c:CoM} {ls:List Part}
theorem c_guard {k j gb cap:Nat} {x x':GuM} {u:Value} (hx:c.guards[k]?=some x) (hj:j < 3) (he:ecGu x'=(ecGu x).set j u) (hg:K.gv=.slice (some ⟨gb,0,none⟩) c.guards.length cap) (st:Step w0 F0 (coreP K c::ls) w) :
 Step w0 F0 (coreP K { c with guards:=c.guards.set k x' }::ls) (w.setCell ⟨gb,k * 3+j,none⟩ u):=by
 obtain ⟨F1,⟨h,rfl⟩,_,_,_,hup⟩:=corePart 13 st rfl
 have h':=h
 rw [hg] at h'
 have h2:=ownsRow_put' h' (k * 3+j) u
 rw [Tre.flat_set ecGu_len u x' c.guards k j x hj hx he,←hg] at h2
 have hin:=coreInv st
 refine hup _ (rowP 164 3 K.gv (c.guards.set k x').length ((c.guards.set k x').flatMap ecGu)) (fun x=>K.gv.ownBlock=some x) _ ((mod_setCell w gb (k * 3+j) u).mono (fun q h=>by rw [hg];subst h;rfl)) ⟨by rw [List.length_set];exact h2,rfl⟩ (fun x hx=>.inl hx) rfl ⟨hin.good,by simp only [List.length_set];exact hin.gl,hin.ul,hin.own,hin.ids,hin.sh⟩
theorem limit_live {c:CoM} {g what n:Int} (hl:c.live g=true) (hn:¬ (n < 0∨1099511627776 < n)):c.limit g what n =
 if what=0 then (0,{ c with guards:=c.guards.set g.toNat { c.guards.getD g.toNat ⟨0,0,false⟩ with min:=n } })
 else if what=1 then (0,{ c with guards:=c.guards.set g.toNat { c.guards.getD g.toNat ⟨0,0,false⟩ with low:=n } })
 else if what=2 then (Cnt.setLimE g n,{ c with fr:={ c.fr with used:=Cnt.limU c.fr.used g n } })
 else if what=3 then (Cnt.setLimE g n,{ c with sl:={ c.sl with used:=Cnt.limU c.sl.used g n } })
 else if what=4 then (if 1 < n then (1,c) else (0,{ c with guards:=c.guards.set g.toNat { c.guards.getD g.toNat ⟨0,0,false⟩ with whole:=n==1 } }))
 else (1,c):=by
 unfold CoM.limit
 rw [if_neg (by rw [hl];decide),if_neg hn]
theorem core_limit (g what n:Int) (st:Step w0 F0 (coreP K c::ls) w) :
 Calls Tryz.prog 53 #[.pointer (some ⟨K.b,0,none⟩),.int .i64 g,.int .i64 what,.int .i64 n] w fun e w'=>e=.returned (.int .i64 (c.limit g what n).1)∧Step w0 F0 (coreP K (c.limit g what n).2::ls) w':=by
 have h0:=core_h0 st
 have h3:=core_h3 st
 have h6:=core_h6 st
 have h12:=core_h12 st
 have hli:=c_live g st
 obtain ⟨R,hR⟩:∃ R,R=c.limit g what n:=⟨_,rfl⟩
 rw [←hR]
 have HR:=ζh hR
 have ST:=ζh st
 cases hl:c.live g with
 | false =>
   have hr:R=(2,c):=by rw [hR];unfold CoM.limit;rw [if_pos hl]
   rw [hl] at hli
   have HRX:=ζh hr
   have HLI:=ζh hli
   clear hR hr hli hl st h3 h6 h12
   go_enter Tryz.func53,Tryz.ntmps53
   go_wp2_with fail
   refine HLI.out.mono ?_
   rintro e w1 ⟨rfl,rfl⟩
   go_wp2_with fail
   go_ret
   rw [HRX.out]
   exact ⟨rfl,ST.out⟩
 | true =>
   rw [hl] at hli
   have HLI:=ζh hli
   clear hli
   by_cases hn0:n < 0
   · have d0:decide (n < 0)=true:=decide_eq_true hn0
     have hr:R=(1,c):=by rw [hR];unfold CoM.limit;rw [if_neg (by rw [hl];decide),if_pos (.inl hn0)]
     have HRX:=ζh hr
     clear hR hr hl st h3 h6 h12 hn0
     go_enter Tryz.func53,Tryz.ntmps53
     go_wp2_with fail
     refine HLI.out.mono ?_
     rintro e w1 ⟨rfl,rfl⟩
     go_wp2_with fail
     go_ret
     rw [HRX.out]
     exact ⟨rfl,ST.out⟩
   · have d0:decide (n < 0)=false:=decide_eq_false hn0
     by_cases hn1:1099511627776 < n
     · have d1:decide (1099511627776 < n)=true:=decide_eq_true hn1
       have hr:R=(1,c):=by rw [hR];unfold CoM.limit;rw [if_neg (by rw [hl];decide),if_pos (.inr hn1)]
       have HRX:=ζh hr
       clear hR hr hl st h3 h6 h12 hn0 hn1
       go_enter Tryz.func53,Tryz.ntmps53
       go_wp2_with fail
       refine HLI.out.mono ?_
       rintro e w1 ⟨rfl,rfl⟩
       go_wp2_with fail
       go_ret
       rw [HRX.out]
       exact ⟨rfl,ST.out⟩
     · have d1:decide (1099511627776 < n)=false:=decide_eq_false hn1
       rw [limit_live hl (by omega)] at hR
       have hlv:=live_lt hl
       have hin:=coreInv st
       obtain ⟨k,rfl⟩:∃ k:Nat,g=k:=⟨g.toNat,by omega⟩
       have hkg:k < c.guards.length:=by rw [hin.gl];omega
       obtain ⟨x,hx⟩:∃ x,c.guards[k]?=some x:=⟨_,ζg hkg⟩
       have hgd:c.guards.getD k ⟨0,0,false⟩=x:=by simp [hx]
       rw [Int.toNat_natCast,hgd] at hR
       obtain ⟨gb,cap,hgv,_⟩:∃ gb cap,K.gv=.slice (some ⟨gb,0,none⟩) c.guards.length cap∧True:=by
        rcases id (core_gu st).2 with ⟨_,h0⟩ | ⟨g',cap',cur,hv,_⟩
        · omega
        · exact ⟨g',cap',hv,trivial⟩
       have hrow:=core_gu st
       rw [hgv] at hrow h12
       have q0:=hrow.cellAt (k * 3) (by omega)
       have q1:=hrow.cellAt (k * 3+1) (by omega)
       have q2:=hrow.cellAt (k * 3+2) (by omega)
       have hfg0:=flat_get ecGu_len c.guards k 0 (by omega)
       rw [Nat.add_zero] at hfg0
       rw [hfg0,hx] at q0
       rw [flat_get ecGu_len c.guards k 1 (by omega),hx] at q1
       rw [flat_get ecGu_len c.guards k 2 (by omega),hx] at q2
       replace q0:w.cell? ⟨gb,k * 3,none⟩=some (.int .i64 x.min):=q0
       replace q1:w.cell? ⟨gb,k * 3+1,none⟩=some (.int .i64 x.low):=q1
       replace q2:w.cell? ⟨gb,k * 3+2,none⟩=some (.bool x.whole):=q2
       have f0:=frozen_row' hrow (k * 3)
       have f1:=frozen_row' hrow (k * 3+1)
       have f2:=frozen_row' hrow (k * 3+2)
       have i0:(0:Int)≤(k:Int):=by omega
       have i1:(k:Int) < (c.guards.length:Int):=by omega
       have HX:=ζh hx
       have HGV:=ζh hgv
       have HRY:=ζh hR
       clear hR hl hlv hin hkg hx hgd hgv hrow hfg0 st hn0 hn1
       by_cases hw0:what=0
       · have e0:(what==0)=true:=by rw [hw0];rfl
         have hr:=HRY.out
         rw [if_pos hw0] at hr
         have HRX:=ζh hr
         clear hr hw0
         go_enter Tryz.func53,Tryz.ntmps53
         go_wp2_with fail
         refine HLI.out.mono ?_
         rintro e w1 ⟨rfl,rfl⟩
         go_wp2_with fail
         go_ret
         rw [HRX.out]
         refine ⟨rfl,?_⟩
         exact c_guard (k:=k) (j:=0) (x':={ x with min:=n }) HX.out (by omega) rfl HGV.out ST.out
       · have e0:(what==0)=false:=by rw [beq_eq_false_iff_ne];exact hw0
         by_cases hw1:what=1
         · have e1:(what==1)=true:=by rw [hw1];rfl
           have hr:=HRY.out
           rw [if_neg hw0,if_pos hw1] at hr
           have HRX:=ζh hr
           clear hr hw0 hw1
           go_enter Tryz.func53,Tryz.ntmps53
           go_wp2_with fail
           refine HLI.out.mono ?_
           rintro e w1 ⟨rfl,rfl⟩
           go_wp2_with fail
           go_ret
           rw [HRX.out]
           refine ⟨rfl,?_⟩
           exact c_guard (k:=k) (j:=1) (x':={ x with low:=n }) HX.out (by omega) rfl HGV.out ST.out
         · have e1:(what==1)=false:=by rw [beq_eq_false_iff_ne];exact hw1
           by_cases hw2:what=2
           · have e2:(what==2)=true:=by rw [hw2];rfl
             have hr:=HRY.out
             rw [if_neg hw0,if_neg hw1,if_pos hw2] at hr
             have HRX:=ζh hr
             clear hr hw0 hw1 hw2
             go_enter Tryz.func53,Tryz.ntmps53
             go_wp2_with fail
             refine HLI.out.mono ?_
             rintro e w1 ⟨rfl,rfl⟩
             have hsl:=ζh (c_setlimF k n ST.out)
             go_wp2_with fail
             refine hsl.out.mono ?_
             rintro e w2 ⟨rfl,st2⟩
             have HS2:=ζh st2
             clear st2
             go_wp2_with fail
             go_ret
             rw [HRX.out]
             exact ⟨rfl,HS2.out⟩
           · have e2:(what==2)=false:=by rw [beq_eq_false_iff_ne];exact hw2
             by_cases hw3:what=3
             · have e3:(what==3)=true:=by rw [hw3];rfl
               have hr:=HRY.out
               rw [if_neg hw0,if_neg hw1,if_neg hw2,if_pos hw3] at hr
               have HRX:=ζh hr
               clear hr hw0 hw1 hw2 hw3
               go_enter Tryz.func53,Tryz.ntmps53
               go_wp2_with fail
               refine HLI.out.mono ?_
               rintro e w1 ⟨rfl,rfl⟩
               have hsl:=ζh (c_setlimS k n ST.out)
               go_wp2_with fail
               refine hsl.out.mono ?_
               rintro e w2 ⟨rfl,st2⟩
               have HS2:=ζh st2
               clear st2
               go_wp2_with fail
               go_ret
               rw [HRX.out]
               exact ⟨rfl,HS2.out⟩
             · have e3:(what==3)=false:=by rw [beq_eq_false_iff_ne];exact hw3
               by_cases hw4:what=4
               · have e4:(what==4)=true:=by rw [hw4];rfl
                 have hr:=HRY.out
                 rw [if_neg hw0,if_neg hw1,if_neg hw2,if_neg hw3,if_pos hw4] at hr
                 have HRX:=ζh hr
                 clear hr hw0 hw1 hw2 hw3 hw4
                 by_cases hn2:1 < n
                 · have d2:decide (1 < n)=true:=decide_eq_true hn2
                   have hr:=HRX.out
                   rw [if_pos hn2] at hr
                   have HRZ:=ζh hr
                   clear hr hn2
                   go_enter Tryz.func53,Tryz.ntmps53
                   go_wp2_with fail
                   refine HLI.out.mono ?_
                   rintro e w1 ⟨rfl,rfl⟩
                   go_wp2_with fail
                   go_ret
                   rw [HRZ.out]
                   exact ⟨rfl,ST.out⟩
                 · have d2:decide (1 < n)=false:=decide_eq_false hn2
                   have hr:=HRX.out
                   rw [if_neg hn2] at hr
                   have HRZ:=ζh hr
                   clear hr hn2
                   go_enter Tryz.func53,Tryz.ntmps53
                   go_wp2_with fail
                   refine HLI.out.mono ?_
                   rintro e w1 ⟨rfl,rfl⟩
                   go_wp2_with fail
                   go_ret
                   rw [HRZ.out]
                   refine ⟨rfl,?_⟩
                   exact c_guard (k:=k) (j:=2) (x':={ x with whole:=n==1 }) HX.out (by omega) rfl HGV.out ST.out
               · have e4:(what==4)=false:=by rw [beq_eq_false_iff_ne];exact hw4
                 have hr:=HRY.out
                 rw [if_neg hw0,if_neg hw1,if_neg hw2,if_neg hw3,if_neg hw4] at hr
                 have HRX:=ζh hr
                 clear hr hw0 hw1 hw2 hw3 hw4
                 go_enter Tryz.func53,Tryz.ntmps53
                 go_wp2_with fail
                 refine HLI.out.mono ?_
                 rintro e w1 ⟨rfl,rfl⟩
                 go_wp2_with fail
                 go_ret
                 rw [HRX.out]
                 exact ⟨rfl,ST.out⟩
end
end Go.Proofs.YtkfoeonggmlebaaGreatDoor
