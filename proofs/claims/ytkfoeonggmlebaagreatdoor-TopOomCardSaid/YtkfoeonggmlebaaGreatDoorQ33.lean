/-
  Contracts of the program's functions, and plain facts, towards the laws of millpondtop. No condition beyond those that each theorem bears.
-/
import Derived.ScopeJumps
import Derived.WalkMore
import Derived.OwnWalk
import Derived.Test.YtkfoeonggmlebaaGreatDoorQ20
import Derived.Test.YtkfoeonggmlebaaGreatDoorQ30
import Derived.Test.YtkfoeonggmlebaaGreatDoorQAA
set_option maxRecDepth 100000
set_option maxHeartbeats 4000000
namespace Go.Proofs.YtkfoeonggmlebaaGreatDoor
section
open Cnt (CU ofU addU tryU giveU tryEU tryGU fullU lessU chainB groupB rightB amountB)
open Go.RowKit Go.Shelf Go.ChangeShapes Go.WideShapes
attribute [local go_sem] Oper.semAt_some
variable {w0 w:World} {F0:Nat→Prop} {A:Part} {K:CK} {c:CoM} {ls:List Part}
def gensAt (b:Nat) (w:World):Nat:=match w.heap[b]? with
 | some (Obj.cells cs _ _)=>match cs[0]? with
   | some (Value.map (some mb))=>match w.heap[mb]? with
     | some (Obj.map l _)=>l.size
     | _=>0
   | _=>0
 | _=>0
theorem core_gensAt (st:Step w0 F0 (coreP K c::ls) w):gensAt K.gb w=c.gens.length:=by
 obtain ⟨F1,⟨mb,⟨h1,l,n,h2,h3,_⟩,rfl⟩,_⟩:=corePart 9 st rfl
 unfold gensAt
 unfold Blk at h1
 unfold MapIs at h2
 rw [h1]
 simp only [ζa,ζb]
 rw [h2]
 have:=congrArg List.length h3
 simpa using this
theorem wp_scope_again {P:Program} {a:Act} {w:World} {Q:Exit→Act→World→Prop} {c rest:Code} (l:Nat) (J:Act→World→Prop) (μ:Act→World→Nat) (hf:findLabel c l=some (Code.skip.seq rest))
 (pass:∀ a w,J a w→rest.wp P (Exit.jump l (fun a' w'=>J a' w'∧μ a' w' < μ a w) Q) a w)
 (first:(∀ a w,J a w→rest.wp P (Exit.jump l J Q) a w)→c.wp P (Exit.jump l J Q) a w):(Code.scope c).wp P Q a w:=by
 refine wp_scope_jumps l J μ hf (first fun a w h=>Code.wp_mono (fun e a' w' he=>?_) (pass a w h)) (fun a w h=>wp_seq (wp_skip (pass a w h)))
 cases e<;>first | exact he | exact ⟨he.1,he.2.1⟩
theorem takeF_succ (n:Nat) (c:CoM) (g:Int):CoM.takeF (n+1) c g =
 if tryEU c.fr.used (c.chain g)=0 then
  if 0≤Pol.freeIx c.fr.pool then ((Pol.freeIx c.fr.pool,-1,0),{ c with fr:=⟨Pol.takeP c.fr.pool,c.fr.bytes,tryU c.fr.used (c.chain g)⟩ })
  else match ({ c with fr:={ c.fr with used:=giveU (tryU c.fr.used (c.chain g)) (c.chain g) 1 } }:CoM).evict1 0 with
   | some c'=>CoM.takeF n c' g
   | none=>((-1,0,12),{ c with fr:={ c.fr with used:=giveU (tryU c.fr.used (c.chain g)) (c.chain g) 1 } })
 else match c.evict1 (tryGU c.fr.used (c.chain g)) with
  | some c'=>CoM.takeF n c' g
  | none=>((-1,tryGU c.fr.used (c.chain g),12),c):=rfl
theorem core_useOk (st:Step w0 F0 (coreP K c::ls) w):UseOk c.fr.used:=by
 obtain ⟨F1,⟨⟨l,h1,h2,h3⟩,rfl⟩,_⟩:=corePart 4 st rfl
 refine ⟨by rw [←h3,List.length_map,h1.len],fun x hx=>?_⟩
 rw [←h3] at hx
 obtain ⟨y,hy,rfl⟩:=List.mem_map.1 hx
 exact (h2 y hy).1
theorem core_take (g:Int) {N:Nat} (hN:N≤1000000) (hs:Small N c) (st:Step w0 F0 (coreP K c::ls) w) :
 Calls Tryz.prog 228 #[.pointer (some ⟨K.b,0,none⟩),.int .i64 g] w fun e w'=>e=.returned (.tuple #[.int .i64 (c.take g).1.1,.int .i64 (c.take g).1.2.1,.int .i64 (c.take g).1.2.2])∧Step w0 F0 (coreP K (c.take g).2::ls) w':=by
 have h0:=core_h0 st
 have hch:=ζh (c_chain g st)
 obtain ⟨R,hR⟩:∃ R,R=c.take g:=⟨_,rfl⟩
 rw [←hR]
 have HR:=ζh hR
 have HS:=ζh hs
 have HN:=ζh hN
 clear hR hs hN st
 go_enter Tryz.func228,Tryz.ntmps228
 go_wp2_with fail
 refine wp_scope_again 0 (fun a W=>∃ (n:Nat) (c':CoM) (v:Value) (u8 u9 u10 u11 u12 u13 u14 u15 u16 u17 u18 u19 u20 u21 u22 u23 u24 u25 u26 u27 u28 u29 u30 u31 u32 u33 u34 u35 u36 u37 u38 u39 u40 u41 u42 u43 u44 u45 u46 u47 u48 u49 u50 u51 u52:Value),a={ tmps:=#[.pointer (some ⟨K.b,0,none⟩),.int .i64 g,undef,undef,.int .i64 0,.int .i64 0,.int .i64 0,v,u8,u9,u10,u11,u12,u13,u14,u15,u16,u17,u18,u19,u20,u21,u22,u23,u24,u25,u26,u27,u28,u29,u30,u31,u32,u33,u34,u35,u36,u37,u38,u39,u40,u41,u42,u43,u44,u45,u46,u47,u48,u49,u50,u51,u52],defers:=[] }∧Hid (R=CoM.takeF n c' g)∧c'.gens.length < n∧Hid (Small N c')∧Hid (c'.tree=c.tree)∧Step w0 F0 (coreP K c'::rowP 3 1 v (c.chain g).length ((c.chain g).map encI)::ls) W) (fun _ W=>gensAt K.gb W) rfl ?pass ?first
 case first =>
  intro hrest
  go_wp2_with fail
  refine hch.out.mono ?_
  rintro e w1 ⟨v,rfl,st1⟩
  go_wp2_with fail
  go_step3
  rename_i hX
  refine hX _ _ (hrest _ _ ⟨c.gens.length+1,c,v,_,_,_,_,_,_,_,_,_,_,_,_,_,_,_,_,_,_,_,_,_,_,_,_,_,_,_,_,_,_,_,_,_,_,_,_,_,_,_,_,_,_,_,_,_,rfl,?_,by omega,HS,ζh rfl,st1⟩)
  exact ζh HR.out
 case pass =>
  rintro a W ⟨n,c',v,u8,u9,u10,u11,u12,u13,u14,u15,u16,u17,u18,u19,u20,u21,u22,u23,u24,u25,u26,u27,u28,u29,u30,u31,u32,u33,u34,u35,u36,u37,u38,u39,u40,u41,u42,u43,u44,u45,u46,u47,u48,u49,u50,u51,u52,rfl,HRn,hn,HS',HT,st⟩
  have h3:=core_h3 st
  have hga:=core_gensAt st
  have HGA:=ζh hga
  obtain ⟨CH,hCH⟩:∃ CH,CH=c.chain g:=⟨_,rfl⟩
  have hCH':c'.chain g=CH:=by unfold CoM.chain;rw [HT.out,hCH];rfl
  rw [←hCH] at st ⊢
  obtain ⟨m,rfl⟩:∃ m,n=m+1:=⟨n - 1,by omega⟩
  have hr:=HRn.out
  rw [takeF_succ,hCH'] at hr
  have hty:=c_tryF CH v CH.length st List.mem_cons_self rfl
  have hok:=core_useOk st
  have HSM:=ζh (show ∀ g,c'.mem g≤33554432 from fun g=>by have:=HS'.out.mem g;have:=HN.out;omega)
  have HGN:=ζh (show c'.gens.length≤1000000 from by have:=HS'.out.gens;have:=HN.out;omega)
  by_cases hE:tryEU c'.fr.used CH=0
  · rw [if_pos hE,co_try_give hok hE] at hr
    rw [hE] at hty
    have hcg:=co_try_give hok hE
    obtain ⟨fx,hfx⟩:∃ fx,fx=Pol.freeIx c'.fr.pool:=⟨_,rfl⟩
    rw [←hfx] at hr
    have HTY:=ζh hty
    have HCG:=ζh hcg
    by_cases hf:0≤fx
    · rw [if_pos hf] at hr
      have HRR:=ζh hr
      have HFX:=ζh hfx
      have HF:=ζh hf
      clear hr hty hcg hE hok st hCH hCH' hf hfx hga
      go_wp2_with fail
      refine HTY.out.mono ?_
      rintro e w2 ⟨rfl,st2⟩
      have k1:=core_h1 st2
      have hpt:=c_poolF st2
      rw [show Pol.freeIx _=fx from HFX.out.symm,if_pos HF.out] at hpt
      have HPT:=ζh hpt
      clear st2 hpt h3
      go_wp2_with fail
      refine HPT.out.mono ?_
      rintro e w3 ⟨rfl,st3⟩
      have HS3:=ζh st3
      clear st3 k1
      go_wp2_with fail
      simp only [Exit.jump]
      go_ret3
      rw [HRR.out]
      exact ⟨rfl,HS3.out.drop2⟩
    · rw [if_neg hf] at hr
      have HRR:=ζh hr
      have HFX:=ζh hfx
      have HF:=ζh hf
      clear hr hty hcg hE hok st hCH hCH' hf hfx hga
      go_wp2_with fail
      refine HTY.out.mono ?_
      rintro e w2 ⟨rfl,st2⟩
      have k1:=core_h1 st2
      have hpt:=c_poolF st2
      rw [show Pol.freeIx _=fx from HFX.out.symm,if_neg (by have:=HF.out;omega)] at hpt
      have hnp:Pol.takeP c'.fr.pool=c'.fr.pool:=by unfold Pol.takeP;rw [←HFX.out,if_neg (by have:=HF.out;omega)]
      have HPT:=ζh hpt
      clear st2 hpt h3
      go_wp2_with fail
      refine HPT.out.mono ?_
      rintro e w3 ⟨rfl,st3⟩
      have k3:=core_h3 st3
      have hgv:=c_giveUF CH 1 v CH.length st3 List.mem_cons_self rfl
      have HGV:=ζh hgv
      have HNP:=ζh hnp
      clear st3 k1 hgv hnp
      go_wp2_with fail
      refine HGV.out.mono ?_
      rintro e w4 ⟨⟨_,rfl⟩,st4⟩
      have st4':Step w0 F0 (coreP K c'::rowP 3 1 v CH.length (CH.map encI)::ls) w4:=by
       have e9:=HCG.out
       rw [←e9]
       rw [HNP.out] at st4
       exact st4
      have hev:=core_Evict 0 HSM.out HGN.out st4'
      have HEV:=ζh hev
      clear st4 st4' hev k3
      cases hev:c'.evict1 0 with
      | some c'' =>
        rw [hev] at HEV
        have hsm:=HS'.out.evict1 hev
        have hle:=(evict_less hev).1.tree
        have hrr:=HRR.out
        rw [hev] at hrr
        have HRX:=ζh hrr
        have HLE:=ζh (hle.trans HT.out)
        have HSX:=ζh hsm
        clear hev hsm hle hrr
        go_wp2_with fail
        refine HEV.out.mono ?_
        rintro e w9 ⟨rfl,st9⟩
        simp only [Option.isSome_some,Option.getD_some] at st9 ⊢
        have hg9:=core_gensAt st9
        have HG9:=ζh hg9
        have HS9:=ζh st9
        clear hg9 st9
        go_wp2_with fail
        refine wp_goto ?_
        refine ⟨rfl,⟨m,c'',v,_,_,_,_,_,_,_,_,_,_,_,_,_,_,_,_,_,_,_,_,_,_,_,_,_,_,_,_,_,_,_,_,_,_,_,_,_,_,_,_,_,_,_,_,_,rfl,HRX,by have:=HSX.out.2;omega,ζh HSX.out.1,HLE,HS9.out⟩,?_⟩
        rw [HG9.out,HGA.out]
        have:=HSX.out.2
        omega
      | none =>
        rw [hev] at HEV
        have hrr:=HRR.out
        rw [hev] at hrr
        have HRX:=ζh hrr
        clear hev hrr
        go_wp2_with fail
        refine HEV.out.mono ?_
        rintro e w9 ⟨rfl,st9⟩
        simp only [Option.isSome_none,Option.getD_none] at st9 ⊢
        have HS9:=ζh st9
        clear st9
        go_wp2_with fail
        simp only [Exit.jump]
        go_ret3
        rw [HRX.out]
        exact ⟨rfl,HS9.out.drop2⟩
  · rw [if_neg hE] at hr
    have hty2:=hty
    have HRR:=ζh hr
    have HE:=ζh hE
    have HTY:=ζh hty
    have d0:(tryEU c'.fr.used CH==0)=false:=by rw [beq_eq_false_iff_ne];exact hE
    clear hr hty hE hok st hCH hCH' hga
    go_wp2_with fail
    refine HTY.out.mono ?_
    rintro e w2 ⟨rfl,st2⟩
    rw [co_try_fail HE.out] at st2
    have hev:=core_Evict (tryGU c'.fr.used CH) HSM.out HGN.out st2
    have HEV:=ζh hev
    clear st2 hev h3
    cases hev:c'.evict1 (tryGU c'.fr.used CH) with
    | some c'' =>
      rw [hev] at HEV
      have hsm:=HS'.out.evict1 hev
      have hle:=(evict_less hev).1.tree
      have hrr:=HRR.out
      rw [hev] at hrr
      have HRX:=ζh hrr
      have HLE:=ζh (hle.trans HT.out)
      have HSX:=ζh hsm
      clear hev hsm hle hrr
      go_wp2_with fail
      refine HEV.out.mono ?_
      rintro e w9 ⟨rfl,st9⟩
      simp only [Option.isSome_some,Option.getD_some] at st9 ⊢
      have hg9:=core_gensAt st9
      have HG9:=ζh hg9
      have HS9:=ζh st9
      clear hg9 st9
      go_wp2_with fail
      refine wp_goto ?_
      refine ⟨rfl,⟨m,c'',v,_,_,_,_,_,_,_,_,_,_,_,_,_,_,_,_,_,_,_,_,_,_,_,_,_,_,_,_,_,_,_,_,_,_,_,_,_,_,_,_,_,_,_,_,_,rfl,HRX,by have:=HSX.out.2;omega,ζh HSX.out.1,HLE,HS9.out⟩,?_⟩
      rw [HG9.out,HGA.out]
      have:=HSX.out.2
      omega
    | none =>
      rw [hev] at HEV
      have hrr:=HRR.out
      rw [hev] at hrr
      have HRX:=ζh hrr
      clear hev hrr
      go_wp2_with fail
      refine HEV.out.mono ?_
      rintro e w9 ⟨rfl,st9⟩
      simp only [Option.isSome_none,Option.getD_none] at st9 ⊢
      have HS9:=ζh st9
      clear st9
      go_wp2_with fail
      simp only [Exit.jump]
      go_ret3
      rw [HRX.out]
      exact ⟨rfl,HS9.out.drop2⟩
end

section
open Cnt (CU ofU addU tryU giveU tryEU tryGU fullU lessU chainB groupB rightB amountB)
open Go.RowKit Go.Shelf Go.ChangeShapes Go.WideShapes
attribute [local go_sem] Oper.semAt_some
variable {w0 w:World} {F0:Nat→Prop} {A:Part} {K:CK} {c:CoM} {ls:List Part}
theorem tryU_use {U:CU} (h:UseOk U) (ch:List Int):UseOk (tryU U ch):=by
 refine ⟨by rw [tryU_len,h.1],fun x hx=>?_⟩
 obtain ⟨i,hi,rfl⟩:=List.mem_iff_getElem.1 hx
 have hg:groupB (i:Int)=true:=by rw [tryU_len,h.1] at hi;unfold groupB;simp;omega
 obtain ⟨hlt,e⟩:=ofU_get hg (U:=tryU U ch) (by rw [tryU_len,h.1])
 simp only [Int.toNat_natCast] at e
 rw [←e]
 obtain ⟨hlt',e'⟩:=ofU_get hg h.1
 have h0:=h.2 _ (List.getElem_mem hlt')
 unfold tryU
 split
 · rename_i hc
   rw [Bool.and_eq_true] at hc
   rw [ofU_fold 1 ch U h.1 (chain_groups hc.1),e']
   simp only
   omega
 · rw [e'];exact h0
structure Took (N:Nat) (c:CoM) (r:(Int × Int × Int) × CoM):Prop where
 tree:r.2.tree=c.tree
 small:Small (N+1) r.2
 fail:r.1.2.2≠0→Small N r.2
 at_:r.1.2.2=0→0≤r.1.1
 err:r.1.2.2=0∨r.1.2.2=12
 next:r.2.pages.next=c.pages.next
 gens:r.2.gens.length≤c.gens.length
theorem Small.up {N M:Nat} {c:CoM} (h:Small N c) (hm:N≤M):Small M c:=⟨Nat.le_trans h.gens hm,fun g=>by have:=h.mem g;omega,by have:=h.next;omega,h.use⟩
theorem takeF_took {N:Nat} (g:Int):∀ (n:Nat) (c:CoM),Small N c→Took N c (CoM.takeF n c g):=by
 intro n
 induction n with
 | zero=>intro c h;exact ⟨rfl,h.up (Nat.le_succ _),fun _=>h,fun e=>(by cases e),.inr rfl,rfl,Nat.le_refl _⟩
 | succ n ih =>
   intro c h
   have again:∀ (d:CoM) (t:Int),c.evict1 t=some d→Took N c (CoM.takeF n d g):=by
    intro d t he
    have h1:=h.evict1 he
    have h2:=(evict_less he).1
    obtain ⟨a1,a2,a3,a4,a5,a6,a7⟩:=ih d h1.1
    exact ⟨a1.trans h2.tree,a2,a3,a4,a5,a6.trans h2.next,by omega⟩
   rw [takeF_succ]
   by_cases hE:tryEU c.fr.used (c.chain g)=0
   · rw [if_pos hE,co_try_give h.use hE]
     obtain ⟨hc,_⟩:=tryEU_zero hE
     have hnd:(c.chain g).Nodup:=by
      unfold chainB at hc
      rw [Bool.and_eq_true,decide_eq_true_eq] at hc
      exact hc.2
     split
     · rename_i hf
       refine ⟨rfl,⟨Nat.le_trans h.gens (Nat.le_succ _),fun x=>?_,by have:=h.next;simp only;omega,tryU_use h.use _⟩,fun e=>absurd rfl e,fun _=>hf,.inl rfl,rfl,Nat.le_refl _⟩
       have h1:=tryU_le h.use.1 hnd x
       have h2:=h.mem x
       unfold CoM.mem at h2 ⊢
       simp only
       omega
     · split
       · rename_i d he;exact again d 0 he
       · exact ⟨rfl,h.up (Nat.le_succ _),fun _=>h,fun e=>(by cases e),.inr rfl,rfl,Nat.le_refl _⟩
   · rw [if_neg hE]
     split
     · rename_i d he;exact again d _ he
     · exact ⟨rfl,h.up (Nat.le_succ _),fun _=>h,fun e=>(by cases e),.inr rfl,rfl,Nat.le_refl _⟩
theorem take_took {N:Nat} {c:CoM} (h:Small N c) (g:Int):Took N c (c.take g):=takeF_took g _ c h
theorem core_with (g:Int) (t:List Int) (ht:∀ n∈t,0≤n∧n < 256) (hl:t.length < 1000000) {N:Nat} (hN:N≤1000000) (hs:Small N c) (hg:0≤g∧g < c.tree.length) (st:Step w0 F0 (coreP K c::ls) w) :
 Calls Tryz.prog 192 #[.pointer (some ⟨K.b,0,none⟩),.int .i64 g,.string (strOf t)] w fun e w'=>e=.returned (.tuple #[.int .i64 (c.withT g t).1.1,.int .i64 (c.withT g t).1.2.1,.int .i64 (c.withT g t).1.2.2])∧Step w0 F0 (coreP K (c.withT g t).2::ls) w':=by
 have htk:=core_take g hN hs st
 have htt:=take_took hs g
 obtain ⟨R,hR⟩:∃ R,R=c.withT g t:=⟨_,rfl⟩
 rw [←hR]
 unfold CoM.withT at hR
 simp only at hR
 obtain ⟨⟨⟨ra,rt,re⟩,d⟩,hr⟩:∃ r,r=c.take g:=⟨_,rfl⟩
 rw [←hr] at hR htk htt
 simp only at hR htk
 have HTK:=ζh htk
 have HTT:=ζh htt
 have HG:=ζh hg
 have HT:=ζh ht
 have HL:=ζh hl
 by_cases he:re=0
 · rw [if_neg (by simp [he])] at hR
   have d0:(re != 0)=false:=by rw [he];rfl
   have HR:=ζh hR
   clear hR hr htk htt hg ht hl hN hs st he
   go_enter Tryz.func192,Tryz.ntmps192
   go_wp2_with fail
   refine HTK.out.mono ?_
   rintro e w1 ⟨rfl,st1⟩
   have h10:=core_h10 st1
   have hmk:=c_pmake (-1) 0 g (.inl (by omega)) (by have h1:d.tree=c.tree:=HTT.out.tree;rw [h1];exact HG.out) st1
   have HMK:=ζh hmk
   clear st1 hmk
   go_wp2_with fail
   refine HMK.out.mono ?_
   rintro e w2 ⟨rfl,st2⟩
   have hre:re=0:=by simpa using d0
   have hpl:=core_place d.pages.next ra g t false (by have:=HTT.out.at_ hre;exact this) (by have h1:d.tree=c.tree:=HTT.out.tree;simp only;rw [h1];exact HG.out) HT.out HL.out st2
   have HPL:=ζh hpl
   clear st2 hpl hre h10
   go_wp2_with fail
   refine HPL.out.mono ?_
   rintro e w3 ⟨rfl,st3⟩
   have HS3:=ζh st3
   clear st3
   go_wp2_with fail
   go_ret3
   rw [HR.out]
   exact ⟨rfl,HS3.out⟩
 · rw [if_pos he] at hR
   have d0:(re != 0)=true:=by rw [bne_iff_ne];exact he
   have HR:=ζh hR
   clear hR hr htk htt hg ht hl hN hs st he
   go_enter Tryz.func192,Tryz.ntmps192
   go_wp2_with fail
   refine HTK.out.mono ?_
   rintro e w1 ⟨rfl,st1⟩
   have HS1:=ζh st1
   clear st1
   go_wp2_with fail
   go_ret3
   rw [HR.out]
   exact ⟨rfl,HS1.out⟩
theorem putA_len {κ α:Type} [DecidableEq κ] (k:κ) (v:α):∀ l:List (κ × α),(putA k v l).length≤l.length+1
 | []=>by simp [putA]
 | e::l=>by
   simp only [putA]
   split
   · simp
   · have:=putA_len k v l
     simp only [List.length_cons]
     omega
theorem addGU_len (id g:Int) (old:Bool) (G:Gen.GL):(Gen.addGU id g old G).length≤G.length+1:=by
 unfold Gen.addGU
 split
 · unfold Gen.addG
   split
   · exact putA_len _ _ _
   · exact Nat.le_succ _
 · exact Nat.le_succ _
theorem makeT_next (T:Pag.PT) (f i g:Int) (h:0≤T.next∧T.next≤1000000000):(Pag.makeT T f i g).next=T.next+1:=by
 have e:IntKind.i64.wrap (T.next+1)=T.next+1:=wrap_small _ (by omega) (by omega)
 unfold Pag.makeT
 split<;>exact e
theorem withT_took {N:Nat} {c:CoM} (h:Small N c) (hN:N≤1000000) (g:Int) (t:List Int):(c.withT g t).2.tree=c.tree∧Small (N+1) (c.withT g t).2:=by
 have hk:=take_took h g
 unfold CoM.withT
 simp only
 split
 · exact ⟨hk.tree,hk.small⟩
 · rename_i he
   refine ⟨hk.tree,?_⟩
   have s2:=hk.small.mem
   have g1:=hk.gens
   have n1:=hk.next
   refine ⟨?_,fun x=>s2 x,?_,hk.small.use⟩
   · have:=addGU_len (c.take g).2.pages.next g false (c.take g).2.gens
     have h2:=h.gens
     show (Gen.addGU _ g false (c.take g).2.gens).length≤N+1
     omega
   · have:=h.next
     show 0≤(Pag.putT (Pag.ownT (Pag.makeT (c.take g).2.pages (-1) 0 g) _ g) _ 1 _).next∧(Pag.putT (Pag.ownT (Pag.makeT (c.take g).2.pages (-1) 0 g) _ g) _ 1 _).next≤((N+1:Nat):Int)
     rw [putT_next]
     show 0≤(Pag.makeT (c.take g).2.pages (-1) 0 g).next∧(Pag.makeT (c.take g).2.pages (-1) 0 g).next≤_
     rw [makeT_next _ _ _ _ (by rw [n1];omega),n1]
     omega
theorem info_u8:(Tryz.prog.info? 5).map (fun i=>(i.zero,i.size,i.bytes))=some (some (.int .u8 0),1,1):=by kernel_rfl
theorem conv_row {w:World} {base g n:Nat} {ns:List Int} (h:w.ownsRow base 5 1 (.slice (some ⟨g,0,none⟩) n n) n (ns.map (Value.int .u8))) :
 (convert 39 9 (.slice (some ⟨g,0,none⟩) n n)).run Tryz.prog w=.ok (.string (strOf ns)) w:=by
 have hn:ns.length=n:=by have:=h.1;simpa using this
 rw [run_convert_bytes_string _ 39 9 5 _ _ _ Tryz.underlying39 Tryz.underlying5 Tryz.underlying9 ]
 have hl:=run_loadCells_list (P:=Tryz.prog) w ⟨g,0,none⟩ (ns.map (Value.int .u8)) (fun j v hj=>by
  have hlt:j < n:=by have:=(ζi.1 hj).1;simp at this;omega
  have e:(Addr.add ⟨g,0,none⟩ j)=⟨g,j,none⟩:=by unfold Addr.add;split<;>simp_all
  rw [e,h.cellAt j (by omega),hj])
 simp only [List.length_map] at hl
 rw [←hn,run_bytesToString _ _ _ _ _ hl,foldl_strOf]
 have he0:ByteArray.empty.data=#[]:=rfl
 rw [he0]
 simp [strOf]
theorem zeroT_ok:(∀ n∈Byt.zeroT,0≤n∧n < 256)∧Byt.zeroT.length < 1000000:=⟨by decide,by decide⟩
theorem core_fresh (g:Int) {N:Nat} (hN:N≤1000000) (hs:Small N c) (st:Step w0 F0 (coreP K c::ls) w) :
 Calls Tryz.prog 124 #[.pointer (some ⟨K.b,0,none⟩),.int .i64 g] w fun e w'=>e=.returned (.tuple #[.int .i64 (c.fresh g).1.1,.int .i64 (c.fresh g).1.2.1,.int .i64 (c.fresh g).1.2.2])∧Step w0 F0 (coreP K (c.fresh g).2::ls) w':=by
 have h0:=core_h0 st
 have hli:=c_live g st
 obtain ⟨R,hR⟩:∃ R,R=c.fresh g:=⟨_,rfl⟩
 rw [←hR]
 unfold CoM.fresh at hR
 have HN:=ζh hN
 have HS:=ζh hs
 have ST:=ζh st
 cases hl:c.live g with
 | false =>
   rw [hl,if_neg (by decide)] at hR
   rw [hl] at hli
   have HR:=ζh hR
   have HLI:=ζh hli
   clear hl hR hli hN hs st
   go_enter Tryz.func124,Tryz.ntmps124
   go_wp2_with fail
   refine HLI.out.mono ?_
   rintro e w1 ⟨rfl,rfl⟩
   go_wp2_with fail
   go_ret3
   rw [HR.out]
   exact ⟨rfl,ST.out⟩
 | true =>
   rw [hl,if_pos rfl] at hR
   rw [hl] at hli
   have HR:=ζh hR
   have HLI:=ζh hli
   have HLV:=ζh (live_lt hl)
   clear hl hR hli hN hs st
   go_enter Tryz.func124,Tryz.ntmps124
   go_wp2_with fail
   refine HLI.out.mono ?_
   rintro e w1 ⟨rfl,rfl⟩
   obtain ⟨i1,hi1,hz1,hs1,hb1⟩:=info_parts info_u8
   go_wp2_with (at_make;go_loud (refine wpList_make_full _ rfl _ _ 39 rfl 0 5 i1 _ 1 Tryz.underlying39 hi1 hz1 hs1 .i64 .i64 16 16 16 rfl rfl rfl rfl (by rw [hb1];omega) (by unfold maxLen;omega) (Nat.zero_le _) ?_;intro w4 o4 gr4;rw [Pol.made_one _ rfl] at o4;have hcv:=conv_row (ns:=Byt.zeroT) o4;have hm4:Mod (fun _=>False) w w4:=(Mod.refl _ _).grown gr4 (fun k hk=>by cases hk);have HWI:=ζh (core_with g Byt.zeroT zeroT_ok.1 zeroT_ok.2 HN.out HS.out HLV.out (ST.out.still hm4));clear o4 gr4 hm4))
   refine HWI.out.mono ?_
   rintro e w5 ⟨rfl,st5⟩
   have HS5:=ζh st5
   clear st5
   go_wp2_with fail
   go_ret3
   rw [HR.out]
   exact ⟨rfl,HS5.out⟩
theorem core_copy (id g:Int) {N:Nat} (hN:N≤1000000) (hs:Small N c) (st:Step w0 F0 (coreP K c::ls) w) :
 Calls Tryz.prog 123 #[.pointer (some ⟨K.b,0,none⟩),.int .i64 id,.int .i64 g] w fun e w'=>e=.returned (.tuple #[.int .i64 (c.copy id g).1.1,.int .i64 (c.copy id g).1.2.1,.int .i64 (c.copy id g).1.2.2])∧Step w0 F0 (coreP K (c.copy id g).2::ls) w':=by
 have h10:=core_h10 st
 obtain ⟨R,hR⟩:∃ R,R=c.copy id g:=⟨_,rfl⟩
 rw [←hR]
 unfold CoM.copy at hR
 have hpg:=c_page id st
 obtain ⟨p,hp⟩:∃ p,p=c.page id:=⟨_,rfl⟩
 obtain ⟨E,hE⟩:∃ E,E=Pag.pageE c.pages id:=⟨_,rfl⟩
 rw [←hp,←hE] at hR hpg
 unfold Pag.PG.val Pag.PG.cells at hpg
 have HN:=ζh hN
 have HS:=ζh hs
 have HR:=ζh hR
 have HPG:=ζh hpg
 clear hR hpg hp hE hN hs st
 go_enter Tryz.func123,Tryz.ntmps123
 go_wp2_with fail
 refine HPG.out.mono ?_
 rintro e w1 ⟨rfl,st1⟩
 go_upto_region 2 with fail
 obtain ⟨wp,hnwp⟩:∃ wp,wp=w1.alloc (.cells #[.int .i64 p.file,.int .i64 p.index,.int .i64 p.place,.int .i64 p.at_,.int .i64 p.owner,.int .i64 p.refs,.int .i64 0,.bool false,.bool p.dirty] 198):=⟨_,rfl⟩
 have stwp:=(st1).local (cs:=#[.int .i64 p.file,.int .i64 p.index,.int .i64 p.place,.int .i64 p.at_,.int .i64 p.owner,.int .i64 p.refs,.int .i64 0,.bool false,.bool p.dirty]) (T:=198)
 rw [←hnwp] at stwp ⊢
 clear hnwp
 have h0:=core_h0 stwp
 have hli:=c_live g stwp
 obtain ⟨x0,x1,x2,x3,x4,x5,x6,x7,x8⟩:=pg_load _ _ p _ stwp.blk1
 have ST:=ζh stwp
 clear st1 stwp HPG
 by_cases hE:E=0
 · have d0:(E != 0)=false:=by rw [hE];rfl
   cases hl:c.live g with
   | false =>
     have hr:R=((-1,-1,2),c):=by rw [HR.out,if_pos (.inr (.inl hl))]
     rw [hl] at hli
     have HRR:=ζh hr
     have HLI:=ζh hli
     clear hl hr hli hE
     go_wp2_with fail
     refine HLI.out.mono ?_
     rintro e w2 ⟨rfl,rfl⟩
     go_wp2_with fail
     go_ret3
     rw [HRR.out]
     exact ⟨rfl,ST.out.drop2⟩
   | true =>
     rw [hl] at hli
     by_cases hpl:p.place=0
     · have d1:(p.place==0)=true:=by rw [hpl];rfl
       have hr:R=((-1,-1,2),c):=by rw [HR.out,if_pos (.inr (.inr hpl))]
       have HRR:=ζh hr
       have HLI:=ζh hli
       clear hl hr hli hE hpl
       go_wp2_with fail
       refine HLI.out.mono ?_
       rintro e w2 ⟨rfl,rfl⟩
       go_wp2_with fail
       go_ret3
       rw [HRR.out]
       exact ⟨rfl,ST.out.drop2⟩
     · have d1:(p.place==0)=false:=by rw [beq_eq_false_iff_ne];exact hpl
       have hr:R=c.withT g (c.text p):=by rw [HR.out,if_neg (by rw [hl];simp [hE,hpl])]
       have HRR:=ζh hr
       have HLI:=ζh hli
       have HLV:=ζh (live_lt hl)
       have htx:=ζh (core_text p ST.out)
       have hto:=ζh (core_textOk p ST.out)
       clear hl hr hli hE hpl
       go_wp2_with fail
       refine HLI.out.mono ?_
       rintro e w2 ⟨rfl,rfl⟩
       go_wp2_with fail
       refine htx.out.mono ?_
       rintro e w3 ⟨rfl,st3⟩
       have hwi:=ζh (core_with g (c.text p) hto.out.1 hto.out.2 HN.out HS.out HLV.out st3)
       clear st3
       go_wp2_with fail
       refine hwi.out.mono ?_
       rintro e w5 ⟨rfl,st5⟩
       have HS5:=ζh st5
       clear st5
       go_wp2_with fail
       go_ret3
       rw [HRR.out]
       exact ⟨rfl,HS5.out.drop2⟩
 · have d0:(E != 0)=true:=by rw [bne_iff_ne];exact hE
   have hr:R=((-1,-1,2),c):=by rw [HR.out,if_pos (.inl hE)]
   have HRR:=ζh hr
   clear hr hli hE
   go_wp2_with fail
   go_ret3
   rw [HRR.out]
   exact ⟨rfl,ST.out.drop2⟩
end

section
open Cnt (CU ofU)
theorem putA_same_len {κ α:Type} [DecidableEq κ] {k:κ} {v x:α}:∀ {l:List (κ × α)},getA k l=some x→(putA k v l).length=l.length
 | [],h=>by cases h
 | e::l,h=>by
   unfold getA at h
   unfold putA
   split at h
   · rename_i hk;rw [if_pos hk];rfl
   · rename_i hk;rw [if_neg hk,List.length_cons,putA_same_len h,List.length_cons]
theorem touchG_len (id:Int) (G:Gen.GL):(Gen.touchG id G).length=G.length:=by
 unfold Gen.touchG
 split
 · rfl
 · rename_i x hx;exact putA_same_len hx
theorem referT_next (T:Pag.PT) (id n:Int):(Pag.referT T id n).next=T.next:=by
 unfold Pag.referT;split
 · rfl
 · split<;>rfl
theorem dropT_next (T:Pag.PT) (id:Int):(Pag.dropT T id).next=T.next:=by
 unfold Pag.dropT;split
 · rfl
 · split<;>rfl
theorem Small.same {N:Nat} {c d:CoM} (h:Small N c) (h1:d.gens.length≤N) (h2:d.pages.next=c.pages.next) (h3:d.fr.used=c.fr.used):Small N d :=
 ⟨h1,fun g=>by unfold CoM.mem;rw [h3];exact h.mem g,by rw [h2];exact h.next,by rw [h3];exact h.use⟩
theorem clean_same (c:CoM) (id:Int) (p:Pag.PG):(c.clean id p).gens=c.gens∧(c.clean id p).pages.next=c.pages.next∧(c.clean id p).fr=c.fr∧(c.clean id p).sl=c.sl∧(c.clean id p).tree=c.tree:=by
 unfold CoM.clean;split<;>exact ⟨rfl,rfl,rfl,rfl,rfl⟩
theorem small_free {N:Nat} {c:CoM} (h:Small N c) (id:Int):Small N (c.free id):=by
 unfold CoM.free
 simp only
 split
 · obtain ⟨e1,e2,e3,e4,e5⟩:=clean_same c id (c.page id)
   refine ⟨Nat.le_trans (Pag.dropA_sub id c.gens).length_le h.gens,fun g=>?_,?_,?_⟩
   · show (ofU (CoM.giveSt (c.clean id (c.page id)).fr _ _).used g).1≤_
     rw [e3]
     exact Int.le_trans (giveU_le h.use.1 _ g) (h.mem g)
   · show 0≤(Pag.dropT (Pag.putT _ _ _ _) _).next∧(Pag.dropT (Pag.putT _ _ _ _) _).next≤_
     rw [dropT_next,putT_next]
     show 0≤(c.clean id (c.page id)).pages.next∧(c.clean id (c.page id)).pages.next≤_
     rw [e2]
     exact h.next
   · show UseOk (CoM.giveSt (c.clean id (c.page id)).fr _ _).used
     rw [e3]
     exact h.use.give _
 · split
   · refine h.same h.gens ?_ rfl
     show (Pag.dropT (Pag.putT _ _ _ _) _).next=_
     rw [dropT_next,putT_next]
   · refine h.same h.gens ?_ rfl
     show (Pag.dropT (Pag.putT _ _ _ _) _).next=_
     rw [dropT_next,putT_next]
theorem small_refer {N:Nat} {c:CoM} (h:Small N c) (id n:Int):Small N (c.refer id n):=by
 have h1:Small N ({ c with pages:=Pag.referT c.pages id n }:CoM):=h.same h.gens (referT_next _ _ _) rfl
 unfold CoM.refer
 simp only
 split
 · exact h1
 · exact small_free h1 id
theorem small_get {N:Nat} {c:CoM} (h:Small N c) (id a:Int):Small N (c.get id a).2:=by
 unfold CoM.get
 split
 · simp only
   split
   · exact h.same (by rw [touchG_len];exact h.gens) rfl rfl
   · exact h
 · exact h
theorem small_put {N:Nat} {c:CoM} (h:Small N c) (id a b:Int):Small N (c.put id a b).2:=by
 unfold CoM.put
 split
 · simp only
   split
   · exact h.same (by rw [touchG_len];exact h.gens) rfl rfl
   · exact h
 · exact h
theorem small_fresh {N:Nat} {c:CoM} (h:Small N c) (hN:N≤1000000) (g:Int):(c.fresh g).2.tree=c.tree∧Small (N+1) (c.fresh g).2:=by
 unfold CoM.fresh
 split
 · exact withT_took h hN g _
 · exact ⟨rfl,h.up (by omega)⟩
theorem small_copy {N:Nat} {c:CoM} (h:Small N c) (hN:N≤1000000) (id g:Int):(c.copy id g).2.tree=c.tree∧Small (N+1) (c.copy id g).2:=by
 unfold CoM.copy
 split
 · exact ⟨rfl,h.up (by omega)⟩
 · exact withT_took h hN g _
theorem place_next (c:CoM) (id a g:Int) (t:List Int) (old:Bool):(c.place id a g t old).pages.next=c.pages.next:=by
 unfold CoM.place
 show (Pag.putT (Pag.ownT _ _ _) _ _ _).next=_
 rw [putT_next];rfl
theorem small_bring {N:Nat} {c:CoM} (h:Small N c) (id g:Int):(c.bring id g).2.tree=c.tree∧Small (N+1) (c.bring id g).2:=by
 unfold CoM.bring
 simp only
 split
 · exact ⟨rfl,h.up (by omega)⟩
 · split
   · exact ⟨rfl,(h.same (d:={ c with gens:=Gen.touchG id c.gens }) (by rw [touchG_len];exact h.gens) rfl rfl).up (by omega)⟩
   · generalize (if (c.page id).place=0 then g else (c.page id).owner)=g'
     have hk:=take_took h g'
     split
     · exact ⟨hk.tree,hk.small⟩
     · refine ⟨?_,?_⟩
       · unfold CoM.came CoM.place
         simp only
         split<;>exact hk.tree
       · have hl:=addGU_len id g' (!Sha.cameB ((if (c.page id).place=2 then ({ (c.take g').2 with sl:=CoM.giveSt (c.take g').2.sl (c.page id).at_ ((c.take g').2.chain g') }:CoM) else (c.take g').2)).log ((getA id (if (c.page id).place=2 then ({ (c.take g').2 with sl:=CoM.giveSt (c.take g').2.sl (c.page id).at_ ((c.take g').2.chain g') }:CoM) else (c.take g').2).kept).getD none) ((if (c.page id).place=2 then ({ (c.take g').2 with sl:=CoM.giveSt (c.take g').2.sl (c.page id).at_ ((c.take g').2.chain g') }:CoM) else (c.take g').2).mem g')) (c.take g').2.gens
         have h1:=hk.gens
         have h2:=h.gens
         refine hk.small.same ?_ ?_ ?_
         · show (Gen.addGU id g' _ _).length≤N+1
           have e:(if (c.page id).place=2 then ({ (c.take g').2 with sl:=CoM.giveSt (c.take g').2.sl (c.page id).at_ ((c.take g').2.chain g') }:CoM) else (c.take g').2).gens=(c.take g').2.gens:=by split<;>rfl
           show (Gen.addGU id g' _ (if (c.page id).place=2 then ({ (c.take g').2 with sl:=CoM.giveSt (c.take g').2.sl (c.page id).at_ ((c.take g').2.chain g') }:CoM) else (c.take g').2).gens).length≤N+1
           rw [e]
           exact Nat.le_trans (addGU_len _ _ _ _) (by omega)
         · unfold CoM.came
           simp only
           rw [place_next]
           split<;>rfl
         · unfold CoM.came CoM.place
           simp only
           split<;>rfl
theorem small_open {N:Nat} {c:CoM} (h:Small N c) (hN:N≤1000000) (f i g:Int):(c.openF f i g).2.tree=c.tree∧Small (N+2) (c.openF f i g).2:=by
 unfold CoM.openF
 split
 · exact ⟨rfl,h.up (by omega)⟩
 · split
   · have h1:Small (N+1) ({ c with pages:=Pag.makeT c.pages f i g }:CoM):=by
      refine ⟨Nat.le_succ_of_le h.gens,fun x=>by have:=h.mem x;show c.mem x≤_;omega,?_,h.use⟩
      have:=h.next
      show 0≤(Pag.makeT c.pages f i g).next∧(Pag.makeT c.pages f i g).next≤_
      rw [makeT_next _ _ _ _ (by omega)]
      omega
     have h2:=small_bring h1 c.pages.next g
     simp only
     split
     · exact ⟨h2.1,h2.2⟩
     · exact ⟨h2.1,h2.2.same h2.2.gens (dropT_next _ _) rfl⟩
   · have h2:=small_bring h (Pag.ofT c.pages f i) g
     simp only
     split
     · exact ⟨h2.1,h2.2.up (by omega)⟩
     · exact ⟨h2.1,h2.2.up (by omega)⟩
theorem small_group {N:Nat} {c:CoM} (h:Small N c) (p:Int):Small N (c.addGroup p).2:=by
 unfold CoM.addGroup
 simp only
 split
 · exact ⟨h.gens,h.mem,h.next,h.use⟩
 · exact h
theorem limU_use {U:CU} (h:UseOk U) (g n:Int):UseOk (Cnt.limU U g n)∧∀ x,(ofU (Cnt.limU U g n) x).1=(ofU U x).1:=by
 unfold Cnt.limU
 split
 · rename_i hg
   rw [Bool.and_eq_true] at hg
   obtain ⟨hlt,e⟩:=ofU_get hg.1 h.1
   refine ⟨⟨by rw [List.length_set,h.1],fun x hx=>?_⟩,fun x=>?_⟩
   · rcases List.mem_or_eq_of_mem_set hx with hx | rfl
     · exact h.2 x hx
     · simp only;rw [e];exact h.2 _ (List.getElem_mem hlt)
   · unfold ofU
     split
     · rename_i hx
       rw [List.getD_eq_getElem?_getD,List.getElem?_set]
       split
       · rename_i hxe
         have hgx:g=x:=by
          have a:=hg.1
          unfold Cnt.groupB at a hx
          simp only [Bool.and_eq_true,decide_eq_true_eq] at a hx
          omega
         subst hgx
         simp only [if_pos hlt,Option.getD_some]
         rw [if_pos hg.1]
       · rw [List.getD_eq_getElem?_getD]
     · rfl
 · exact ⟨h,fun _=>rfl⟩
theorem small_limit {N:Nat} {c:CoM} (h:Small N c) (g what n:Int):Small N (c.limit g what n).2:=by
 unfold CoM.limit
 split
 · exact h
 split
 · exact h
 split
 · exact h.same h.gens rfl rfl
 split
 · exact h.same h.gens rfl rfl
 split
 · obtain ⟨h1,h2⟩:=limU_use h.use g n
   exact ⟨h.gens,fun x=>by show (ofU (Cnt.limU c.fr.used g n) x).1≤_;rw [h2];exact h.mem x,h.next,h1⟩
 split
 · exact h.same h.gens rfl rfl
 split
 · split
   · exact h
   · exact h.same h.gens rfl rfl
 · exact h
theorem small_new (f s:Int) (sizes:List Int):Small 0 (CoM.new f s sizes):=by
 refine ⟨Nat.le_refl _,fun g=>?_,⟨Int.le_refl _,Int.le_refl _⟩,⟨rfl,fun x hx=>?_⟩⟩
 · show (ofU Cnt.newU g).1≤0
   unfold ofU Cnt.newU
   split
   · rename_i hg
     unfold Cnt.groupB at hg
     simp only [Bool.and_eq_true,decide_eq_true_eq] at hg
     rw [List.getD_eq_getElem?_getD,List.getElem?_replicate,if_pos (by omega)]
     exact Int.le_refl _
   · exact Int.le_refl _
 · have:=List.eq_of_mem_replicate hx
   rw [this]
   exact Int.le_refl _
def FOk (c:CoM):Prop:=∀ e∈c.pages.files,0≤e.2∧e.2 < c.pages.next
def SameF (c d:CoM):Prop:=d.pages.files=c.pages.files∧d.pages.next=c.pages.next
theorem SameF.trans {a b c:CoM} (h:SameF a b) (k:SameF b c):SameF a c:=⟨k.1.trans h.1,k.2.trans h.2⟩
theorem FOk.same {c d:CoM} (h:FOk c) (hs:SameF c d):FOk d:=by
 intro e he
 rw [hs.1] at he
 rw [hs.2]
 exact h e he
theorem putT_files (T:Pag.PT) (id p a:Int):(Pag.putT T id p a).files=T.files:=by
 unfold Pag.putT;split
 · rfl
 · split<;>rfl
theorem referT_files (T:Pag.PT) (id n:Int):(Pag.referT T id n).files=T.files:=by
 unfold Pag.referT;split
 · rfl
 · split<;>rfl
theorem dropT_sub (T:Pag.PT) (id:Int):∀ e∈(Pag.dropT T id).files,e∈T.files:=by
 unfold Pag.dropT;split
 · exact fun _ h=>h
 · split
   · exact fun _ h=>h
   · exact fun e he=>Pag.mem_dropA he
theorem clean_files (c:CoM) (id:Int) (p:Pag.PG):SameF c (c.clean id p):=by
 unfold CoM.clean;split<;>exact ⟨rfl,rfl⟩
theorem out_files {c d:CoM} {id:Int} (h:c.out id=some d):SameF c d:=by
 unfold CoM.out at h
 simp only at h
 split at h
 · injection h with h
   subst h
   obtain ⟨h1,h2⟩:=clean_files c id (c.page id)
   exact ⟨by show (Pag.putT _ _ _ _).files=_;rw [putT_files,h1],by show (Pag.putT _ _ _ _).next=_;rw [putT_next,h2]⟩
 · cases ha:c.away id (c.page id) (c.chain (c.page id).owner) with
   | none=>rw [ha] at h;cases h
   | some x =>
     rw [ha] at h
     injection h with h
     subst h
     unfold CoM.away at ha
     split at ha
     · cases ha
     · split at ha
       · cases ha
       · injection ha with ha
         subst ha
         exact ⟨putT_files _ _ _ _,putT_next _ _ _ _⟩
theorem pass_files {c d:CoM} {h:Int→Bool}:∀ {l:List Int},c.pass h l=some d→SameF c d
 | [],e=>by rw [CoM.pass.eq_1] at e;cases e
 | id::r,e=>by
   rw [CoM.pass.eq_2] at e
   split at e
   · exact pass_files e
   · cases ho:c.out id with
     | some x =>
       rw [ho] at e
       injection e with e
       subst e
       exact out_files ho
     | none =>
       rw [ho] at e
       exact pass_files e
theorem evict_files {c d:CoM} {t:Int} {gs:List Int} {all:Bool} (h:c.evict t gs all=some d):SameF c d:=by
 unfold CoM.evict at h
 split at h
 · split at h
   · rename_i x e
     injection h with h
     subst h
     exact pass_files e
   · split at h
     · exact pass_files h
     · cases h
 · cases h
theorem takeF_files (g:Int):∀ (n:Nat) (c:CoM),SameF c (CoM.takeF n c g).2
 | 0,c=>⟨rfl,rfl⟩
 | n+1,c=>by
   rw [CoM.takeF.eq_2]
   split
   · split
     · exact ⟨rfl,rfl⟩
     · split
       · rename_i x e
         exact (show SameF c x from (evict_files e:SameF _ x)).trans (takeF_files g n x)
       · exact ⟨rfl,rfl⟩
   · split
     · rename_i x e
       exact (evict_files e).trans (takeF_files g n x)
     · exact ⟨rfl,rfl⟩
theorem take_files (c:CoM) (g:Int):SameF c (c.take g).2:=takeF_files g _ c
theorem place_files (c:CoM) (id a g:Int) (t:List Int) (old:Bool):SameF c (c.place id a g t old):=by
 unfold CoM.place
 exact ⟨putT_files _ _ _ _,putT_next _ _ _ _⟩
theorem bring_files (c:CoM) (id g:Int):SameF c (c.bring id g).2:=by
 unfold CoM.bring
 simp only
 split
 · exact ⟨rfl,rfl⟩
 · split
   · exact ⟨rfl,rfl⟩
   · generalize (if (c.page id).place=0 then g else (c.page id).owner)=g'
     have hk:=take_files c g'
     split
     · exact hk
     · unfold CoM.came
       simp only
       refine SameF.trans ?_ (place_files _ _ _ _ _ _)
       split<;>exact hk
structure CSmall (N:Nat) (c:CoM):Prop where
 small:Small N c
 fok:FOk c
theorem CSmall.up {N M:Nat} {c:CoM} (h:CSmall N c) (hm:N≤M):CSmall M c:=⟨h.small.up hm,h.fok⟩
theorem csmall_refer {N:Nat} {c:CoM} (h:CSmall N c) (id n:Int):CSmall N (c.refer id n):=by
 refine ⟨small_refer h.small id n,fun e he=>?_⟩
 unfold CoM.refer at he ⊢
 simp only at he ⊢
 split at he
 · rename_i hx
   rw [if_pos hx]
   rw [referT_files] at he
   rw [referT_next]
   exact h.fok e he
 · rename_i hx
   rw [if_neg hx]
   have key:∀ d:CoM,SameF c d→e∈(d.free id).pages.files→0≤e.2∧e.2 < (d.free id).pages.next:=by
    intro d hd he
    unfold CoM.free at he ⊢
    simp only at he ⊢
    have hp:∀ y:CoM,SameF c y→e∈(Pag.dropT (Pag.putT y.pages id 0 0) id).files→0≤e.2∧e.2 < (Pag.dropT (Pag.putT y.pages id 0 0) id).next:=by
     intro y hy he
     have:=dropT_sub _ _ e he
     rw [putT_files,hy.1] at this
     rw [dropT_next,putT_next,hy.2]
     exact h.fok e this
    split at he
    · rename_i h1
      rw [if_pos h1]
      exact hp _ (hd.trans (clean_files d id (d.page id))) he
    · rename_i h1
      rw [if_neg h1]
      split at he
      · rename_i h2;rw [if_pos h2];exact hp _ hd he
      · rename_i h2;rw [if_neg h2];exact hp _ hd he
   exact key _ ⟨referT_files _ _ _,referT_next _ _ _⟩ he
theorem csmall_get {N:Nat} {c:CoM} (h:CSmall N c) (id a:Int):CSmall N (c.get id a).2:=by
 refine ⟨small_get h.small id a,h.fok.same ?_⟩
 unfold CoM.get
 split
 · simp only
   split<;>exact ⟨rfl,rfl⟩
 · exact ⟨rfl,rfl⟩
theorem csmall_put {N:Nat} {c:CoM} (h:CSmall N c) (id a b:Int):CSmall N (c.put id a b).2:=by
 refine ⟨small_put h.small id a b,h.fok.same ?_⟩
 unfold CoM.put
 split
 · simp only
   split<;>exact ⟨rfl,rfl⟩
 · exact ⟨rfl,rfl⟩
theorem withT_fok {N:Nat} {c:CoM} (h:CSmall N c) (hN:N≤1000000) (g:Int) (t:List Int):FOk (c.withT g t).2:=by
 have hk:=take_files c g
 unfold CoM.withT
 simp only
 split
 · exact h.fok.same hk
 · refine FOk.same (c:=({ (c.take g).2 with pages:=Pag.makeT (c.take g).2.pages (-1) 0 g }:CoM)) ?_ (place_files _ _ _ _ _ _)
   intro e he
   have h1:(Pag.makeT (c.take g).2.pages (-1) 0 g).files=(c.take g).2.pages.files:=rfl
   have h2:(Pag.makeT (c.take g).2.pages (-1) 0 g).next=(c.take g).2.pages.next+1:=makeT_next _ _ _ _ (by rw [hk.2];have:=h.small.next;omega)
   have he':e∈(c.take g).2.pages.files:=h1 ▸ he
   rw [hk.1] at he'
   have:=h.fok e he'
   show 0≤e.2∧e.2 < (Pag.makeT (c.take g).2.pages (-1) 0 g).next
   rw [h2,hk.2]
   omega
theorem csmall_fresh {N:Nat} {c:CoM} (h:CSmall N c) (hN:N≤1000000) (g:Int):CSmall (N+1) (c.fresh g).2:=by
 refine ⟨(small_fresh h.small hN g).2,?_⟩
 unfold CoM.fresh
 split
 · exact withT_fok h hN g _
 · exact h.fok
theorem csmall_copy {N:Nat} {c:CoM} (h:CSmall N c) (hN:N≤1000000) (id g:Int):CSmall (N+1) (c.copy id g).2:=by
 refine ⟨(small_copy h.small hN id g).2,?_⟩
 unfold CoM.copy
 split
 · exact h.fok
 · exact withT_fok h hN g _
theorem csmall_bring {N:Nat} {c:CoM} (h:CSmall N c) (id g:Int):CSmall (N+1) (c.bring id g).2:=⟨(small_bring h.small id g).2,h.fok.same (bring_files c id g)⟩
theorem csmall_open {N:Nat} {c:CoM} (h:CSmall N c) (hN:N≤1000000) (f i g:Int):CSmall (N+2) (c.openF f i g).2:=by
 refine ⟨(small_open h.small hN f i g).2,?_⟩
 unfold CoM.openF
 split
 · exact h.fok
 · split
   · have h2:(Pag.makeT c.pages f i g).next=c.pages.next+1:=makeT_next _ _ _ _ (by have:=h.small.next;omega)
     have h1:FOk ({ c with pages:=Pag.makeT c.pages f i g }:CoM):=by
      intro e he
      have hn:=h.small.next
      show 0≤e.2∧e.2 < (Pag.makeT c.pages f i g).next
      rw [h2]
      have hm:e∈(Pag.makeT c.pages f i g).files:=he
      unfold Pag.makeT at hm
      split at hm
      · have:=h.fok e hm;omega
      · rcases Pag.mem_putA hm with rfl | hm
        · simp only;omega
        · have:=h.fok e hm;omega
     have h3:=h1.same (bring_files _ c.pages.next g)
     simp only
     split
     · exact h3
     · intro e he
       have:=h3 e (dropT_sub _ _ e he)
       show 0≤e.2∧e.2 < (Pag.dropT _ _).next
       rw [dropT_next]
       exact this
   · have h3:=h.fok.same (bring_files c (Pag.ofT c.pages f i) g)
     simp only
     split<;>exact h3
theorem csmall_group {N:Nat} {c:CoM} (h:CSmall N c) (p:Int):CSmall N (c.addGroup p).2:=by
 refine ⟨small_group h.small p,h.fok.same ?_⟩
 unfold CoM.addGroup
 simp only
 split<;>exact ⟨rfl,rfl⟩
theorem csmall_limit {N:Nat} {c:CoM} (h:CSmall N c) (g what n:Int):CSmall N (c.limit g what n).2:=by
 refine ⟨small_limit h.small g what n,h.fok.same ?_⟩
 unfold CoM.limit
 split
 · exact ⟨rfl,rfl⟩
 split
 · exact ⟨rfl,rfl⟩
 split
 · exact ⟨rfl,rfl⟩
 split
 · exact ⟨rfl,rfl⟩
 split
 · exact ⟨rfl,rfl⟩
 split
 · exact ⟨rfl,rfl⟩
 split
 · split<;>exact ⟨rfl,rfl⟩
 · exact ⟨rfl,rfl⟩
theorem csmall_new (f s:Int) (sizes:List Int):CSmall 0 (CoM.new f s sizes):=⟨small_new f s sizes,fun e he=>by cases he⟩
theorem open_id {N:Nat} {c:CoM} (h:CSmall N c) (hN:N≤1000000) (f i g:Int) (he:(c.openF f i g).1.2.2=0):∃ n:Nat,(c.openF f i g).1.1=n∧n < 2 ^ 24:=by
 have hn:=h.small.next
 unfold CoM.openF at he ⊢
 split at he
 · cases he
 · rename_i h0
   rw [if_neg h0]
   split at he
   · rename_i h1
     rw [if_pos h1]
     simp only at he ⊢
     split at he
     · rename_i h2
       rw [if_pos h2]
       exact ⟨c.pages.next.toNat,by simp only;omega,by omega⟩
     · rename_i h2;exact absurd he h2
   · rename_i h1
     rw [if_neg h1]
     simp only at he ⊢
     split at he
     · rename_i h2
       rw [if_pos h2]
       have h3:Pag.ofT c.pages f i < c.pages.next:=by
        unfold Pag.ofT at h1 ⊢
        cases hx:getA (f,i) c.pages.files with
        | none=>rw [hx] at h1;simp at h1
        | some y=>exact (h.fok _ (Pag.getA_mem hx)).2
       exact ⟨(Pag.ofT c.pages f i).toNat,by simp only;omega,by omega⟩
     · rename_i h2;exact absurd he h2
end
end Go.Proofs.YtkfoeonggmlebaaGreatDoor
