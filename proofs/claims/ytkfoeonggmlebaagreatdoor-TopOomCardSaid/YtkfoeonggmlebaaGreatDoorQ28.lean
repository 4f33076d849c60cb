/-
  Contracts of the program's functions, and plain facts, towards the laws of millpondtop. No condition beyond those that each theorem bears.
-/
import Derived.Test.YtkfoeonggmlebaaGreatDoorQ22
import Derived.Test.YtkfoeonggmlebaaGreatDoorQ27
import Derived.Test.YtkfoeonggmlebaaGreatDoorQAA
set_option maxRecDepth 100000
set_option maxHeartbeats 4000000
namespace Go.Proofs.YtkfoeonggmlebaaGreatDoor
namespace Pro
open Go.RowKit Go.Shelf
attribute [local go_sem] Oper.semAt_some
theorem effOf_skip {l:List Nd} {t:Int} {S out:List Int} {i:Nat} {x:Nd} (h:(i:Int)=t∨belowN l i t=false):effOf l t S out i x=out:=by unfold effOf;rw [if_pos h]
theorem effOf_part {l:List Nd} {t:Int} {S out:List Int} {i:Nat} {x:Nd} (h:(i:Int)≠t) (hb:belowN l i t=true) (h1:x.up≠t) (h2:out.getD x.up.toNat 0 < S.getD x.up.toNat 0) :
 effOf l t S out i x=out.set i (partN (ownN x) (out.getD x.up.toNat 0) (S.getD x.up.toNat 0)):=by
 unfold effOf;rw [if_neg (by rintro (h' | h');exact h h';rw [hb] at h';cases h'),if_pos ⟨h1,h2⟩]
theorem effOf_own {l:List Nd} {t:Int} {S out:List Int} {i:Nat} {x:Nd} (h:(i:Int)≠t) (hb:belowN l i t=true) (h1:x.up=t∨¬ out.getD x.up.toNat 0 < S.getD x.up.toNat 0) :
 effOf l t S out i x=out.set i (ownN x):=by
 unfold effOf;rw [if_neg (by rintro (h' | h');exact h h';rw [hb] at h';cases h'),if_neg (by rintro ⟨h3,h4⟩;rcases h1 with h1 | h1;exact h3 h1;exact h1 h4)]
theorem below_up {l:List Nd} (h:validN l=true) {k:Nat} {x:Nd} (hk:l[k]?=some x) {t:Int} (hkt:(k:Int)≠t) (ht:0≤t) (hb:belowN l k t=true):0≤x.up∧x.up < k:=by
 rcases (valid_up h hk).1 with ⟨h1,h2⟩ | h1
 · unfold belowN at hb
   rw [upsN_cons h hk hkt,h2,upsN_neg l (by omega)] at hb
   simp at hb
 · exact h1
theorem partI_any (a p s:Int) (ha:0≤a∧a < 4294967296) (hp:0≤p∧p < 4294967296) (hs:s < 4294967296) (hps:p < s) (w:World) :
 Calls Tryz.prog 208 #[.int .i64 a,.int .i64 p,.int .i64 s] w fun e w'=>e=.returned (.int .i64 (partN a p s))∧Mod (fun _=>False) w w':=by
 obtain ⟨a',rfl⟩:∃ a':Nat,a=a':=⟨a.toNat,by omega⟩
 obtain ⟨p',rfl⟩:∃ p':Nat,p=p':=⟨p.toNat,by omega⟩
 obtain ⟨s',rfl⟩:∃ s':Nat,s=s':=⟨s.toNat,by omega⟩
 exact part_any a' p' s' (by omega) (by omega) (by omega) (by omega) w
def rdI (w:World) (b i:Nat):Int:=match w.cell? ⟨b,i,none⟩ with | some (.int _ x)=>x | _=>0
theorem rdI_of {w:World} {b i:Nat} {x:Int} (h:w.cell? ⟨b,i,none⟩=some (.int .i64 x)):rdI w b i=x:=by unfold rdI;rw [h]
theorem rdI_same {w:World} {b i:Nat} {x:Int} (h:w.cell? ⟨b,i,none⟩=some (.int .i64 x)):w.cell? ⟨b,i,none⟩=some (.int .i64 (rdI w b i)):=by rw [rdI_of h];exact h
theorem row_setI {w:World} {base T n g c:Nat} {xs:List Value} (h:w.ownsRow base T 1 (.slice (some ⟨g,0,none⟩) n c) n xs) {u:Nat} (hu:u < n) (v:Value):(w.setCell ⟨g,u,none⟩ v).cell? ⟨g,u,none⟩=some v:=by
 rw [(ownsRow_put' h u v).cellAt u (by omega),List.getElem?_set_self (by have:=h.1;omega)]
theorem row_setJ {w:World} {base T n g c:Nat} {xs:List Value} (h:w.ownsRow base T 1 (.slice (some ⟨g,0,none⟩) n c) n xs) {u k:Nat} (hu:u < n) (hk:k≠u) (v:Value) {z:Value} (hz:w.cell? ⟨g,u,none⟩=some z):(w.setCell ⟨g,k,none⟩ v).cell? ⟨g,u,none⟩=some z:=by
 rw [(ownsRow_put' h k v).cellAt u (by omega),List.getElem?_set_ne hk,←h.cellAt u (by omega)];exact hz
theorem preff_any (l:List Nd) (v:Value) (t:Int) (w:World) (h:RowsAt ecNd 3 w v l) (hsm:∀ x∈l,ownN x≤33554432) :
 Calls Tryz.prog 159 #[v,.int .i64 t] w fun e w'=>∃ u,e=.returned u∧Mod (fun _=>False) w w'∧IntsAt w' u (effN l t):=by
 obtain ⟨a,c,rfl,hcap,hmax⟩:=rows_form h
 unfold maxLen at hmax
 have hv:=prvalid_any l _ w h
 obtain ⟨R,hR⟩:∃ R,R=effN l t:=⟨_,rfl⟩
 rw [←hR]
 unfold effN at hR
 cases hva:validN l with
 | false =>
   rw [hva] at hv hR
   obtain rfl:R=[]:=by rw [hR];simp
   have HV:=ζh hv
   clear hva hv hR h hsm
   go_enter Tryz.func159,Tryz.ntmps159
   go_wp2_with fail
   refine HV.out.mono ?_
   rintro e w1 ⟨rfl,hm⟩
   go_wp2_with fail
   go_ret
   exact ⟨_,rfl,hm,ints_none _⟩
 | true =>
   rw [hva] at hv hR
   have HV:=ζh hv
   clear hv
   by_cases h1:t < 0
   · have d0:decide (t < 0)=true:=decide_eq_true h1
     obtain rfl:R=[]:=by rw [hR,if_neg (by omega)]
     clear hva hR h hsm h1
     go_enter Tryz.func159,Tryz.ntmps159
     go_wp2_with fail
     refine HV.out.mono ?_
     rintro e w1 ⟨rfl,hm⟩
     go_wp2_with fail
     go_ret
     exact ⟨_,rfl,hm,ints_none _⟩
   · have d0:decide (t < 0)=false:=decide_eq_false h1
     by_cases h2:(l.length:Int)≤t
     · have d1:decide ((l.length:Int)≤t)=true:=decide_eq_true h2
       obtain rfl:R=[]:=by rw [hR,if_neg (by omega)]
       clear hva hR h hsm h1 h2
       go_enter Tryz.func159,Tryz.ntmps159
       go_wp2_with fail
       refine HV.out.mono ?_
       rintro e w1 ⟨rfl,hm⟩
       go_wp2_with fail
       go_ret
       exact ⟨_,rfl,hm,ints_none _⟩
     · have d1:decide ((l.length:Int)≤t)=false:=decide_eq_false h2
       rw [if_pos ⟨rfl,by omega,by omega⟩] at hR
       have ht:0≤t∧t < l.length:=by omega
       have hlen:=valid_len hva
       obtain ⟨x0,r0,hl0⟩:∃ x0 r0,l=x0::r0:=by
        cases l with
        | nil=>simp at ht;omega
        | cons x0 r0=>exact ⟨_,_,rfl⟩
       have hx0:l[0]?=some x0:=by rw [hl0];rfl
       obtain ⟨b,off,e1,hc0,hc1⟩:=nd_cells h hx0
       subst e1
       obtain ⟨i1,hi1,hz1,hs1,hb1⟩:=info_parts info_int
       have HI1:=ζh hi1
       have HZ1:=ζh hz1
       have HS1:=ζh hs1
       have HB1:=ζh hb1
       obtain ⟨n,hn⟩:∃ n,n=l.length:=⟨_,rfl⟩
       have HN:=ζh hn
       have hn0:0 < n:=by rw [hn,hl0];simp
       rw [←hn] at hcap hlen d1 h ⊢
       have hvl:=HV.out
       rw [←hn] at hvl
       have HV:=ζh hvl
       have HR:=ζh hR
       have HA:=ζh hva
       have HH:=ζh h
       have HX:=ζh hx0
       have HSM:=ζh hsm
       have HT:=ζh ht
       have HL:=ζh hl0
       have e1:(1:Int)≤n:=by omega
       clear hi1 hz1 hs1 hb1 hR hva h hsm h1 h2 ht hx0 hl0 hn hc0 hc1 hvl
       go_enter Tryz.func159,Tryz.ntmps159
       go_wp2_with fail
       refine HV.out.mono ?_
       rintro e w1 ⟨rfl,hm⟩
       go_wp2_with (at_make;go_loud (refine wpList_make_full _ rfl _ _ 30 rfl 0 3 i1 _ 1 Tryz.underlying30 HI1.out HZ1.out HS1.out .i64 .i64 n n n rfl rfl rfl rfl (by rw [HB1.out];omega) (by unfold maxLen;omega) (Nat.zero_le _) ?_;intro w4 o4 gr4;rw [Pol.made_one _ rfl] at o4))
       all_goals
        try subst h
        have hm4:Mod (fun _=>False) w1 w4:=(Mod.refl _ _).grown gr4 (fun k hk=>by cases hk)
        have hlt4:w1.heap.size < w4.heap.size:=ownsRow_lt o4 _ rfl
        have hs1:=hm.size
        have M4:=hm.trans hm4
        have o4':w4.ownsRow 0 3 1 (.slice (some ⟨w1.heap.size,0,none⟩) n n) n ((sumF (List.replicate n 0) (r0.take 0)).map encI):=by
         simpa [sumF,encI] using o4
        obtain ⟨sb,hsb⟩:∃ sb,sb=w1.heap.size:=⟨_,rfl⟩
        rw [←hsb] at o4' hlt4 hs1 ⊢
        clear o4 hm hm4 gr4
        go_loopw [31] (fun i wr=>∃ k:Nat,k≤n - 1∧i=.int .i64 k∧wr.ownsRow 0 3 1 (.slice (some ⟨sb,0,none⟩) n n) n ((sumF (List.replicate n 0) (r0.take k)).map encI)∧Mod (fun _=>False) w wr∧sb < wr.heap.size) (fun i _=>n - (intOf i).toNat)
        case atStart=>exact ⟨0,by omega,rfl,o4',M4,hlt4⟩
        case round =>
         obtain ⟨k,hk,rfl,ho,hmr,hsz⟩:=hrel
         obtain ⟨wo,rfl⟩:∃ wo:World,wo=wr:=⟨_,rfl⟩
         clear o4' M4 hlt4 hsb
         by_cases hlt:k < n - 1
         · first
           | (exfalso;omega)
           | (have d2:decide ((k:Int) < ((n - 1:Nat):Int))=true:=decide_eq_true (by omega)
              have hi0:(0:Int)≤(k:Int):=by omega
              have hi1:(k:Int) < ((n - 1:Nat):Int):=by omega
              obtain ⟨X,hX⟩:∃ X,l[k+1]?=some X:=⟨_,ζg (by rw [←HN.out];omega)⟩
              obtain ⟨b',off',e',c0,c1,c2⟩:=nd_cells HH.out hX
              obtain ⟨rfl,rfl⟩:b=b'∧off=off':=by
               injection e' with e'
               injection e' with e1 e2 _
               exact ⟨e1,e2⟩
              have k0:=hmr.keeps c0 (fun x=>x)
              have k1:=hmr.keeps c1 (fun x=>x)
              have k2:=hmr.keeps c2 (fun x=>x)
              rw [show off+(k+1) * 3=off+3+k * 3 by omega] at k0 k1 k2
              obtain ⟨u,hu⟩:∃ u:Nat,X.up=u:=⟨X.up.toNat,by have:=(valid_up HA.out hX).1;omega⟩
              have hun:u < n:=by have:=(valid_up HA.out hX).1;omega
              obtain ⟨xu,xs,xo⟩:=X
              simp only at hu k0 k1 k2
              subst hu
              obtain ⟨S,hS⟩:∃ S,S=sumF (List.replicate n 0) (r0.take k):=⟨_,rfl⟩
              rw [←hS] at ho
              have hSl:S.length=n:=by rw [hS,sumF_len];simp
              obtain ⟨s,hs⟩:∃ s,S[u]?=some s:=⟨_,ζg (by omega)⟩
              have hcu:wo.cell? ⟨sb,u,none⟩=some (.int .i64 s):=by rw [ho.cellAt u (by omega),List.getElem?_map,hs];rfl
              have hfu:=frozen_row' ho u
              have hr0:r0[k]?=some ⟨u,xs,xo⟩:=by have:=hX;rw [HL.out] at this;simpa using this
              have hnext:sumF (List.replicate n 0) (r0.take (k+1))=S.set u (IntKind.i64.wrap (s+ownN ⟨u,xs,xo⟩)):=by
               rw [List.take_add_one,hr0]
               show sumF _ (r0.take k++[_])=_
               rw [sumF_snoc,←hS]
               unfold addAt
               simp [hs]
              have HNX:=ζh hnext
              have HO:=ζh ho
              have hown:=fun w=>prown_any ⟨u,xs,xo⟩ w
              obtain ⟨y,hy⟩:∃ y,y=ownN ⟨u,xs,xo⟩:=⟨_,rfl⟩
              have HY:=ζh hy
              rw [←hy] at hown
              unfold ecNd at hown
              have HOW:=ζh hown
              have hj0:(0:Int)≤(u:Int):=by omega
              have hj1:(u:Int) < (n:Int):=by omega
              clear hX c0 c1 c2 hS hSl hs hr0 hnext ho hown hy hun
              go_wp2_with fail
              have z:=Blk.new wo #[.int .i64 u,.int .i64 xs,.int .i64 xo] 237
              obtain ⟨w5,hw5⟩:∃ w5,w5=wo.alloc (.cells #[.int .i64 u,.int .i64 xs,.int .i64 xo] 237):=⟨_,rfl⟩
              have m5:Mod (fun _=>False) wo w5:=by rw [hw5];exact Mod.alloc' _ _ _
              rw [←hw5] at z ⊢
              have z0:=z.cell 0
              have z1:=z.cell 1
              have z2:=z.cell 2
              simp only [ζa,ζb,ζc] at z0 z1 z2
              have hcu5:=m5.keeps hcu (fun x=>x)
              clear hw5 k0 k1 k2 hcu
              have hrd5:rdI w5.drew sb u=s:=rdI_of (by simpa using hcu5)
              have hsbw:sb≠wo.heap.size:=by omega
              have fz5:=frozen_row' (ownsRow_keep HO.out m5 (fun _ _ x=>x)) u
              have hcu6:w5.cell? ⟨sb,u,none⟩=some (.int .i64 s):=by simpa using hcu5
              go_region_with (go_at_call 206;refine (HOW.out _).mono ?_;rintro e w6 ⟨rfl,hm6'⟩;have hm6:Mod (fun _=>False) w5 w6:=(Mod.refl _ _).drew.trans hm6';have q0:=hm6.keeps z0 (fun x=>x);have q1:=hm6.keeps z1 (fun x=>x);have q2:=hm6.keeps z2 (fun x=>x);have q3:=hm6.keeps hcu6 (fun x=>x);have q4:=frozen_row' (ownsRow_keep HO.out (m5.trans hm6) (fun _ _ x=>x)) u;have hrd6:rdI w6 sb u=s:=rdI_of q3;have q8:=fun (z:Int)=>row_setI (ownsRow_keep HO.out (m5.trans hm6) (fun _ _ x=>x)) (show u < n by omega) (.int .i64 z);have q9:=fun z=>frozen_row' (ownsRow_put' (ownsRow_keep HO.out (m5.trans hm6) (fun _ _ x=>x)) u (.int .i64 z)) u)
              all_goals
               have R6:=ownsRow_put' (ownsRow_keep HO.out (m5.trans hm6) (fun _ _ x=>x)) u (.int .i64 (IntKind.i64.wrap (s+y)))
               have m7:Mod (fun i=>i=sb) w6 (w6.setCell ⟨sb,u,none⟩ (.int .i64 (IntKind.i64.wrap (s+y)))):=mod_setCell _ _ _ _
               have M7:=((hmr.trans m5).trans hm6).trans' m7 (fun i hi e=>by omega)
               have s7:=(m5.trans hm6).size
               have s8:=m7.size
               obtain ⟨w7,hw7⟩:∃ w7,w7=w6.setCell ⟨sb,u,none⟩ (.int .i64 (IntKind.i64.wrap (s+y))):=⟨_,rfl⟩
               have R7:w7.ownsRow 0 3 1 (.slice (some ⟨sb,0,none⟩) n n) n ((sumF (List.replicate n 0) (r0.take (k+1))).map encI):=by
                rw [HNX.out,←HY.out,List.map_set,hw7];exact R6
               rw [←hw7] at M7 s8 ⊢
               clear hw7 m7 R6 hrd5 hrd6 q0 q1 q2 q3 q4 q8 q9 z0 z1 z2 z hm6 hm6' m5 fz5 hfu hcu5 hcu6 hsbw hmr
               go_wp2_with fail
               go_roundw
               case rel=>exact ⟨k+1,by omega,by go_num,R7,M7,by omega⟩
               case measure=>simp [intOf];omega)
         · obtain rfl:k=n - 1:=by omega
           have d2:decide (((n - 1:Nat):Int) < ((n - 1:Nat):Int))=false:=decide_eq_false (by omega)
           have hr0n:r0.take (n - 1)=r0:=List.take_of_length_le (by have:=HN.out;rw [HL.out] at this;simp at this;omega)
           obtain ⟨S,hS⟩:∃ S,S=sumF (List.replicate n 0) (r0.take (n - 1)):=⟨_,rfl⟩
           rw [←hS] at ho
           have hSl:S.length=n:=by rw [hS,sumF_len];simp
           have hR2:R=effF l t S 0 l (List.replicate n 0):=by
            rw [HR.out,hS,hr0n,HN.out];unfold sumsN sumF;rw [HL.out];rfl
           have hSB:Bnd 4294967295 S:=by
            rw [hS,hr0n]
            have hrl:r0.length+1=n:=by have:=HN.out;rw [HL.out] at this;simpa using this.symm
            have h1:=sumF_bnd r0 (List.replicate n 0) 0 (Bnd.zeros n) (by omega) (fun x hx=>by
             have hxl:x∈l:=by rw [HL.out];exact List.mem_cons_of_mem _ hx
             exact ⟨own_valid HA.out x hxl,HSM.out x hxl⟩) (by omega)
            exact h1.mono (by omega)
           have HR2:=ζh hR2
           have HSL:=ζh hSl
           have HSB:=ζh hSB
           have HO:=ζh ho
           clear hk hlt hr0n hS hSl hR2 hSB ho
           go_wp2_with (at_make;go_loud (refine wpList_make_full _ rfl _ _ 30 rfl 0 3 i1 _ 1 Tryz.underlying30 HI1.out HZ1.out HS1.out .i64 .i64 n n n rfl rfl rfl rfl (by rw [HB1.out];omega) (by unfold maxLen;omega) (Nat.zero_le _) ?_;intro w4 o4 gr4;rw [Pol.made_one _ rfl] at o4))
           have hm4:Mod (fun _=>False) wo w4:=(Mod.refl _ _).grown gr4 (fun k hk=>by cases hk)
           have hlt4:wo.heap.size < w4.heap.size:=ownsRow_lt o4 _ rfl
           have hs4:=hmr.size
           have M4:=hmr.trans hm4
           have o4':w4.ownsRow 0 3 1 (.slice (some ⟨wo.heap.size,0,none⟩) n n) n ((effF l t S 0 (l.take 0) (List.replicate n 0)).map encI):=by
            simpa [effF,encI] using o4
           have os4:=ownsRow_keep HO.out hm4 (fun _ _ x=>x)
           obtain ⟨ob,hob⟩:∃ ob,ob=wo.heap.size:=⟨_,rfl⟩
           rw [←hob] at o4' hlt4 hs4 hsz ⊢
           clear o4 hm4 gr4 hmr hob d2
           go_loopw [50] (fun i wr=>∃ k:Nat,k≤n∧i=.int .i64 k∧wr.ownsRow 0 3 1 (.slice (some ⟨ob,0,none⟩) n n) n ((effF l t S 0 (l.take k) (List.replicate n 0)).map encI)∧wr.ownsRow 0 3 1 (.slice (some ⟨sb,0,none⟩) n n) n (S.map encI)∧Bnd 33554432 (effF l t S 0 (l.take k) (List.replicate n 0))∧Mod (fun _=>False) w wr∧ob < wr.heap.size) (fun i _=>n - (intOf i).toNat)
           case atStart=>exact ⟨0,by omega,rfl,o4',os4,(Bnd.zeros n).mono (by omega),M4,hlt4⟩
           case round =>
            obtain ⟨k,hk,rfl,ho,hos,hbd,hmr,hoz⟩:=hrel
            obtain ⟨wo,rfl⟩:∃ wo:World,wo=wr:=⟨_,rfl⟩
            clear o4' M4 hlt4 os4
            by_cases hlt:k < n
            · have d2:decide ((k:Int) < (n:Int))=true:=decide_eq_true (by omega)
              have hi0:(0:Int)≤(k:Int):=by omega
              have hi1:(k:Int) < (n:Int):=by omega
              obtain ⟨X,hX⟩:∃ X,l[k]?=some X:=⟨_,ζg (by rw [←HN.out];omega)⟩
              obtain ⟨b',off',e',c0,c1,c2⟩:=nd_cells HH.out hX
              obtain ⟨rfl,rfl⟩:b=b'∧off=off':=by
               injection e' with e'
               injection e' with e1 e2 _
               exact ⟨e1,e2⟩
              have k0:=hmr.keeps c0 (fun x=>x)
              have k1:=hmr.keeps c1 (fun x=>x)
              have k2:=hmr.keeps c2 (fun x=>x)
              obtain ⟨O,hO⟩:∃ O,O=effF l t S 0 (l.take k) (List.replicate n 0):=⟨_,rfl⟩
              rw [←hO] at ho hbd
              have hOl:O.length=n:=by have:=ho.1;simpa using this
              have hnext:effF l t S 0 (l.take (k+1)) (List.replicate n 0)=effOf l t S O k X:=by
               rw [List.take_add_one,hX]
               show effF l t S 0 (l.take k++[X]) _=_
               rw [effF_snoc,←hO,Nat.zero_add,List.length_take,Nat.min_eq_left (by rw [←HN.out];omega)]
              have hown0:0≤ownN X∧ownN X≤33554432:=⟨own_valid HA.out X (ζm hX),HSM.out X (ζm hX)⟩
              have hbn:=effOf_bnd (l:=l) (t:=t) (S:=S) (i:=k) hbd hown0
              have hvu:=valid_up HA.out hX
              have HNX:=ζh hnext
              have HBN:=ζh hbn
              have HVU:=ζh hvu
              have HOL:=ζh hOl
              have HRO:=ζh ho
              have HRS:=ζh hos
              have HBD:=ζh hbd
              have HXX:=ζh hX
              have HOW:=ζh hown0
              clear hX c0 c1 c2 hO hnext hown0 hbn hvu hOl ho hos hbd hk
              obtain ⟨xu,xs,xo⟩:=X
              simp only at k0 k1 k2
              by_cases hkt:(k:Int)=t
              · have d3:((k:Int)==t)=true:=by rw [beq_iff_eq];exact hkt
                clear hkt
                have hE:=ζh (effOf_skip (l:=l) (t:=t) (S:=S) (out:=O) (i:=k) (x:=⟨xu,xs,xo⟩) (.inl (by simpa using d3)))
                go_wp2_with fail
                have m5:Mod (fun _=>False) wo _:=Mod.alloc' (fun _=>False) wo (.cells #[.int .i64 xu,.int .i64 xs,.int .i64 xo] 237)
                have s5:=m5.size
                refine ⟨⟨k+1,by omega,by go_num,?_,ownsRow_keep HRS.out m5 (fun _ _ x=>x),?_,hmr.trans m5,by omega⟩,?_⟩
                · rw [HNX.out,hE.out];exact ownsRow_keep HRO.out m5 (fun _ _ x=>x)
                · rw [HNX.out];exact HBN.out
                · simp [intOf];omega
              · have d3:((k:Int)==t)=false:=by rw [beq_eq_false_iff_ne];exact hkt
                clear hkt
                go_wp2_with fail
                have z:=Blk.new wo #[.int .i64 xu,.int .i64 xs,.int .i64 xo] 237
                obtain ⟨w5,hw5⟩:∃ w5,w5=wo.alloc (.cells #[.int .i64 xu,.int .i64 xs,.int .i64 xo] 237):=⟨_,rfl⟩
                have m5:Mod (fun _=>False) wo w5:=by rw [hw5];exact Mod.alloc' _ _ _
                rw [←hw5] at z ⊢
                refine (prbelow_any l HA.out _ k t w5 (HH.out.keep ecNd_len (hmr.trans m5) (fun _ _ x=>x)) ⟨by omega,by rw [←HN.out];omega⟩ HT.out.1).mono ?_
                rintro e w6 ⟨rfl,hm6⟩
                have z6:=z.keep hm6 (fun x=>x)
                have m6:=m5.trans hm6
                have s6:=m6.size
                clear hw5 z m5 hm6 k0 k1 k2
                cases hbl:belowN l (k:Int) t with
                | false =>
                  have hE:=ζh (effOf_skip (l:=l) (t:=t) (S:=S) (out:=O) (i:=k) (x:=⟨xu,xs,xo⟩) (.inr hbl))
                  clear hbl
                  go_wp2_with fail
                  refine ⟨⟨k+1,by omega,by go_num,?_,ownsRow_keep HRS.out m6 (fun _ _ x=>x),?_,hmr.trans m6,by omega⟩,?_⟩
                  · rw [HNX.out,hE.out];exact ownsRow_keep HRO.out m6 (fun _ _ x=>x)
                  · rw [HNX.out];exact HBN.out
                  · simp [intOf];omega
                | true =>
                  have z0:=z6.cell 0
                  have z1:=z6.cell 1
                  have z2:=z6.cell 2
                  simp only [ζa,ζb,ζc] at z0 z1 z2
                  have hkt:(k:Int)≠t:=by simpa using d3
                  have hup:=below_up HA.out HXX.out hkt HT.out.1 hbl
                  obtain ⟨u,hu⟩:∃ u:Nat,xu=u:=⟨xu.toNat,by simp only at hup;omega⟩
                  subst hu
                  have huk:u < k:=by simp only at hup;omega
                  obtain ⟨ou,hou⟩:∃ ou,O[u]?=some ou:=⟨_,ζg (by have:=HOL.out;omega)⟩
                  obtain ⟨su,hsu⟩:∃ su,S[u]?=some su:=⟨_,ζg (by have:=HSL.out;omega)⟩
                  have bou:=HBD.out ou (ζm hou)
                  have bsu:=HSB.out su (ζm hsu)
                  have hown:=prown_any ⟨u,xs,xo⟩
                  obtain ⟨y,hy⟩:∃ y,y=ownN ⟨u,xs,xo⟩:=⟨_,rfl⟩
                  have by0:=HOW.out
                  have hep:=fun (h1:(u:Int)≠t) (h2:ou < su)=>effOf_part (l:=l) (t:=t) (S:=S) (out:=O) (i:=k) (x:=⟨u,xs,xo⟩) hkt hbl h1 (by simpa [hou,hsu] using h2)
                  have heo:=fun (h1:(u:Int)=t∨¬ ou < su)=>effOf_own (l:=l) (t:=t) (S:=S) (out:=O) (i:=k) (x:=⟨u,xs,xo⟩) hkt hbl (by simpa [hou,hsu] using h1)
                  rw [←hy] at hown by0 hep heo
                  have e1:O.getD ((u:Int).toNat) 0=ou:=by simp [hou]
                  have e2:S.getD ((u:Int).toNat) 0=su:=by simp [hsu]
                  simp only [e1,e2] at hep
                  unfold ecNd at hown
                  have HEP:=ζh hep
                  have HEO:=ζh heo
                  have HOO:=ζh hou
                  have HSS:=ζh hsu
                  have HCL:=ζh hown
                  have HB4:=ζh (show (0≤ou∧ou≤33554432)∧(0≤su∧su≤4294967295)∧(0≤y∧y≤33554432) from ⟨bou,bsu,by0⟩)
                  have HUK:=ζh huk
                  clear hbl hep heo hou hsu hown bou bsu by0 e1 e2 hup hy hkt huk
                  have hj0:(0:Int)≤(u:Int):=by omega
                  have hj1:(u:Int) < (n:Int):=by have:=HUK.out;omega
                  go_wp2_with fail
                  refine (HCL.out _).mono ?_
                  rintro e w7 ⟨rfl,hm7⟩
                  have m7:=m6.trans hm7
                  have z7:=z6.keep hm7 (fun x=>x)
                  have s7:=m7.size
                  have f7:=frozen_row' (ownsRow_keep HRO.out m7 (fun _ _ x=>x)) k
                  have cok:w7.cell? ⟨ob,k,none⟩=some (.int .i64 (rdI w7 ob k)):=by
                   obtain ⟨ok,hok⟩:∃ ok,O[k]?=some ok:=⟨_,ζg (by have:=HOL.out;omega)⟩
                   refine rdI_same (x:=ok) ?_
                   rw [(ownsRow_keep HRO.out m7 (fun _ _ x=>x)).cellAt k (by omega),List.getElem?_map,hok];rfl
                  have m8:Mod (fun i=>i=ob) w7 (w7.setCell ⟨ob,k,none⟩ (.int .i64 y)):=mod_setCell _ _ _ _
                  have hobw:ob≠wo.heap.size:=by omega
                  have R8:(w7.setCell ⟨ob,k,none⟩ (.int .i64 y)).ownsRow 0 3 1 (.slice (some ⟨ob,0,none⟩) n n) n ((O.set k y).map encI):=by
                   rw [List.map_set];exact ownsRow_put' (ownsRow_keep HRO.out m7 (fun _ _ x=>x)) k (.int .i64 y)
                  have S8:(w7.setCell ⟨ob,k,none⟩ (.int .i64 y)).ownsRow 0 3 1 (.slice (some ⟨sb,0,none⟩) n n) n (S.map encI) :=
                   ownsRow_keep (ownsRow_keep HRS.out m7 (fun _ _ x=>x)) m8 (fun x hx e=>by have h9:sb=x:=(by simpa [Value.ownBlock] using hx);omega)
                  have z70:=z7.cell 0
                  simp only [ζa,ζb] at z70
                  have t0:=m8.keeps z70 hobw.symm
                  have tS:(w7.setCell ⟨ob,k,none⟩ (.int .i64 y)).cell? ⟨sb,u,none⟩=some (.int .i64 su):=by rw [S8.cellAt u (by omega),List.getElem?_map,HSS.out];rfl
                  have tO:(w7.setCell ⟨ob,k,none⟩ (.int .i64 y)).cell? ⟨ob,u,none⟩=some (.int .i64 ou):=by rw [R8.cellAt u (by omega),List.getElem?_map,List.getElem?_set_ne (by have:=HUK.out;omega),HOO.out];rfl
                  have tk:(w7.setCell ⟨ob,k,none⟩ (.int .i64 y)).cell? ⟨ob,k,none⟩=some (.int .i64 y):=by rw [R8.cellAt k (by omega),List.getElem?_map,List.getElem?_set_self (by have:=HOL.out;omega)];rfl
                  have HR8:=ζh R8
                  have HS8:=ζh S8
                  have M8:=(hmr.trans m7).trans' m8 (fun i hi e=>by have:=hs4;omega)
                  have s8:=m8.size
                  have HM8:=ζh M8
                  clear z0 z1 z2 z6 m6 s6 hm7 R8 S8 M8
                  by_cases hut:(u:Int)=t
                  · have d4:((u:Int) != t)=false:=by simpa using hut
                    have hE:=ζh (HEO.out (.inl hut))
                    clear hut
                    go_wp2_with fail
                    refine ⟨⟨k+1,by omega,by go_num,?_,HS8.out,?_,HM8.out,by omega⟩,?_⟩
                    · rw [HNX.out,hE.out];exact HR8.out
                    · rw [HNX.out];exact HBN.out
                    · simp [intOf];omega
                  · have d4:((u:Int) != t)=true:=by simpa using hut
                    by_cases hos:ou < su
                    · have d5:decide (ou < su)=true:=decide_eq_true hos
                      have hE:=ζh (HEP.out hut hos)
                      clear hut
                      have hb4:=HB4.out
                      have hpt:=partI_any y ou su (by omega) (by omega) (by omega) hos
                      obtain ⟨pz,hpz⟩:∃ pz,pz=partN y ou su:=⟨_,rfl⟩
                      rw [←hpz] at hpt hE
                      have HPT:=ζh hpt
                      clear hpt hpz hb4 hos
                      go_wp2_with fail
                      have R8:=HR8.out
                      have S8:=HS8.out
                      have M8:=HM8.out
                      obtain ⟨w8,hw8⟩:∃ w8,w8=w7.setCell ⟨ob,k,none⟩ (.int .i64 y):=⟨_,rfl⟩
                      rw [←hw8] at R8 S8 M8 t0 tS tO tk s8 ⊢
                      have g8:=frozen_row' R8 k
                      have hrd8:rdI w8.drew ob k=y:=rdI_of (by simpa using tk)
                      have HR9:=ζh R8
                      have HS9:=ζh S8
                      have HM9:=ζh M8
                      clear R8 S8 M8 hw8 HR8 HS8 HM8 m8 cok f7 z7 z70 m7
                      have tk6:w8.cell? ⟨ob,k,none⟩=some (.int .i64 y):=by simpa using tk
                      go_region_with (go_at_call 208;refine (HPT.out _).mono ?_;rintro e w9 ⟨rfl,hm9'⟩;have hm9:Mod (fun _=>False) w8 w9:=(Mod.refl _ _).drew.trans hm9';have q0:=hm9.keeps t0 (fun x=>x);have q1:=hm9.keeps tO (fun x=>x);have q3:=hm9.keeps tk6 (fun x=>x);have q4:=frozen_row' (ownsRow_keep HR9.out hm9 (fun _ _ x=>x)) k;have hrd9:rdI w9 ob k=y:=rdI_of q3;have q7:=fun (z:Int)=>row_setJ (ownsRow_keep HR9.out hm9 (fun _ _ x=>x)) (show u < n by omega) (show k≠u by have:=HUK.out;omega) (.int .i64 z) q1;have q8:=fun (z:Int)=>row_setI (ownsRow_keep HR9.out hm9 (fun _ _ x=>x)) (show k < n by omega) (.int .i64 z);have q9:=fun z=>frozen_row' (ownsRow_put' (ownsRow_keep HR9.out hm9 (fun _ _ x=>x)) k (.int .i64 z)) k)
                      all_goals
                       have R9:=ownsRow_put' (ownsRow_keep HR9.out hm9 (fun _ _ x=>x)) k (encI pz)
                       have S9:=ownsRow_keep HS9.out hm9 (fun _ _ x=>x)
                       have m9:Mod (fun i=>i=ob) w9 (w9.setCell ⟨ob,k,none⟩ (.int .i64 pz)):=mod_setCell _ _ _ _
                       have S10:=ownsRow_keep S9 m9 (fun x hx e=>by have h9:sb=x:=(by simpa [Value.ownBlock] using hx);omega)
                       have M9:=(HM9.out.trans hm9).trans' m9 (fun i hi e=>by omega)
                       have s9:=hm9.size
                       have s10:=m9.size
                       rw [←List.map_set,List.set_set] at R9
                       have HR10:=ζh R9
                       have HS10:=ζh S10
                       have HM10:=ζh M9
                       clear R9 S9 S10 M9 m9 hm9 hm9' hrd8 hrd9 q0 q1 q3 q4 q7 q8 q9 t0 tO tS tk tk6 g8
                       go_wp2_with fail
                       refine ⟨⟨k+1,by omega,by go_num,?_,HS10.out,?_,HM10.out,by omega⟩,?_⟩
                       · rw [HNX.out,hE.out];exact HR10.out
                       · rw [HNX.out];exact HBN.out
                       · simp [intOf];omega
                    · have d5:decide (ou < su)=false:=decide_eq_false hos
                      have hE:=ζh (HEO.out (.inr (by omega)))
                      clear hut hos
                      go_wp2_with fail
                      refine ⟨⟨k+1,by omega,by go_num,?_,HS8.out,?_,HM8.out,by omega⟩,?_⟩
                      · rw [HNX.out,hE.out];exact HR8.out
                      · rw [HNX.out];exact HBN.out
                      · simp [intOf];omega
            · obtain rfl:k=n:=by omega
              have d2:decide ((k:Int) < (k:Int))=false:=decide_eq_false (by omega)
              have hRR:R=effF l t S 0 (l.take k) (List.replicate k 0):=by rw [HR2.out,List.take_of_length_le (by rw [←HN.out];omega)]
              have HRR:=ζh hRR
              have HLE:(effF l t S 0 (l.take k) (List.replicate k 0)).length=k:=by have:=ho.1;simpa using this
              clear hk hlt hRR
              go_wp2_with fail
              go_ret
              refine ⟨_,rfl,hmr,?_⟩
              rw [HRR.out]
              refine ints_of_row (base:=0) ?_
              rw [HLE]
              exact ho
end Pro

section
open Go.RowKit Go.Shelf
attribute [local go_sem] Oper.semAt_some
theorem cmins_any (x:GuM) (w:World):Calls Tryz.prog 93 #[.agg (ecGu x).toArray] w fun e w'=>e=.returned (.int .i64 x.min)∧Mod (fun _=>False) w w':=by
 unfold ecGu
 go_enter Tryz.func93,Tryz.ntmps93
 go_wp2_with fail
 go_ret
 exact ⟨rfl,Mod.alloc' _ _ _⟩
theorem clows_any (x:GuM) (w:World):Calls Tryz.prog 94 #[.agg (ecGu x).toArray] w fun e w'=>e=.returned (.int .i64 x.low)∧Mod (fun _=>False) w w':=by
 unfold ecGu
 go_enter Tryz.func94,Tryz.ntmps94
 go_wp2_with fail
 go_ret
 exact ⟨rfl,Mod.alloc' _ _ _⟩
variable {w0 w:World} {F0:Nat→Prop} {A:Part} {ls:List Part}
theorem Step.rowGo {w':World} {T:TypeId} {sz n n':Nat} {v v':Value} {xs xs':List Value} (st:Step w0 F0 (A::rowP T sz v n xs::ls) w) (hm:Mod (fun q=>v.ownBlock=some q) w w') (h:w'.ownsRow 0 T sz v' n' xs')
 (hg:∀ q,v'.ownBlock=some q→v.ownBlock=some q∨w.heap.size≤q):Step w0 F0 (A::rowP T sz v' n' xs'::ls) w':=by
 obtain ⟨F,⟨_,rfl⟩,_,_,h4⟩:=st.swap.head1
 exact (h4 w' (rowP T sz v' n' xs') (fun x=>v'.ownBlock=some x) hm ⟨h,rfl⟩ hg).swap
theorem Step.rowSet {T:TypeId} {n g c:Nat} {xs:List Value} (st:Step w0 F0 (A::rowP T 1 (.slice (some ⟨g,0,none⟩) n c) n xs::ls) w) (i:Nat) (u:Value) :
 Step w0 F0 (A::rowP T 1 (.slice (some ⟨g,0,none⟩) n c) n (xs.set i u)::ls) (w.setCell ⟨g,i,none⟩ u) :=
 Step.rowGo st ((mod_setCell w g i u).mono (fun q h=>by subst h;rfl)) (ownsRow_put' st.row1 i u) (fun q h=>.inl h)
end
end Go.Proofs.YtkfoeonggmlebaaGreatDoor
