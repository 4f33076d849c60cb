/-
  Contracts of the program's functions, and plain facts, towards the laws of millpondtop. No condition beyond those that each theorem bears.
-/
import Derived.Test.YtkfoeonggmlebaaGreatDoorQ13
import Derived.Test.YtkfoeonggmlebaaGreatDoorQ15
import Derived.Test.YtkfoeonggmlebaaGreatDoorQ24
import Derived.Test.YtkfoeonggmlebaaGreatDoorQ36
import Derived.Test.YtkfoeonggmlebaaGreatDoorQAA
set_option maxRecDepth 100000
set_option maxHeartbeats 4000000
namespace Go.Proofs.YtkfoeonggmlebaaGreatDoor
section
open Go.RowKit Go.Shelf
attribute [local go_sem] Oper.semAt_some
theorem hasW_bclr (f:Nat→Bool) {d:Nat} (hd:d < 16):bits .andNot .u16 ((hasW f:Nat):Int) (IntKind.u16.wrap (2 ^ d))=((hasW (upd f d false):Nat):Int):=by
 have h2:(2:Nat) ^ d < 65536:=Nat.pow_lt_pow_right (by decide) hd
 have e:IntKind.u16.wrap ((2:Int) ^ d)=((2 ^ d:Nat):Int):=by
  have:=wrapU16 (2 ^ d) h2
  rw [←this];push_cast;rfl
 rw [e]
 unfold bits
 show IntKind.u16.wrap (((BitVec.ofInt 16 ((hasW f:Nat):Int) &&& ~~~ BitVec.ofInt 16 ((2 ^ d:Nat):Int)).toNat:Nat):Int)=_
 rw [BitVec.toNat_and,BitVec.toNat_not,ofIntNat,ofIntNat,Nat.mod_eq_of_lt (hasW_lt f),Nat.mod_eq_of_lt h2,←hasW_off f hd]
 rw [show 2 ^ 16 - 1 - 2 ^ d=65535 - 2 ^ d by omega]
 exact wrapU16 _ (Nat.and_lt_two_pow (n:=16) _ (Nat.lt_of_le_of_lt (Nat.sub_le _ _) (by decide)))
theorem RadK.cut3 {w w':World} {blk:Bk} {T:Wd} {q b page:Nat} (h:RadK w blk T 0 page) (hb:blk 3 (pfx q 3)=some b) (hs:(T q).isSome=true) (hm:Mod (fun i=>i=b) w w')
 (hn:Blk w' b (nodeL (kids blk 3 (pfx q 3)) (upd (wrds T 3 (pfx q 3)) (dig q 3) 0) (upd (sub blk T 3 (pfx q 3)) (dig q 3) false)).toArray (nodeT 3)):RadK w' blk (upd T q none) 3 q:=by
 refine ⟨fun l p b' hb'=>?_,h.inj,h.root,h.lev,fun l p h1 h3=>?_,fun q' x' hx'=>?_⟩
 · by_cases e:b'=b
   · subst e
     obtain ⟨rfl,rfl⟩:=h.inj _ _ _ _ _ hb hb'
     rw [nodeC_here];exact hn
   · have hk:=(h.node l p b' hb').keep hm e
     have hl:=(h.lev l p (by rw [hb'];rfl)).1
     by_cases h3:l < 3
     · rw [nodeC_low h3];exact hk
     · obtain rfl:l=3:=by omega
       rw [nodeC_other]
       · exact hk
       · rintro rfl
         rw [hb] at hb'
         injection hb' with hb'
         exact e hb'.symm
 · rw [h.has l p h1 h3]
   constructor
   · rintro (⟨q',e1,e2⟩ | ⟨e1,_⟩)
     · by_cases e:q'=q
       · subst e;exact .inr ⟨h3,e1⟩
       · exact .inl ⟨q',e1,by rw [upd_ne _ _ e];exact e2⟩
     · omega
   · rintro (⟨q',e1,e2⟩ | ⟨_,rfl⟩)
     · by_cases e:q'=q
       · subst e;rw [upd_same] at e2;cases e2
       · rw [upd_ne _ _ e] at e2;exact .inl ⟨q',e1,e2⟩
     · exact .inl ⟨q,rfl,hs⟩
 · by_cases e:q'=q
   · subst e;rw [upd_same] at hx';cases hx'
   · rw [upd_ne _ _ e] at hx';exact h.fit q' x' hx'
theorem RadK.prune {w w':World} {blk:Bk} {T:Wd} {k q b b1:Nat} (h:RadK w blk T (k+1) q) (hb:blk k (pfx q k)=some b) (hk:k < 3) (hb1:blk (k+1) (pfx q (k+1))=some b1)
 (hz:hasW (sub blk T (k+1) (pfx q (k+1)))=0) (hm:Mod (fun i=>i=b) w w')
 (hn:Blk w' b (nodeL (upd (kids blk k (pfx q k)) (dig q k) none) (wrds T k (pfx q k)) (upd (sub blk T k (pfx q k)) (dig q k) false)).toArray (nodeT k)) :
 RadK w' (upd2 blk (k+1) (pfx q (k+1)) none) T k q:=by
 have hz:=(hasW_zero _).1 hz
 have hpd:=pfx_dig (q:=q) (l:=k) (by omega)
 have hdl:=dig_lt q k
 have hno:∀ q',pfx q' (k+1)=pfx q (k+1)→(T q').isSome=true→False:=fun q' h1 h2=>by
  have h3:=hz (dig q' (k+1)) (dig_lt _ _)
  unfold sub at h3
  rw [←h1,←pfx_dig (by omega)] at h3
  split at h3
  · have:=(h.has (k+1+1) (pfx q' (k+1+1)) (by omega) (by omega)).2 (.inl ⟨q',rfl,h2⟩)
    rw [h3] at this;cases this
  · obtain rfl:k=2:=by omega
    rw [pfx_four,h2] at h3;cases h3
 refine ⟨fun l p b' hb'=>?_,fun l p l' p' b' h1 h2=>?_,?_,fun l p hs=>?_,fun l p h1 h3=>?_,h.fit⟩
 · have e1:¬ (l=k+1∧p=pfx q (k+1)):=fun e=>by obtain ⟨rfl,rfl⟩:=e;rw [upd2_same] at hb';cases hb'
   rw [upd2_ne _ _ e1] at hb'
   by_cases e2:l=k∧p=pfx q k
   · obtain ⟨rfl,rfl⟩:=e2
     obtain rfl:b=b':=Option.some.inj (hb.symm.trans hb')
     unfold nodeC
     rw [nodeL_congr (k':=upd (kids blk l (pfx q l)) (dig q l) none) (v':=wrds T l (pfx q l)) (h':=upd (sub blk T l (pfx q l)) (dig q l) false)]
     · exact hn
     · intro d hd
       unfold kids upd
       simp only [if_pos hk]
       by_cases e:d=dig q l
       · subst e;rw [←hpd,upd2_same,if_pos rfl]
       · rw [upd2_ne _ _ (by omega),if_neg e]
     · intro d hd;rfl
     · intro d hd
       unfold sub upd
       simp only [if_pos hk]
       by_cases e:d=dig q l
       · subst e;rw [←hpd,upd2_same,if_pos rfl];rfl
       · rw [upd2_ne _ _ (by omega),if_neg e]
   · have hne:b'≠b:=fun e=>by
      subst e
      obtain ⟨rfl,rfl⟩:=h.inj _ _ _ _ _ hb hb'
      exact e2 ⟨rfl,rfl⟩
     have:=(h.node l p b' hb').keep hm hne
     unfold nodeC at this ⊢
     rw [nodeL_congr (k':=kids blk l p) (v':=wrds T l p) (h':=sub blk T l p)]
     · exact this
     · intro d hd
       unfold kids
       split
       · rw [upd2_ne _ _ (fun a=>e2 (by obtain ⟨a1,a2⟩:=a;obtain rfl:l=k:=(by omega);rw [hpd] at a2;exact ⟨rfl,by omega⟩))]
       · rfl
     · intro d hd;rfl
     · intro d hd
       unfold sub
       split
       · rw [upd2_ne _ _ (fun a=>e2 (by obtain ⟨a1,a2⟩:=a;obtain rfl:l=k:=(by omega);rw [hpd] at a2;exact ⟨rfl,by omega⟩))]
       · rfl
 · have e1:¬ (l=k+1∧p=pfx q (k+1)):=fun e=>by obtain ⟨rfl,rfl⟩:=e;rw [upd2_same] at h1;cases h1
   have e2:¬ (l'=k+1∧p'=pfx q (k+1)):=fun e=>by obtain ⟨rfl,rfl⟩:=e;rw [upd2_same] at h2;cases h2
   rw [upd2_ne _ _ e1] at h1
   rw [upd2_ne _ _ e2] at h2
   exact h.inj _ _ _ _ _ h1 h2
 · rw [upd2_ne _ _ (by omega)];exact h.root
 · have e1:¬ (l=k+1∧p=pfx q (k+1)):=fun e=>by obtain ⟨rfl,rfl⟩:=e;rw [upd2_same] at hs;cases hs
   rw [upd2_ne _ _ e1] at hs;exact h.lev l p hs
 · by_cases e1:l=k+1∧p=pfx q (k+1)
   · obtain ⟨rfl,rfl⟩:=e1
     rw [upd2_same]
     constructor
     · intro e;cases e
     · rintro (⟨q',e1,e2⟩ | ⟨e1,_⟩)
       · exact (hno q' e1 e2).elim
       · omega
   · rw [upd2_ne _ _ e1,h.has l p h1 h3]
     constructor
     · rintro (hh | ⟨a1,a2⟩)
       · exact .inl hh
       · refine .inr ⟨?_,a2⟩
         by_cases e:l=k+1
         · exact (e1 ⟨e,by subst e;exact a2.symm⟩).elim
         · omega
     · rintro (hh | ⟨a1,a2⟩)
       · exact .inl hh
       · exact .inr ⟨by omega,a2⟩
theorem RadK.stay {w:World} {blk:Bk} {T:Wd} {k q:Nat} (h:RadK w blk T (k+1) q) (hk:k < 3) (hz:hasW (sub blk T (k+1) (pfx q (k+1)))≠0):RadK w blk T k q:=by
 refine h.weak q (fun l h1 h3 hl=>(h.has l _ h1 h3).2 (.inr ⟨by omega,rfl⟩)) (fun l h1 h3 hl=>?_)
 by_cases e:l=k+1
 · subst e
   left
   have hex:∃ d,d < 16∧sub blk T (k+1) (pfx q (k+1)) d=true:=by
    apply Classical.byContradiction
    intro hno
    apply hz
    rw [hasW_zero]
    intro d hd
    rw [Bool.eq_false_iff]
    exact fun e=>hno ⟨d,hd,e⟩
   obtain ⟨d,hd,hs⟩:=hex
   unfold sub at hs
   split at hs
   · rcases (h.has (k+1+1) _ (by omega) (by omega)).1 hs with ⟨q',h5,h6⟩ | ⟨h5,_⟩
     · exact ⟨q',(pfx_up (by omega) hd h5).1,h6⟩
     · omega
   · obtain rfl:k=2:=by omega
     exact ⟨16 * pfx q 3+d,by unfold pfx;omega,hs⟩
 · exact .inr ⟨by omega,rfl⟩
theorem rddrop_any (q:Nat) (hq:q < 65536):∀ (m k b page:Nat) (blk:Bk) (T:Wd) (w:World),k+m=3→RadK w blk T 0 page→(T q).isSome=true→blk k (pfx q k)=some b →
 Calls Tryz.prog 174 #[.pointer (some ⟨b,0,none⟩),.int .i64 q,.int .i64 k] w fun e w'=>e=.returned (.tuple #[]) ∧
  ∃ blk',RadK w' blk' (upd T q none) k q∧Mod (RadF blk) w w'∧(∀ l p b',blk' l p=some b'→blk l p=some b')∧(∀ l,l≤k→blk' l (pfx q l)=blk l (pfx q l)):=by
 intro m
 induction m with
 | zero =>
   intro k b page blk T w hkm h hT hb
   obtain rfl:k=3:=by omega
   have hdg:=fun w=>digit_any q 3 hq (by omega) w
   have HDG:=ζh hdg
   have hdl:=dig_lt q 3
   have e16:(dig q 3:Int) < 16:=by omega
   have e0:(0:Int)≤(dig q 3:Int):=by omega
   have hwc:=h.word hb hdl
   have hhc:=h.hasc hb
   have hz:=(h.node _ _ _ hb).frozen (16+dig q 3)
   have hz2:=(h.node _ _ _ hb).frozen 32
   have HH:=ζh h
   have HB:=ζh hb
   have HT:=ζh hT
   clear hdg h hb hT hkm
   go_enter Tryz.func174,Tryz.ntmps174
   go_wp2_with fail
   refine (HDG.out _).mono ?_
   rintro e w2 ⟨rfl,rfl⟩
   go_wp2_with fail
   rw [hasW_bclr _ hdl]
   have hn2:=((HH.out.node _ _ _ HB.out).set (16+dig q 3) (.int .u64 0)).set 32 (.int .u16 (hasW (upd (sub blk T 3 (pfx q 3)) (dig q 3) false):Nat))
   unfold nodeC at hn2
   rw [show (Value.int .u64 0)=Value.int .u64 ((0:Nat):Int) from rfl,List.setIfInBounds_toArray,List.setIfInBounds_toArray,nodeL_setWord _ _ _ hdl,nodeL_setHas] at hn2
   have hmm:=(mod_setCell w b (16+dig q 3) (.int .u64 0)).trans (mod_setCell (w.setCell ⟨b,16+dig q 3,none⟩ (.int .u64 0)) b 32 (.int .u16 (hasW (upd (sub blk T 3 (pfx q 3)) (dig q 3) false):Nat)))
   go_end0
   exact ⟨rfl,blk,HH.out.cut3 HB.out HT.out hmm hn2,hmm.mono (fun i e=>⟨_,_,by subst e;exact HB.out⟩),fun l p b' hb=>hb,fun l hl=>rfl⟩
 | succ m ih =>
   intro k b page blk T w hkm h hT hb
   have hk:k < 3:=by omega
   have hdg:=fun w=>digit_any q k hq (by omega) w
   have HDG:=ζh hdg
   have hdl:=dig_lt q k
   have e16:(dig q k:Int) < 16:=by omega
   have e0:(0:Int)≤(dig q k:Int):=by omega
   have d3:decide ((k:Int) < 3)=true:=decide_eq_true (by omega)
   have hc:=h.kid hb hdl
   have hkd:kids blk k (pfx q k) (dig q k)=blk (k+1) (pfx q (k+1)):=by unfold kids;rw [if_pos hk,pfx_dig (by omega)]
   obtain ⟨x,hx⟩:∃ x,T q=some x:=Option.isSome_iff_exists.1 hT
   obtain ⟨b1,hb1⟩:=Option.isSome_iff_exists.1 ((h.has (k+1) (pfx q (k+1)) (by omega) (by omega)).2 (.inl ⟨q,rfl,hT⟩))
   rw [hkd,hb1] at hc
   unfold kidV at hc
   have hcall:=ih (k+1) b1 page blk T w (by omega) h hT hb1
   have HC:=ζh hcall
   have HH:=ζh h
   have HB:=ζh hb
   have HB1:=ζh hb1
   have HT:=ζh hT
   clear hdg h hb hT hkm hkd hx hb1 hcall ih
   go_enter Tryz.func174,Tryz.ntmps174
   go_wp2_with fail
   refine (HDG.out _).mono ?_
   rintro e w2 ⟨rfl,rfl⟩
   go_wp2_with fail
   refine HC.out.mono ?_
   rintro e w1 ⟨rfl,bk1,hK1,hM1,hsub,hsame⟩
   have hb':=(hsame k (by omega)).trans HB.out
   have hc1:=hK1.kid hb' hdl
   have hkd:kids bk1 k (pfx q k) (dig q k)=bk1 (k+1) (pfx q (k+1)):=by unfold kids;rw [if_pos hk,pfx_dig (by omega)]
   have hb1':=(hsame (k+1) (by omega)).trans HB1.out
   rw [hkd,hb1'] at hc1
   unfold kidV at hc1
   have hh1:=hK1.hasc hb1'
   have HK1:=ζh hK1
   have HM1:=ζh hM1
   have HSUB:=ζh hsub
   have HSAME:=ζh hsame
   have HB':=ζh hb'
   have HB1':=ζh hb1'
   by_cases hz:hasW (sub bk1 (upd T q none) (k+1) (pfx q (k+1)))=0
   · have HZ:=ζh hz
     rw [hz] at hh1
     have hwc:=hK1.word hb' hdl
     have hw0:wrds (upd T q none) k (pfx q k) (dig q k)=0:=by unfold wrds;rw [if_pos hk]
     rw [hw0] at hwc
     have hhc:=hK1.hasc hb'
     have f0:=(hK1.node _ _ _ hb').frozen (dig q k)
     have f1:=(hK1.node _ _ _ hb').frozen (16+dig q k)
     have f2:=(hK1.node _ _ _ hb').frozen 32
     clear hz hkd hb' hb1' hK1 hM1 hsub hsame hw0
     go_wp2_with fail
     rw [hasW_bclr _ hdl]
     have hn2:=(((HK1.out.node _ _ _ HB'.out).set (dig q k) (kidV none)).set (16+dig q k) (.int .u64 ((0:Nat):Int))).set 32 (.int .u16 (hasW (upd (sub bk1 (upd T q none) k (pfx q k)) (dig q k) false):Nat))
     unfold nodeC at hn2
     rw [List.setIfInBounds_toArray,List.setIfInBounds_toArray,List.setIfInBounds_toArray,nodeL_setKid _ _ _ hdl,nodeL_setWord _ _ _ hdl,nodeL_setHas,upd_eq (show wrds (upd T q none) k (pfx q k) (dig q k)=0 by unfold wrds;rw [if_pos hk])] at hn2
     have hmm:=((mod_setCell w1 b (dig q k) (kidV none)).trans (mod_setCell _ b (16+dig q k) (.int .u64 ((0:Nat):Int)))).trans (mod_setCell _ b 32 (.int .u16 (hasW (upd (sub bk1 (upd T q none) k (pfx q k)) (dig q k) false):Nat)))
     go_end0
     refine ⟨rfl,_,HK1.out.prune HB'.out hk HB1'.out HZ.out hmm hn2,HM1.out.trans' hmm (fun i hi e=>⟨_,_,by subst e;exact HB.out⟩),fun l p b' hb9=>?_,fun l hl=>?_⟩
     · by_cases e:l=k+1∧p=pfx q (k+1)
       · obtain ⟨rfl,rfl⟩:=e;rw [upd2_same] at hb9;cases hb9
       · rw [upd2_ne _ _ e] at hb9;exact HSUB.out _ _ _ hb9
     · rw [upd2_ne _ _ (by omega)];exact HSAME.out l (by omega)
   · have hz':((hasW (sub bk1 (upd T q none) (k+1) (pfx q (k+1))):Int) != 0)=true:=by simpa using hz
     have HZ:=ζh hz
     clear hz hkd hb' hb1' hK1 hM1 hsub hsame
     go_wp2_with fail
     refine bodyPost_ret (results_none rfl _ _ _) rfl ?_
     exact ⟨rfl,bk1,HK1.out.stay hk HZ.out,HM1.out,HSUB.out,fun l hl=>HSAME.out l (by omega)⟩
theorem rdDrop_any (rb:Nat) (blk:Bk) (T:Wd) (page q:Nat) (w:World) (h:RadK w blk T 0 page) (hr:blk 0 0=some rb) (hq:q < 65536) (hT:(T q).isSome=true) :
 Calls Tryz.prog 105 #[.pointer (some ⟨rb,0,none⟩),.int .i64 q] w fun e w'=>e=.returned (.bool true) ∧
  ∃ blk',blk' 0 0=some rb∧RadK w' blk' (upd T q none) 0 page∧Mod (RadF blk) w w'∧(∀ l p b,blk' l p=some b→blk l p=some b):=by
 have hg:=rdget_any rb blk T page q w h hr
 have e:getT T q=T q:=by unfold getT;rw [if_pos (by omega),Int.toNat_natCast]
 rw [e,hT] at hg
 have hp0:=pfx_zero hq
 have hd:=fun w' (hm:Mod (fun _=>False) w w')=>rddrop_any q hq 3 0 rb page blk T w' rfl (h.keep hm (fun _ _ _ _ x=>x)) hT (by rw [hp0];exact hr)
 have HG:=ζh hg
 have HD:=ζh hd
 have HR:=ζh hr
 have HP:=ζh hp0
 clear h hr hg hd hT e hp0
 go_enter Tryz.func105,Tryz.ntmps105
 go_wp2_with fail
 refine HG.out.mono ?_
 rintro e w1 ⟨rfl,hm1⟩
 go_wp2_with fail
 refine (HD.out w1 hm1).mono ?_
 rintro e w2 ⟨rfl,bk,hK,hm2,hsub,hsame⟩
 go_wp2_with fail
 go_ret
 refine ⟨rfl,bk,?_,hK.weak page (fun l h1 _ h0=>by omega) (fun l h1 _ h0=>by omega),(hm1.mono (fun _ h=>h.elim)).trans hm2,hsub⟩
 have:=hsame 0 (Nat.le_refl _)
 rw [HP.out] at this
 rw [this]
 exact HR.out
end

section
open Go.RowKit Go.Shelf
attribute [local go_sem] Oper.semAt_some
theorem rdnew_any (w:World):Calls Tryz.prog 89 #[] w fun e w'=>e=.returned (.pointer (some ⟨w.heap.size,0,none⟩))∧Mod (fun _=>False) w w'∧RadK w' (fun l p=>if l=0∧p=0 then some w.heap.size else none) (fun _=>none) 0 0∧w'.heap.size=w.heap.size+1:=by
 have hb:=Blk.new w (nodeL (fun _=>none) (fun _=>0) (fun _=>false)).toArray 217
 have hm:=Mod.alloc' (fun _=>False) w (.cells (nodeL (fun _=>none) (fun _=>0) (fun _=>false)).toArray 217)
 go_enter Tryz.func89,Tryz.ntmps89
 go_wp2_with fail
 go_ret
 refine ⟨rfl,hm,⟨fun l p b h=>?_,fun l p l' p' b h1 h2=>?_,rfl,fun l p h=>?_,fun l p h1 h3=>?_,fun q x h=>by cases h⟩,by simp⟩
 · have h0:l=0∧p=0:=Classical.byContradiction fun e=>by rw [if_neg e] at h;cases h
   obtain ⟨rfl,rfl⟩:=h0
   rw [if_pos ⟨rfl,rfl⟩] at h
   injection h with h
   subst h
   unfold nodeC nodeT
   rw [if_pos rfl,nodeL_congr (k':=fun _=>none) (v':=fun _=>0) (h':=fun _=>false)]
   · exact hb
   · intro d _;unfold kids;rw [if_pos (by omega)];exact if_neg (by omega)
   · intro d _;unfold wrds;rw [if_pos (by omega)]
   · intro d _;unfold sub;rw [if_pos (by omega)];show (if 0+1=0∧16 * 0+d=0 then some w.heap.size else none).isSome=false;rw [if_neg (by omega)];rfl
 · have h0:l=0∧p=0:=Classical.byContradiction fun e=>by rw [if_neg e] at h1;cases h1
   have h0':l'=0∧p'=0:=Classical.byContradiction fun e=>by rw [if_neg e] at h2;cases h2
   omega
 · have h0:l=0∧p=0:=Classical.byContradiction fun e=>by rw [if_neg e] at h;cases h
   omega
 · rw [if_neg (by omega)]
   constructor
   · intro e;cases e
   · rintro (⟨q,_,e⟩ | ⟨e,_⟩)
     · cases e
     · omega
def pgs (T:Wd):Nat→Nat→List Nat
 | 0,q=>if (T q).isSome then [q] else []
 | m+1,p=>(List.range 16).flatMap fun d=>pgs T m (16 * p+d)
def encN' (n:Nat):Value:=.int .i64 (n:Int)
theorem pgs_none {T:Wd}:∀ (m p:Nat),(∀ q,q / 16 ^ m=p→T q=none)→pgs T m p=[]:=by
 intro m
 induction m with
 | zero=>intro p h;unfold pgs;rw [h p (by simp)];rfl
 | succ m ih =>
   intro p h
   unfold pgs
   rw [List.flatMap_eq_nil_iff]
   intro d hd
   have hd:=List.mem_range.1 hd
   refine ih _ (fun q hq=>h q ?_)
   rw [Nat.pow_succ,←Nat.div_div_eq_div_mul,hq]
   omega
theorem flat_succ {α:Type} (f:Nat→List α) (d:Nat):(List.range (d+1)).flatMap f=(List.range d).flatMap f++f d:=by
 rw [List.range_succ,List.flatMap_append];simp
theorem at_pre {α:Type} {xs pre rest:List α} {x:α} (h:xs=pre++x::rest):xs[pre.length]?=some x∧pre=xs.take pre.length:=by
 subst h;simp
theorem pgs_split (T:Wd) (m p:Nat) {d:Nat} (hd:d < 16):∃ rest,pgs T (m+1) p=(List.range d).flatMap (fun d=>pgs T m (16 * p+d))++pgs T m (16 * p+d)++rest:=by
 refine ⟨((List.range 16).drop (d+1)).flatMap (fun d=>pgs T m (16 * p+d)),?_⟩
 rw [←flat_succ]
 have e:List.range (d+1)=(List.range 16).take (d+1):=by rw [List.take_range,Nat.min_eq_left (by omega)]
 rw [e,←List.flatMap_append,List.take_append_drop]
 rfl
theorem or_page (p d:Nat) (hp:p < 2 ^ 58) (hd:d < 16):bits .or .i64 ((p:Int) * 16) (d:Int)=((16 * p+d:Nat):Int):=by
 have e:(p:Int) * 16=((16 * p:Nat):Int):=by omega
 rw [e]
 unfold bits
 show IntKind.i64.wrap (((BitVec.ofInt 64 ((16 * p:Nat):Int) ||| BitVec.ofInt 64 (d:Int)).toNat:Nat):Int)=_
 rw [BitVec.toNat_or,ofIntNat,ofIntNat,Nat.mod_eq_of_lt (by omega),Nat.mod_eq_of_lt (by omega)]
 have h2:16 * p ||| d=16 * p+d:=by
  have:=Nat.two_pow_add_eq_or_of_lt (i:=4) hd p
  rw [show 2 ^ 4 * p=16 * p by omega] at this
  exact this.symm
 rw [h2]
 exact wrap_small _ (by omega) (by omega)
theorem rdpages_in (T:Wd) (blk:Bk) (page:Nat) (S:Nat→Prop) (hS:∀ l p b,blk l p=some b→¬ S b) (y:Nat) (xs:List Nat) (J:List Nat→World→Prop) (Jx:World→Prop)
 (hY:∀ pre x A,J pre A→xs[pre.length]?=some x→pre=xs.take pre.length→YieldAt Fence.wide 0 Tryz.prog y #[encN' x] A fun e B=>(e=.returned (.bool true)∧J (pre++[x]) B∧Mod S A B)∨(e=.returned (.bool false)∧Jx B)) :
 ∀ (m k p b:Nat) (pre post:List Nat) (W:World),k+m=3→p < 16 ^ k→blk k p=some b→RadK W blk T 0 page→xs=pre++pgs T (m+1) p++post→J pre W →
  CallsIn Fence.wide 0 Tryz.prog 138 #[.pointer (some ⟨b,0,none⟩),.int .i64 k,.int .i64 p,.func (.yield y) #[] #[]] W fun e B =>
   (e=.returned (.bool true)∧J (pre++pgs T (m+1) p) B∧Mod S W B)∨(e=.returned (.bool false)∧Jx B):=by
 intro m
 induction m with
 | zero =>
   intro k p b pre post W hkm hp hb h hxs hj
   obtain rfl:k=3:=by omega
   have HH:=ζh h
   have HX:=ζh hxs
   have HY:=ζh hY
   clear h hxs hY hkm
   refine callsIn_of_wp Tryz.func138 rfl trivial ?_ rfl
   simp only [Tryz.ntmps138,List.size_toArray,List.length_cons,List.length_nil,Nat.reduceAdd,Nat.reduceSub,Array.replicate_succ,Array.replicate_zero,List.push_toArray,List.append_toArray,List.nil_append,List.cons_append]
   gi_wp2
   gi_loopw [11] (fun i wr=>∃ d:Nat,d≤16∧i=.int .i64 d∧Hid (J (pre++(List.range d).flatMap fun d=>pgs T 0 (16 * p+d)) wr)∧Hid (Mod S W wr)) (fun i _=>16 - (intOf i).toNat)
   case atStart=>exact ⟨0,by omega,rfl,ζh (by simpa using hj),ζh (Mod.refl _ _)⟩
   case round =>
    obtain ⟨d,hd,rfl,HJ,HM⟩:=hrel
    by_cases hd16:d < 16
    · have dd:decide ((d:Int) < 16)=true:=decide_eq_true (by omega)
      have hc:=(HH.out.keep HM.out hS).hasc hb
      have ht:=hasW_test (sub blk T 3 p) hd16
      have hsT:sub blk T 3 p d=(T (16 * p+d)).isSome:=by unfold sub;rw [if_neg (by omega)]
      rw [hsT] at ht
      have hstep:=flat_succ (fun d=>pgs T 0 (16 * p+d)) d
      cases hT:T (16 * p+d) with
      | none =>
        rw [hT] at ht
        simp only [Option.isSome_none,Bool.false_eq_true,if_false] at ht
        have hj9:J (pre++(List.range (d+1)).flatMap fun d=>pgs T 0 (16 * p+d)) wr:=by
         rw [hstep,show pgs T 0 (16 * p+d)=[] by unfold pgs;rw [hT];rfl,List.append_nil];exact HJ.out
        have HJ9:=ζh hj9
        clear hT hstep hsT hj9
        gi_wp2
        exact ⟨⟨d+1,by omega,by go_num,HJ9,HM⟩,by simp [intOf];omega⟩
      | some x =>
        rw [hT] at ht
        simp only [Option.isSome_some,if_true] at ht
        clear hsT
        have hpg:=or_page p d (by omega) hd16
        have hpd:pgs T 0 (16 * p+d)=[16 * p+d]:=by unfold pgs;rw [hT];rfl
        obtain ⟨rest,hrest⟩:=pgs_split T 0 p hd16
        rw [hpd] at hrest hstep
        obtain ⟨hat,hpre⟩:=at_pre (xs:=xs) (pre:=pre++(List.range d).flatMap fun d=>pgs T 0 (16 * p+d)) (x:=16 * p+d) (rest:=rest++post) (by rw [HX.out,hrest];simp)
        obtain ⟨fn,tmps,assign,body,hy,hR⟩:=HY.out _ _ wr HJ.out hat hpre
        dsimp only [encN'] at hy
        push_cast at hy
        rw [List.append_assoc,←hstep] at hR
        have HR:=ζh hR
        clear hT hstep hpd hrest hat hpre hR
        gi_wp2
        refine ⟨rfl,HR.out.mono ?_⟩
        clear hy HR
        rintro e w3 (⟨rfl,hj3,hk3⟩ | ⟨rfl,hjx⟩)
        · gi_wp2
          refine ⟨?_,?_⟩
          · iterate 41 apply Exists.intro
            exact ⟨⟨d+1,by omega,by go_num,ζh hj3,ζh (HM.out.trans hk3)⟩,rfl⟩
          · simp [intOf];omega
        · gi_wp2
          go_ret
          exact .inr ⟨rfl,hjx⟩
    · obtain rfl:d=16:=by omega
      gi_wp2
      go_ret
      exact .inl ⟨rfl,HJ.out,HM.out⟩
 | succ m ih =>
   intro k p b pre post W hkm hp hb h hxs hj
   have hk:k < 3:=by omega
   have hp58:p < 2 ^ 58:=by
    have:16 ^ k≤16 ^ 3:=Nat.pow_le_pow_right (by decide) (by omega)
    omega
   have HH:=ζh h
   have HX:=ζh hxs
   have HY:=ζh hY
   have HI:=ζh ih
   have d3:decide ((k:Int) < 3)=true:=decide_eq_true (by omega)
   clear h hxs hY ih
   refine callsIn_of_wp Tryz.func138 rfl trivial ?_ rfl
   simp only [Tryz.ntmps138,List.size_toArray,List.length_cons,List.length_nil,Nat.reduceAdd,Nat.reduceSub,Array.replicate_succ,Array.replicate_zero,List.push_toArray,List.append_toArray,List.nil_append,List.cons_append]
   gi_wp2
   gi_loopw [11] (fun i wr=>∃ d:Nat,d≤16∧i=.int .i64 d∧Hid (J (pre++(List.range d).flatMap fun d=>pgs T (m+1) (16 * p+d)) wr)∧Hid (Mod S W wr)) (fun i _=>16 - (intOf i).toNat)
   case atStart=>exact ⟨0,by omega,rfl,ζh (by simpa using hj),ζh (Mod.refl _ _)⟩
   case round =>
    obtain ⟨d,hd,rfl,HJ,HM⟩:=hrel
    by_cases hd16:d < 16
    · have dd:decide ((d:Int) < 16)=true:=decide_eq_true (by omega)
      have hKr:=HH.out.keep HM.out hS
      have hc:=hKr.hasc hb
      have hkc:=hKr.kid hb hd16
      have ht:=hasW_test (sub blk T k p) hd16
      have hsT:sub blk T k p d=(blk (k+1) (16 * p+d)).isSome:=by unfold sub;rw [if_pos hk]
      have hkd:kids blk k p d=blk (k+1) (16 * p+d):=by unfold kids;rw [if_pos hk]
      rw [hsT] at ht
      rw [hkd] at hkc
      have hstep:=flat_succ (fun d=>pgs T (m+1) (16 * p+d)) d
      cases hT:blk (k+1) (16 * p+d) with
      | none =>
        rw [hT] at ht
        simp only [Option.isSome_none,Bool.false_eq_true,if_false] at ht
        have hpn:pgs T (m+1) (16 * p+d)=[]:=pgs_none _ _ (fun q hq=>by
         cases hTq:T q with
         | none=>rfl
         | some x =>
           have:=(hKr.has (k+1) (16 * p+d) (by omega) (by omega)).2 (.inl ⟨q,by unfold pfx;rw [show 4 - (k+1)=m+1 by omega];exact hq,by rw [hTq];rfl⟩)
           rw [hT] at this;cases this)
        have hj9:J (pre++(List.range (d+1)).flatMap fun d=>pgs T (m+1) (16 * p+d)) wr:=by
         rw [hstep,hpn,List.append_nil];exact HJ.out
        have HJ9:=ζh hj9
        clear hT hstep hsT hj9 hkc hkd hpn hKr
        gi_wp2
        exact ⟨⟨d+1,by omega,by go_num,HJ9,HM⟩,by simp [intOf];omega⟩
      | some b' =>
        rw [hT] at ht hkc
        unfold kidV at hkc
        simp only [Option.isSome_some,if_true] at ht
        have hpg:=or_page p d hp58 hd16
        have e0:(0:Int)≤(d:Int):=by omega
        obtain ⟨rest,hrest⟩:=pgs_split T (m+1) p hd16
        have hcall:=HI.out (k+1) (16 * p+d) b' (pre++(List.range d).flatMap fun d=>pgs T (m+1) (16 * p+d)) (rest++post) wr (by omega) (by rw [Nat.pow_succ];omega) hT hKr (by rw [HX.out,hrest];simp only [List.append_assoc]) HJ.out
        rw [List.append_assoc,←hstep] at hcall
        push_cast at hcall
        have HC:=ζh hcall
        clear hT hstep hrest hcall hsT hkd hKr
        gi_wp2
        refine ⟨trivial,rfl,HC.out.mono ?_⟩
        clear HC
        rintro e w3 (⟨rfl,hj3,hk3⟩ | ⟨rfl,hjx⟩)
        · gi_wp2
          exact ⟨⟨d+1,by omega,by go_num,ζh hj3,ζh (HM.out.trans hk3)⟩,by simp [intOf];omega⟩
        · gi_wp2
          go_ret
          exact .inr ⟨rfl,hjx⟩
    · obtain rfl:d=16:=by omega
      gi_wp2
      go_ret
      exact .inl ⟨rfl,HJ.out,HM.out⟩
end

section
open Go.RowKit Go.Shelf
attribute [local go_sem] Oper.semAt_some
theorem rdall_seq (rb:Nat) (blk:Bk) (T:Wd) (page:Nat) (S:Nat→Prop) (w:World) (h:RadK w blk T 0 page) (hr:blk 0 0=some rb) (hS:∀ l p b,blk l p=some b→¬ S b) :
 SeqN (P:=Tryz.prog) 78 #[.pointer (some ⟨rb,0,none⟩)] #[] encN' S (pgs T 4 0) w:=by
 obtain ⟨m,hm3⟩:∃ m,m=3:=⟨_,rfl⟩
 obtain ⟨xs,hxs⟩:∃ xs,xs=pgs T (m+1) 0:=⟨_,rfl⟩
 have hx4:pgs T 4 0=xs:=by rw [hxs,hm3]
 rw [hx4]
 intro y J Jx W hmW hJ hJx hY h0
 have hK:=h.keep hmW (fun _ _ _ _ x=>x)
 have hc:=rdpages_in T blk page S hS y xs J Jx hY m 0 0 rb [] [] W (by omega) (by omega) hr hK (by rw [List.nil_append,List.append_nil];exact hxs) h0
 rw [List.nil_append,←hxs] at hc
 clear hx4 hxs hm3
 have HC:=ζh hc
 clear hc hK h hr hS hY hmW h0
 show CallsIn Fence.wide 0 Tryz.prog 78 #[.pointer (some ⟨rb,0,none⟩),.func (.yield y) #[] #[]] W _
 refine callsIn_of_wp Tryz.func78 rfl trivial ?_ rfl
 simp only [Tryz.ntmps78,List.size_toArray,List.length_cons,List.length_nil,Nat.reduceAdd,Nat.reduceSub,Array.replicate_succ,Array.replicate_zero,List.push_toArray,List.append_toArray,List.nil_append,List.cons_append]
 gi_wp2
 refine ⟨trivial,rfl,HC.out.mono ?_⟩
 clear HC
 rintro e w3 (⟨rfl,hj3,hk3⟩ | ⟨rfl,hjx⟩)
 · gi_wp2
   go_end0
   exact ⟨⟨_,rfl⟩,.inl hj3⟩
 · gi_wp2
   go_end0
   exact ⟨⟨_,rfl⟩,.inr hjx⟩
end

section
open Go.RowKit Go.Shelf
attribute [local go_sem] Oper.semAt_some
theorem pgs_len (T:Wd):∀ (m p:Nat),(pgs T m p).length≤16 ^ m:=by
 intro m
 induction m with
 | zero=>intro p;unfold pgs;split<;>simp
 | succ m ih =>
   intro p
   unfold pgs
   have:∀ l:List Nat,(l.flatMap fun d=>pgs T m (16 * p+d)).length≤l.length * 16 ^ m:=by
    intro l
    induction l with
    | nil=>simp
    | cons d r ih2 =>
      rw [List.flatMap_cons,List.length_append,List.length_cons,Nat.add_mul,Nat.one_mul]
      have:=ih (16 * p+d)
      omega
   have:=this (List.range 16)
   rw [List.length_range] at this
   rw [Nat.pow_succ]
   omega
def walkL (p q:Int) (xs:List Nat):List Nat:=(xs.takeWhile fun (n:Nat)=>decide ((n:Int) < q)).filter fun (n:Nat)=>decide (p≤(n:Int))
theorem walk_stop {pre xs:List Nat} {x:Nat} {p q:Int} (hx:xs[pre.length]?=some x) (hpre:pre=xs.take pre.length) (h6:∀ y∈pre,(y:Int) < q) (hq:q≤(x:Int)):walkL p q xs=pre.filter fun (n:Nat)=>decide (p≤(n:Int)):=by
 obtain ⟨hl,he⟩:=ζi.1 hx
 have e:xs=pre++x::xs.drop (pre.length+1):=by
  conv=>lhs;rw [←List.take_append_drop pre.length xs]
  rw [←hpre,List.drop_eq_getElem_cons hl,he]
 unfold walkL
 rw [e,List.takeWhile_append_of_pos (fun y hy=>decide_eq_true (h6 y hy)),List.takeWhile_cons_of_neg (by simp;omega),List.append_nil]
theorem rdwalk_any (rb:Nat) (blk:Bk) (T:Wd) (page:Nat) (p q:Int) (w:World) (h:RadK w blk T 0 page) (hr:blk 0 0=some rb) :
 Calls Tryz.prog 104 #[.pointer (some ⟨rb,0,none⟩),.int .i64 p,.int .i64 q] w fun e w'=>∃ v,e=.returned v∧Mod (fun _=>False) w w'∧w'.ownsRow w.heap.size 3 1 v (walkL p q (pgs T 4 0)).length ((walkL p q (pgs T 4 0)).map encN'):=by
 obtain ⟨xs,hxs⟩:∃ xs,xs=pgs T 4 0:=⟨_,rfl⟩
 rw [←hxs]
 refine (callsIn_wide (n:=0)).1 ?_
 refine callsIn_of_wp_marks Tryz.func104 rfl trivial ?_ rfl
 simp only [Tryz.ntmps104,List.size_toArray,List.length_cons,List.length_nil,Nat.reduceAdd,Nat.reduceSub,Array.replicate_succ,Array.replicate_zero,List.push_toArray,List.append_toArray,List.nil_append,List.cons_append]
 gi_wp2
 obtain ⟨r,hrr⟩:∃ r,r=w.heap.size:=⟨_,rfl⟩
 have hxl:xs.length≤65536:=by rw [hxs];exact pgs_len T 4 0
 have b0:=(Blk.new w #[.int .i64 p] 3)
 have b1:=(Blk.new (w.alloc (.cells #[.int .i64 p] 3)) #[.int .i64 q] 3)
 have b2:=(Blk.new ((w.alloc (.cells #[.int .i64 p] 3)).alloc (.cells #[.int .i64 q] 3)) #[.slice none 0 0] 30)
 have m3:Mod (fun _=>False) w (((w.alloc (.cells #[.int .i64 p] 3)).alloc (.cells #[.int .i64 q] 3)).alloc (.cells #[.slice none 0 0] 30)):=(((Mod.refl _ w).alloc _).alloc _).alloc _
 have b0':=(b0.alloc (.cells #[.int .i64 q] 3)).alloc (.cells #[.slice none 0 0] 30)
 have b1':=b1.alloc (.cells #[.slice none 0 0] 30)
 obtain ⟨wd,hwd⟩:∃ wd,wd=((w.alloc (.cells #[.int .i64 p] 3)).alloc (.cells #[.int .i64 q] 3)).alloc (.cells #[.slice none 0 0] 30):=⟨_,rfl⟩
 have sd:wd.heap.size=r+3:=by rw [hwd,hrr];simp
 rw [←hwd] at b0' b1' b2 m3 ⊢
 rw [World.size_alloc,World.size_alloc,←hrr] at b2
 rw [World.size_alloc,←hrr] at b1'
 rw [←hrr] at b0'
 have hseq:=rdall_seq rb blk T page (fun i=>r≤i) wd (h.keep m3 (fun _ _ _ _ x=>x)) hr (fun l p b hb hh=>by have:=(h.node l p b hb).lt;omega)
 rw [←hxs] at hseq
 have HX:=ζh hxs
 have HR:=ζh hrr
 have SD:=ζh sd
 have M3:=ζh m3
 rw [show w.heap.size+1+1=r+2 by omega,show w.heap.size+1=r+1 by omega,←hrr]
 clear hwd b0 b1 m3 hrr sd hxs h hr
 refine wp_range_n (gf:=78) (ba:=#[.pointer (some ⟨rb,0,none⟩)]) (lb:=#[]) rfl (enters_of Tryz.func78 (by kernel_rfl) rfl) hseq rfl (fun i hi=>by have:=SD.out;omega)
  (fun pre W=>∃ v,Blk W r #[.int .i64 p] 3∧Blk W (r+1) #[.int .i64 q] 3∧Blk W (r+2) #[v] 30∧W.ownsRow r 3 1 v (pre.filter fun (n:Nat)=>decide (p≤(n:Int))).length ((pre.filter fun (n:Nat)=>decide (p≤(n:Int))).map encN')∧Mod (fun _=>False) w W∧(∀ g,v.ownBlock=some g→wd.heap.size+2≤g)∧(∀ x∈pre,(x:Int) < q))
  (fun cd W=>cd=.exit 0∧∃ v,Blk W (r+2) #[v] 30∧W.ownsRow r 3 1 v (walkL p q xs).length ((walkL p q xs).map encN')∧Mod (fun _=>False) w W∧(∀ g,v.ownBlock=some g→wd.heap.size+2≤g)) ?hJ ?hIx ?h0
  (fun x=>{ tmps:=#[.pointer (some ⟨rb,0,none⟩),.int .i64 p,.int .i64 q,undef,.pointer (some ⟨r,0,none⟩),.pointer (some ⟨r+1,0,none⟩),.slice none 0 0,.pointer (some ⟨r+2,0,none⟩),encN' x,.pointer (some ⟨rb,0,none⟩),.func (.func 78) #[.pointer (some ⟨rb,0,none⟩)] #[],encN' x,undef,undef,undef,undef,undef,undef,undef,undef,undef,undef,undef],defers:=[] }) ?assign ?body ?done ?stop
 case hJ =>
  rintro pre A B ⟨v,h0,h1,h2,h3,h4,h5,h6⟩ hm
  have s1:=SD.out
  have s2:=HR.out
  exact ⟨v,h0.keep hm (by omega),h1.keep hm (by omega),h2.keep hm (by omega),ownsRow_keep h3 hm (fun g hg=>by have:=h5 g hg;omega),h4.trans' hm (fun i hi h=>by omega),h5,h6⟩
 case hIx =>
  rintro cd A B ⟨h0,v,h2,h3,h4,h5⟩ hm
  have s1:=SD.out
  have s2:=HR.out
  exact ⟨h0,v,h2.keep hm (by omega),ownsRow_keep h3 hm (fun g hg=>by have:=h5 g hg;omega),h4.trans' hm (fun i hi h=>by omega),h5⟩
 case h0=>exact ⟨_,b0',b1',b2,⟨rfl,.inl ⟨rfl,rfl⟩⟩,M3.out,fun g hg=>(by cases hg),fun x hx=>(by cases hx)⟩
 case assign =>
  intro y x W K hK
  gi_wp2
  simpa [encN'] using hK
 case body =>
  rintro y pre x W ⟨v,h0,h1,h2,h3,h4,h5,h6⟩ hx hpre hsz
  have c0:=h0.cell 0
  have c1:=h1.cell 0
  have c2:=h2.cell 0
  simp only [ζa,ζb] at c0 c1 c2
  have f2:=h2.frozen 0
  have HX2:=ζh hx
  have HP2:=ζh hpre
  clear hx hpre
  unfold encN'
  by_cases hq:q≤(x:Int)
  · have dq:decide (q≤(x:Int))=true:=decide_eq_true hq
    gi_wp2
    refine .inr ⟨_,rfl,⟨rfl,v,h2,?_,h4,h5⟩,Mod.refl _ _⟩
    rw [walk_stop HX2.out HP2.out h6 hq]
    exact h3
  · have dq:decide (q≤(x:Int))=false:=decide_eq_false hq
    by_cases hp:p≤(x:Int)
    · have dp:decide (p≤(x:Int))=true:=decide_eq_true hp
      have z1:=SD.out
      have z2:=HR.out
      have hs3:=h4.size
      have hlt:=h2.lt
      have hx1:(pre.filter fun (n:Nat)=>decide (p≤(n:Int))).length≤65536:=Nat.le_trans (List.length_filter_le _ _) (by rw [HP2.out,List.length_take];omega)
      have Z1:=ζh z1
      have Z2:=ζh z2
      clear z1 z2
      gi_wp2_with (gi_at_builtin;refine Tre.wpListIn_app rfl _ _ 30 rfl r 3 (.int .i64 0) 1 8 Tryz.underlying30 Tre.info_int rfl (by decide) (by decide) v _ _ rfl (h3.alloc _) ⟨W.heap.size,0,none⟩ 1 [.int .i64 x] rfl rfl (cell_one_new _ _ _) (by simp [Value.oneCell']) (by omega) (by simp;omega) ?_;intro g cap w2 o2 m2 hg hlt2;have hB2:Blk w2 (r+2) #[v] 30:=(h2.alloc _).keep m2 (fun e=>ownsRow_ne_blk h3 h2 (by decide) _ e.symm rfl);have he2:=hB2.cell 0;simp only [ζa,ζb] at he2;have hf2:=hB2.frozen 0)
      have hb:=hB2.set 0 (.slice (some ⟨g,0,none⟩) ((pre.filter fun (n:Nat)=>decide (p≤(n:Int))).length+1) cap)
      have o3:=ownsRow_keep o2 (mod_setCell w2 (r+2) 0 (.slice (some ⟨g,0,none⟩) ((pre.filter fun (n:Nat)=>decide (p≤(n:Int))).length+1) cap)) (ownsRow_ne_blk o2 hB2 (by decide))
      have m3:Mod (fun k=>some k=v.ownBlock) W w2:=(Mod.alloc' _ _ _).trans m2
      have m4:=mod_setCell w2 (r+2) 0 (.slice (some ⟨g,0,none⟩) ((pre.filter fun (n:Nat)=>decide (p≤(n:Int))).length+1) cap)
      have z1:=Z1.out
      have z2:=Z2.out
      have hge:wd.heap.size+2≤g:=by
       rcases hg with hg | hg
       · exact h5 g hg
       · rw [hg];simp;omega
      have hz:=m3.size
      have hb0:Blk w2 r #[.int .i64 p] 3:=h0.keep m3 (fun e=>by have:=h5 r e.symm;omega)
      have hb1:Blk w2 (r+1) #[.int .i64 q] 3:=h1.keep m3 (fun e=>by have:=h5 (r+1) e.symm;omega)
      refine .inl ⟨⟨hb0.keep m4 (by omega),hb1.keep m4 (by omega),_,hb,o3,(h4.trans' m3 (fun i hi e=>by have:=h5 i e.symm;omega)).trans' m4 (fun i hi e=>by omega),fun g' e=>?_,fun z hz=>?_⟩,(m3.mono (S':=fun i=>r≤i∧¬i=wd.heap.size∧¬i=wd.heap.size+1) (fun i e=>by have:=h5 i e.symm;omega)).trans' m4 (fun i hi e=>by omega)⟩
      · injection e with e
        simp only at e
        omega
      · rcases hz with hz | rfl
        · exact h6 z hz
        · omega
    · have dp:decide (p≤(x:Int))=false:=decide_eq_false hp
      gi_wp2
      refine .inl ⟨⟨v,h2,h3,h5,fun z hz=>?_⟩,Mod.refl _ _⟩
      rcases hz with hz | rfl
      · exact h6 z hz
      · omega
 case done =>
  rintro W ⟨v,h0,h1,h2,h3,h4,h5,h6⟩ hK
  have hw:walkL p q xs=xs.filter fun (n:Nat)=>decide (p≤(n:Int)):=by
   unfold walkL
   have ht:=List.takeWhile_append_of_pos (l₁:=xs) (l₂:=[]) (p:=fun (n:Nat)=>decide ((n:Int) < q)) (fun y hy=>decide_eq_true (h6 y hy))
   rw [List.append_nil,List.takeWhile_nil,List.append_nil] at ht
   rw [ht]
  rw [←hw] at h3
  have c2:=h2.cell 0
  simp only [ζa,ζb] at c2
  obtain ⟨a,c,rfl⟩:=ownsRow_form h3
  clear hw
  gi_wp2
  refine ⟨by simp,.inl ⟨_,_,rfl,run_takeDeferred hK,?_⟩⟩
  rw [←HR.out]
  exact ⟨_,results_tmp rfl _ _ _,_,rfl,h4.putObj (.inr (by have:=SD.out;have:=HR.out;omega)) _,ownsRow_keep h3 (mod_putObj _ _ _) (fun g hg=>by have:=h5 g hg;omega)⟩
 case stop =>
  rintro cd W ⟨rfl,v,h2,h3,h4,h5⟩ hK
  have c2:=h2.cell 0
  simp only [ζa,ζb] at c2
  obtain ⟨a,c,rfl⟩:=ownsRow_form h3
  gi_wp2
  refine ⟨by simp,.inl ⟨_,_,rfl,run_takeDeferred hK,?_⟩⟩
  rw [←HR.out]
  exact ⟨_,results_tmp rfl _ _ _,_,rfl,h4.putObj (.inr (by have:=SD.out;have:=HR.out;omega)) _,ownsRow_keep h3 (mod_putObj _ _ _) (fun g hg=>by have:=h5 g hg;omega)⟩
end

section
open Go.RowKit Go.Shelf
attribute [local go_sem] Oper.semAt_some
theorem appendSeqN_any (gf:Nat) (ba:Array Value) (eg:∀ args w,(callFunc gf args).run Tryz.prog w=.ok (.enter gf args) w) (xs:List Nat) (w:World)
 (hseq:SeqN (P:=Tryz.prog) gf ba #[] encN' (fun i=>w.heap.size≤i) xs w) (hxl:xs.length≤65536) :
 Calls Tryz.prog 137 #[.slice none 0 0,.func (.func gf) ba #[]] w fun e w'=>∃ v,e=.returned v∧Mod (fun _=>False) w w'∧w'.ownsRow w.heap.size 3 1 v xs.length (xs.map encN'):=by
 refine (callsIn_wide (n:=0)).1 ?_
 refine callsIn_of_wp_marks Tryz.func137 rfl trivial ?_ rfl
 simp only [Tryz.ntmps137,List.size_toArray,List.length_cons,List.length_nil,Nat.reduceAdd,Nat.reduceSub,Array.replicate_succ,Array.replicate_zero,List.push_toArray,List.append_toArray,List.nil_append,List.cons_append]
 gi_wp2
 obtain ⟨w1,hw1⟩:∃ w1,w1=w.alloc (.cells #[.slice none 0 0] 30):=⟨_,rfl⟩
 have b1:Blk w1 w.heap.size #[.slice none 0 0] 30:=by rw [hw1];exact Blk.new w _ _
 have m1:Mod (fun _=>False) w w1:=by rw [hw1];exact Mod.alloc' _ _ _
 have s1:w1.heap.size=w.heap.size+1:=by rw [hw1];simp
 rw [←hw1]
 have hq1:=hseq.at m1
 clear hseq hw1
 refine wp_range_n (gf:=gf) (ba:=ba) (lb:=#[]) rfl eg hq1 rfl (fun i hi=>by omega)
  (fun pre W=>∃ v,Blk W w.heap.size #[v] 30∧W.ownsRow w.heap.size 3 1 v pre.length (pre.map encN')∧Mod (fun _=>False) w W∧(∀ g,v.ownBlock=some g→w1.heap.size+2≤g))
  (fun _ _=>False) ?hJ ?hIx ?h0 (fun x=>{ tmps:=#[.slice none 0 0,.func (.func gf) ba #[],.pointer (some ⟨w.heap.size,0,none⟩),undef,.slice none 0 0,encN' x,.func (.func gf) ba #[],encN' x,undef,undef,undef,undef,undef],defers:=[] }) ?assign ?body ?done ?stop
 case hJ =>
  rintro pre A B ⟨v,h1,h2,h3,h4⟩ hm
  have:=h1.lt
  exact ⟨v,h1.keep hm (by omega),ownsRow_keep h2 hm (fun g hg=>by have:=h4 g hg;omega),h3.trans' hm (fun i hi h=>by omega),h4⟩
 case hIx=>intro _ _ _ h;exact h.elim
 case h0=>exact ⟨_,b1,⟨rfl,.inl ⟨rfl,rfl⟩⟩,m1,fun g hg=>by cases hg⟩
 case assign =>
  intro l x W K hK
  clear s1
  gi_wp2
  simpa [encN'] using hK
 case body =>
  rintro l pre x W ⟨v,h1,h2,h3,h4⟩ hlen hpre hsz
  have hc:=h1.cell 0
  simp only [ζa,ζb] at hc
  have hf:=h1.frozen 0
  have z1:=ζh s1
  have hs3:=h3.size
  have hlt:=h1.lt
  have hx1:pre.length≤65536:=by rw [hpre,List.length_take];omega
  clear s1 hlen hpre
  unfold encN'
  gi_wp2_with (gi_at_builtin;refine Tre.wpListIn_app rfl _ _ 30 rfl w.heap.size 3 (.int .i64 0) 1 8 Tryz.underlying30 Tre.info_int rfl (by decide) (by decide) v pre.length _ rfl (h2.alloc _) ⟨W.heap.size,0,none⟩ 1 [.int .i64 x] rfl rfl (cell_one_new _ _ _) (by simp [Value.oneCell']) (by omega) (by simp;omega) ?_;intro g cap w2 o2 m2 hg hlt2;have hB2:Blk w2 w.heap.size #[v] 30:=(h1.alloc _).keep m2 (fun e=>ownsRow_ne_blk h2 h1 (by decide) _ e.symm rfl);have he2:=hB2.cell 0;simp only [ζa,ζb] at he2;have hf2:=hB2.frozen 0)
  have s1:=z1.out
  have hb:=hB2.set 0 (.slice (some ⟨g,0,none⟩) (pre.length+1) cap)
  have o3:=ownsRow_keep o2 (mod_setCell w2 w.heap.size 0 (.slice (some ⟨g,0,none⟩) (pre.length+1) cap)) (ownsRow_ne_blk o2 hB2 (by decide))
  have m3:Mod (fun k=>some k=v.ownBlock) W w2:=(Mod.alloc' _ _ _).trans m2
  have m4:=mod_setCell w2 w.heap.size 0 (.slice (some ⟨g,0,none⟩) (pre.length+1) cap)
  have hge:w1.heap.size+2≤g:=by
   rcases hg with hg | hg
   · exact h4 g hg
   · rw [hg];simp;omega
  have hz:=m3.size
  refine ⟨⟨_,hb,o3,(h3.trans' m3 (fun i hi e=>by have:=h4 i e.symm;omega)).trans' m4 (fun i hi e=>by omega),fun g' e=>?_⟩,(m3.mono (S':=fun i=>w.heap.size≤i∧¬i=w1.heap.size∧¬i=w1.heap.size+1) (fun i e=>by have:=h4 i e.symm;omega)).trans' m4 (fun i hi e=>by omega)⟩
  injection e with e
  simp only at e
  omega
 case done =>
  rintro W ⟨v,h1,h2,h3,h4⟩ hK
  have hc:=h1.cell 0
  simp only [ζa,ζb] at hc
  obtain ⟨a,c,rfl⟩:=ownsRow_form h2
  clear s1
  gi_wp2
  refine ⟨by simp,.inl ⟨_,_,rfl,run_takeDeferred hK,?_⟩⟩
  exact ⟨_,results_tmp rfl _ _ _,_,rfl,h3.putObj (.inr (by have:=m1.size;omega)) _,ownsRow_keep h2 (mod_putObj _ _ _) (fun g hg=>by have:=h4 g hg;omega)⟩
 case stop=>intro _ _ h;exact h.elim
theorem collectN_any (gf:Nat) (ba:Array Value) (eg:∀ args w,(callFunc gf args).run Tryz.prog w=.ok (.enter gf args) w) (xs:List Nat) (w:World)
 (hseq:SeqN (P:=Tryz.prog) gf ba #[] encN' (fun i=>w.heap.size≤i) xs w) (hxl:xs.length≤65536) :
 Calls Tryz.prog 77 #[.func (.func gf) ba #[]] w fun e w'=>∃ v,e=.returned v∧Mod (fun _=>False) w w'∧w'.ownsRow w.heap.size 3 1 v xs.length (xs.map encN'):=by
 go_enter Tryz.func77,Tryz.ntmps77
 go_wp2_with fail
 refine (appendSeqN_any gf ba eg xs _ hseq hxl).mono ?_
 rintro e w1 ⟨v,rfl,hm,ho⟩
 obtain ⟨a,c,rfl⟩:=ownsRow_form ho
 go_wp2_with fail
 go_ret
 exact ⟨_,rfl,hm,ho⟩
theorem rdlen_any (rb:Nat) (blk:Bk) (T:Wd) (page:Nat) (w:World) (h:RadK w blk T 0 page) (hr:blk 0 0=some rb) :
 Calls Tryz.prog 45 #[.pointer (some ⟨rb,0,none⟩)] w fun e w'=>e=.returned (.int .i64 (pgs T 4 0).length)∧Mod (fun _=>False) w w':=by
 have hseq:=rdall_seq rb blk T page (fun i=>w.heap.size≤i) w h hr (fun l p b hb hh=>by have:=(h.node l p b hb).lt;omega)
 have hl:=pgs_len T 4 0
 obtain ⟨xs,hxs⟩:∃ xs,xs=pgs T 4 0:=⟨_,rfl⟩
 rw [←hxs] at hseq hl ⊢
 clear hxs h
 have HS:=ζh hseq
 clear hseq hr
 go_enter Tryz.func45,Tryz.ntmps45
 go_wp2_with fail
 refine (collectN_any _ _ (enters_of Tryz.func78 (by kernel_rfl) rfl) xs _ HS.out hl).mono ?_
 rintro e w1 ⟨v,rfl,hm,ho⟩
 obtain ⟨a,c,rfl⟩:=ownsRow_form ho
 go_wp2_with fail
 go_ret
 exact ⟨rfl,hm⟩
end
end Go.Proofs.YtkfoeonggmlebaaGreatDoor
