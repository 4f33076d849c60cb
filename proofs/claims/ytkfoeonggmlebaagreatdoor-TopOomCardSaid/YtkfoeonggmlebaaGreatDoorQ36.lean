/-
  Contracts of the program's functions, and plain facts, towards the laws of millpondtop. No condition beyond those that each theorem bears.
-/
import Derived.Test.YtkfoeonggmlebaaGreatDoorQ04
import Derived.Test.YtkfoeonggmlebaaGreatDoorQ35
import Derived.Test.YtkfoeonggmlebaaGreatDoorQAA
set_option maxRecDepth 100000
set_option maxHeartbeats 4000000
namespace Go.Proofs.YtkfoeonggmlebaaGreatDoor
section
open Go.RowKit Go.Shelf
def hasW (f:Nat→Bool):Nat:=Pol.packW ((List.range 16).map f)
theorem hasW_lt (f:Nat→Bool):hasW f < 65536:=by
 have:=Pol.packW_lt ((List.range 16).map f)
 simpa [hasW] using this
theorem hasW_bit (f:Nat→Bool) (j:Nat):(hasW f).testBit j=(decide (j < 16)&&f j):=by
 unfold hasW
 rw [Pol.packW_testBit,List.getD_eq_getElem?_getD,List.getElem?_map]
 by_cases h:j < 16
 · rw [List.getElem?_range h];simp [h]
 · rw [List.getElem?_eq_none (by simpa using Nat.le_of_not_lt h)];simp [h]
def upd {α:Type} (f:Nat→α) (d:Nat) (x:α):Nat→α:=fun i=>if i=d then x else f i
theorem upd_same {α:Type} (f:Nat→α) (d:Nat) (x:α):upd f d x d=x:=if_pos rfl
theorem upd_ne {α:Type} (f:Nat→α) {d i:Nat} (x:α) (h:i≠d):upd f d x i=f i:=if_neg h
theorem upd_eq {α:Type} {f:Nat→α} {d:Nat} {x:α} (h:f d=x):upd f d x=f:=by
 funext i;unfold upd;split
 · subst_vars;rfl
 · rfl
theorem hasW_or (f:Nat→Bool) {d:Nat} (hd:d < 16):hasW f ||| 2 ^ d=hasW (upd f d true):=by
 apply Nat.eq_of_testBit_eq
 intro i
 rw [Nat.testBit_or,hasW_bit,hasW_bit,Nat.testBit_two_pow]
 by_cases h:d=i
 · subst h;simp [upd_same,hd]
 · rw [upd_ne _ _ (Ne.symm h)];simp [h]
theorem hasW_off (f:Nat→Bool) {d:Nat} (hd:d < 16):hasW f &&& (65535 - 2 ^ d)=hasW (upd f d false):=by
 have hm:∀ i,(65535 - 2 ^ d).testBit i=(decide (i < 16)&&decide (i≠d)):=by
  intro i
  by_cases hi:i < 16
  · have:=(show ∀ d:Fin 16,∀ i:Fin 16,(65535 - 2 ^ d.1).testBit i.1=decide (i.1≠d.1) by decide) ⟨d,hd⟩ ⟨i,hi⟩
    simpa [hi] using this
  · have:65535 - 2 ^ d < 2 ^ i:=Nat.lt_of_lt_of_le (Nat.lt_of_le_of_lt (Nat.sub_le _ _) (by decide)) (Nat.pow_le_pow_right (by decide) (Nat.le_of_not_lt hi))
    rw [Nat.testBit_lt_two_pow this]
    simp [hi]
 apply Nat.eq_of_testBit_eq
 intro i
 rw [Nat.testBit_and,hasW_bit,hasW_bit,hm]
 by_cases h:i=d
 · subst h;simp [upd_same]
 · rw [upd_ne _ _ h];by_cases hi:i < 16<;>simp [h,hi]
theorem hasW_zero (f:Nat→Bool):hasW f=0↔∀ d,d < 16→f d=false:=by
 constructor
 · intro h d hd
   have:=hasW_bit f d
   rw [h,Nat.zero_testBit] at this
   simpa [hd] using this.symm
 · intro h
   apply Nat.eq_of_testBit_eq
   intro i
   rw [hasW_bit,Nat.zero_testBit]
   by_cases hi:i < 16
   · simp [hi,h i hi]
   · simp [hi]
theorem wrapU16 (n:Nat) (hn:n < 65536):IntKind.u16.wrap (n:Int)=(n:Int):=by
 have h:IntKind.u16.wrap (n:Int)=(n:Int)%65536:=by
  first | rfl | simp [IntKind.wrap]
 rw [h];omega
theorem and_16 (a b:Nat) (ha:a < 65536) (hb:b < 65536):bits .and .u16 (a:Int) (b:Int)=((a &&& b:Nat):Int):=by
 unfold bits
 show IntKind.u16.wrap (((BitVec.ofInt 16 (a:Int) &&& BitVec.ofInt 16 (b:Int)).toNat:Nat):Int)=_
 rw [BitVec.toNat_and,ofIntNat,ofIntNat,Nat.mod_eq_of_lt (by omega),Nat.mod_eq_of_lt (by omega)]
 exact wrapU16 _ (Nat.and_lt_two_pow (n:=16) _ (by omega))
theorem or_16 (a b:Nat) (ha:a < 65536) (hb:b < 65536):bits .or .u16 (a:Int) (b:Int)=((a ||| b:Nat):Int):=by
 unfold bits
 show IntKind.u16.wrap (((BitVec.ofInt 16 (a:Int) ||| BitVec.ofInt 16 (b:Int)).toNat:Nat):Int)=_
 rw [BitVec.toNat_or,ofIntNat,ofIntNat,Nat.mod_eq_of_lt (by omega),Nat.mod_eq_of_lt (by omega)]
 exact wrapU16 _ (Nat.or_lt_two_pow (n:=16) (by omega) (by omega))
theorem hasW_test (f:Nat→Bool) {d:Nat} (hd:d < 16):bits .and .u16 ((hasW f:Int) / 2 ^ d) 1=if f d=true then 1 else 0:=by
 have e:(hasW f:Int) / 2 ^ d=((hasW f / 2 ^ d:Nat):Int):=by push_cast;rfl
 have hl:hasW f / 2 ^ d < 65536:=Nat.lt_of_le_of_lt (Nat.div_le_self _ _) (hasW_lt f)
 have h:=and_16 (hasW f / 2 ^ d) 1 hl (by decide)
 rw [e]
 refine h.trans ?_
 have ht:=hasW_bit f d
 rw [Nat.testBit_eq_decide_div_mod_eq,decide_eq_true hd,Bool.true_and] at ht
 rw [Nat.and_one_is_mod]
 have h2:hasW f / 2 ^ d%2 < 2:=Nat.mod_lt _ (by decide)
 cases hf:f d with
 | true=>rw [hf] at ht;have:=of_decide_eq_true ht;rw [this];rfl
 | false=>rw [hf] at ht;have:=of_decide_eq_false ht;rw [show hasW f / 2 ^ d%2=0 by omega];rfl
def kidV:Option Nat→Value
 | some b=>.pointer (some ⟨b,0,none⟩)
 | none=>.pointer none
def nodeL (k:Nat→Option Nat) (v:Nat→Nat) (h:Nat→Bool):List Value :=
 (List.range 16).map (fun d=>kidV (k d))++(List.range 16).map (fun d=>.int .u64 (v d:Nat))++[.int .u16 (hasW h:Nat)]
theorem nodeL_len (k:Nat→Option Nat) (v:Nat→Nat) (h:Nat→Bool):(nodeL k v h).length=33:=by simp [nodeL]
theorem nodeL_kid (k:Nat→Option Nat) (v:Nat→Nat) (h:Nat→Bool) {d:Nat} (hd:d < 16):(nodeL k v h)[d]?=some (kidV (k d)):=by
 unfold nodeL
 rw [List.append_assoc,List.getElem?_append_left (by simpa using hd),List.getElem?_map,List.getElem?_range hd];rfl
theorem nodeL_word (k:Nat→Option Nat) (v:Nat→Nat) (h:Nat→Bool) {d:Nat} (hd:d < 16):(nodeL k v h)[16+d]?=some (.int .u64 (v d:Nat)):=by
 unfold nodeL
 rw [List.append_assoc,List.getElem?_append_right (by simp),List.getElem?_append_left (by simp;omega)]
 simp [List.getElem?_range hd]
theorem nodeL_has (k:Nat→Option Nat) (v:Nat→Nat) (h:Nat→Bool):(nodeL k v h)[32]?=some (.int .u16 (hasW h:Nat)):=by
 unfold nodeL
 rw [List.getElem?_append_right (by simp)]
 simp
theorem list_ext33 {l l':List Value} (h1:l.length=33) (h2:l'.length=33) (hk:∀ d,d < 16→l[d]?=l'[d]?) (hv:∀ d,d < 16→l[16+d]?=l'[16+d]?) (hh:l[32]?=l'[32]?):l=l':=by
 apply List.ext_getElem?
 intro i
 by_cases i1:i < 16
 · exact hk i i1
 by_cases i2:i < 32
 · have:=hv (i - 16) (by omega);rwa [show 16+(i - 16)=i by omega] at this
 by_cases i3:i=32
 · subst i3;exact hh
 · rw [List.getElem?_eq_none (by omega),List.getElem?_eq_none (by omega)]
theorem nodeL_setKid (k:Nat→Option Nat) (v:Nat→Nat) (h:Nat→Bool) {d:Nat} (hd:d < 16) (x:Option Nat):(nodeL k v h).set d (kidV x)=nodeL (upd k d x) v h:=by
 have hl:=nodeL_len k v h
 refine list_ext33 (by rw [List.length_set,hl]) (nodeL_len _ _ _) (fun i hi=>?_) (fun i hi=>?_) ?_
 · rw [nodeL_kid _ _ _ hi,List.getElem?_set]
   split
   · subst_vars;rw [if_pos (by omega),upd_same]
   · rw [nodeL_kid _ _ _ hi,upd_ne _ _ (by omega)]
 · rw [nodeL_word _ _ _ hi,List.getElem?_set_ne (by omega),nodeL_word _ _ _ hi]
 · rw [nodeL_has,List.getElem?_set_ne (by omega),nodeL_has]
theorem nodeL_setWord (k:Nat→Option Nat) (v:Nat→Nat) (h:Nat→Bool) {d:Nat} (hd:d < 16) (x:Nat):(nodeL k v h).set (16+d) (.int .u64 (x:Nat))=nodeL k (upd v d x) h:=by
 have hl:=nodeL_len k v h
 refine list_ext33 (by rw [List.length_set,hl]) (nodeL_len _ _ _) (fun i hi=>?_) (fun i hi=>?_) ?_
 · rw [nodeL_kid _ _ _ hi,List.getElem?_set_ne (by omega),nodeL_kid _ _ _ hi]
 · rw [nodeL_word _ _ _ hi,List.getElem?_set]
   split
   · obtain rfl:d=i:=by omega
     rw [if_pos (by omega),upd_same]
   · rw [nodeL_word _ _ _ hi,upd_ne _ _ (by omega)]
 · rw [nodeL_has,List.getElem?_set_ne (by omega),nodeL_has]
theorem nodeL_setHas (k:Nat→Option Nat) (v:Nat→Nat) (h h':Nat→Bool):(nodeL k v h).set 32 (.int .u16 (hasW h':Nat))=nodeL k v h':=by
 have hl:=nodeL_len k v h
 refine list_ext33 (by rw [List.length_set,hl]) (nodeL_len _ _ _) (fun i hi=>?_) (fun i hi=>?_) ?_
 · rw [nodeL_kid _ _ _ hi,List.getElem?_set_ne (by omega),nodeL_kid _ _ _ hi]
 · rw [nodeL_word _ _ _ hi,List.getElem?_set_ne (by omega),nodeL_word _ _ _ hi]
 · rw [nodeL_has,List.getElem?_set_self (by omega)]
abbrev Bk:=Nat→Nat→Option Nat
abbrev Wd:=Nat→Option Nat
def sub (blk:Bk) (T:Wd) (l p d:Nat):Bool:=if l < 3 then (blk (l+1) (16 * p+d)).isSome else (T (16 * p+d)).isSome
def kids (blk:Bk) (l p d:Nat):Option Nat:=if l < 3 then blk (l+1) (16 * p+d) else none
def wrds (T:Wd) (l p d:Nat):Nat:=if l < 3 then 0 else (T (16 * p+d)).getD 0
def nodeC (blk:Bk) (T:Wd) (l p:Nat):List Value:=nodeL (kids blk l p) (wrds T l p) (sub blk T l p)
def nodeT (l:Nat):TypeId:=if l=0 then 217 else 215
def pfx (q l:Nat):Nat:=q / 16 ^ (4 - l)
structure RadK (w:World) (blk:Bk) (T:Wd) (k page:Nat):Prop where
 node:∀ l p b,blk l p=some b→Blk w b (nodeC blk T l p).toArray (nodeT l)
 inj:∀ l p l' p' b,blk l p=some b→blk l' p'=some b→l=l'∧p=p'
 root:(blk 0 0).isSome
 lev:∀ l p,(blk l p).isSome→l≤3∧(l=0→p=0)
 has:∀ l p,1≤l→l≤3→((blk l p).isSome=true↔(∃ q,pfx q l=p∧(T q).isSome)∨(l≤k∧pfx page l=p))
 fit:∀ q x,T q=some x→q < 65536∧x < 2 ^ 64
theorem pfx_dig {q l:Nat} (hl:l≤3):pfx q (l+1)=16 * pfx q l+dig q l:=by
 unfold pfx dig
 rw [show 4 - l=(3 - l)+1 by omega,Nat.pow_succ,←Nat.div_div_eq_div_mul,show 4 - (l+1)=3 - l by omega]
 omega
theorem pfx_zero {q:Nat} (h:q < 65536):pfx q 0=0:=by unfold pfx;omega
theorem pfx_four (q:Nat):pfx q 4=q:=by unfold pfx;simp
theorem dig_lt (q l:Nat):dig q l < 16:=Nat.mod_lt _ (by decide)
end

section
open Go.RowKit Go.Shelf
attribute [local go_sem] Oper.semAt_some
theorem RadK.keep {S:Nat→Prop} {w w':World} {blk:Bk} {T:Wd} {k page:Nat} (h:RadK w blk T k page) (hm:Mod S w w') (hs:∀ l p b,blk l p=some b→¬ S b):RadK w' blk T k page :=
 ⟨fun l p b hb=>(h.node l p b hb).keep hm (hs l p b hb),h.inj,h.root,h.lev,h.has,h.fit⟩
theorem RadK.kid {w:World} {blk:Bk} {T:Wd} {k page:Nat} (h:RadK w blk T k page) {l p b d:Nat} (hb:blk l p=some b) (hd:d < 16):w.cell? ⟨b,d,none⟩=some (kidV (kids blk l p d)):=by
 rw [(h.node l p b hb).cell,ζa];exact nodeL_kid _ _ _ hd
theorem RadK.word {w:World} {blk:Bk} {T:Wd} {k page:Nat} (h:RadK w blk T k page) {l p b d:Nat} (hb:blk l p=some b) (hd:d < 16):w.cell? ⟨b,16+d,none⟩=some (.int .u64 (wrds T l p d:Nat)):=by
 rw [(h.node l p b hb).cell,ζa];exact nodeL_word _ _ _ hd
theorem RadK.hasc {w:World} {blk:Bk} {T:Wd} {k page:Nat} (h:RadK w blk T k page) {l p b:Nat} (hb:blk l p=some b):w.cell? ⟨b,32,none⟩=some (.int .u16 (hasW (sub blk T l p):Nat)):=by
 rw [(h.node l p b hb).cell,ζa];exact nodeL_has _ _ _
def getT (T:Wd) (n:Int):Option Nat:=if 0≤n∧n < 65536 then T n.toNat else none
theorem rdget_any (rb:Nat) (blk:Bk) (T:Wd) (page:Nat) (n:Int) (w:World) (h:RadK w blk T 0 page) (hr:blk 0 0=some rb) :
 Calls Tryz.prog 108 #[.pointer (some ⟨rb,0,none⟩),.int .i64 n] w fun e w'=>e=.returned (.tuple #[.int .u64 ((getT T n).getD 0:Nat),.bool (getT T n).isSome])∧Mod (fun _=>False) w w':=by
 obtain ⟨R,hR⟩:∃ R,R=getT T n:=⟨_,rfl⟩
 rw [←hR]
 unfold getT at hR
 have hri:=rdright_any n w
 by_cases hn:0≤n∧n < 65536
 · rw [if_pos hn] at hR
   rw [decide_eq_true hn.1,decide_eq_true hn.2,Bool.true_and] at hri
   obtain ⟨q,rfl⟩:∃ q:Nat,n=q:=⟨n.toNat,by omega⟩
   have hq:q < 65536:=by omega
   rw [Int.toNat_natCast] at hR
   have HR:=ζh hR
   have HH:=ζh h
   have HB:=ζh hr
   have HRI:=ζh hri
   clear hR h hr hri hn
   go_enter Tryz.func108,Tryz.ntmps108
   go_wp2_with fail
   refine HRI.out.mono ?_
   rintro e w1 ⟨rfl,rfl⟩
   go_wp2_with fail
   go_loopw [6,15] (fun p i wr=>∃ (k b:Nat),k≤3∧i=.int .i64 k∧p=.pointer (some ⟨b,0,none⟩)∧Hid (blk k (pfx q k)=some b)∧Mod (fun _=>False) w wr) (fun _ i _=>3 - (intOf i).toNat)
   case atStart=>exact ⟨0,rb,by omega,rfl,rfl,ζh (by rw [pfx_zero hq];exact HB.out),Mod.refl _ _⟩
   case round =>
    obtain ⟨k,b,hk,rfl,rfl,HBK,hm⟩:=hrel
    by_cases h3:k < 3
    · have d3:decide ((k:Int) < 3)=true:=decide_eq_true (by omega)
      have hdg:=fun w=>digit_any q k hq (by omega) w
      have HDG:=ζh hdg
      clear hdg
      have hdl:=dig_lt q k
      have hc:=(HH.out.keep hm (fun _ _ _ _ x=>x)).kid HBK.out hdl
      have e16:(dig q k:Int) < 16:=by omega
      have e0:(0:Int)≤(dig q k:Int):=by omega
      have hkd:kids blk k (pfx q k) (dig q k)=blk (k+1) (pfx q (k+1)):=by unfold kids;rw [if_pos h3,pfx_dig (by omega)]
      rw [hkd] at hc
      cases hkb:blk (k+1) (pfx q (k+1)) with
      | none =>
        have hTn:T q=none:=by
         have:=(HH.out.has (k+1) (pfx q (k+1)) (by omega) (by omega))
         rw [hkb] at this
         cases ht:T q with
         | none=>rfl
         | some x=>exact absurd (this.2 (.inl ⟨q,rfl,by rw [ht];rfl⟩)) (by simp)
        have hr:R=none:=by rw [HR.out,hTn]
        have HRN:=ζh hr
        rw [hkb] at hc
        unfold kidV at hc
        clear hr hkd hkb hTn
        go_wp2_with fail
        go_quiet ((go_at_call 179;exact quiet_same (HDG.out _)))
        go_wp2_with fail
        go_ret2
        rw [HRN.out]
        exact ⟨rfl,hm.drewN _⟩
      | some b' =>
        rw [hkb] at hc
        unfold kidV at hc
        have HKB:=ζh hkb
        clear hkd hkb
        go_wp2_with fail
        go_quiet ((go_at_call 179;exact quiet_same (HDG.out _)))
        go_wp2_with fail
        go_roundw
        case rel=>exact ⟨k+1,b',by omega,by go_num,rfl,HKB,hm.drewN _⟩
        case measure=>simp [intOf];omega
    · obtain rfl:k=3:=by omega
      have hdg:=fun w=>digit_any q 3 hq (by omega) w
      have HDG:=ζh hdg
      clear hdg
      have hdl:=dig_lt q 3
      have e16:(dig q 3:Int) < 16:=by omega
      have e0:(0:Int)≤(dig q 3:Int):=by omega
      have hwc:=(HH.out.keep hm (fun _ _ _ _ x=>x)).word HBK.out hdl
      have hhc:=(HH.out.keep hm (fun _ _ _ _ x=>x)).hasc HBK.out
      have hpq:16 * pfx q 3+dig q 3=q:=by rw [←pfx_dig (by omega),pfx_four]
      unfold wrds at hwc
      rw [if_neg (by omega),hpq] at hwc
      go_wp2_with fail
      refine (HDG.out _).mono ?_
      rintro e w2 ⟨rfl,rfl⟩
      go_wp2_with fail
      go_quiet (fail)
      go_wp2_with fail
      go_ret2
      have ht:=hasW_test (sub blk T 3 (pfx q 3)) hdl
      have hs:sub blk T 3 (pfx q 3) (dig q 3)=(T q).isSome:=by unfold sub;rw [if_neg (by omega),hpq]
      rw [hs] at ht
      rw [HR.out]
      refine ⟨?_,hm.drewN _⟩
      simp only [Array.getD_eq_getD_getElem?] at *
      cases hT:T q with
      | none=>rw [hT] at ht;simp at ht;simp [ht,hT]
      | some x=>rw [hT] at ht;simp at ht;simp [ht,hT]
 · rw [if_neg hn] at hR
   have hf:(decide (0≤n)&&decide (n < 65536))=false:=by
    rw [Bool.eq_false_iff];simp only [ne_eq,Bool.and_eq_true,decide_eq_true_eq];exact hn
   rw [hf] at hri
   subst hR
   have HRI:=ζh hri
   clear hri h hr hn hf
   go_enter Tryz.func108,Tryz.ntmps108
   go_wp2_with fail
   refine HRI.out.mono ?_
   rintro e w1 ⟨rfl,rfl⟩
   go_wp2_with fail
   go_ret2
   exact ⟨rfl,Mod.refl _ _⟩
end

section
open Go.RowKit Go.Shelf
attribute [local go_sem] Oper.semAt_some
def upd2 (blk:Bk) (l p:Nat) (x:Option Nat):Bk:=fun l' p'=>if l'=l∧p'=p then x else blk l' p'
theorem upd2_same (blk:Bk) (l p:Nat) (x:Option Nat):upd2 blk l p x l p=x:=if_pos ⟨rfl,rfl⟩
theorem upd2_ne (blk:Bk) {l p l' p':Nat} (x:Option Nat) (h:¬ (l'=l∧p'=p)):upd2 blk l p x l' p'=blk l' p':=if_neg h
def RadF (blk:Bk) (b:Nat):Prop:=∃ l p,blk l p=some b
theorem RadK.weak {w:World} {blk:Bk} {T:Wd} {k page:Nat} (h:RadK w blk T k page) (q:Nat) {k':Nat} (hq:∀ l,1≤l→l≤3→l≤k'→(blk l (pfx q l)).isSome=true) (hp:∀ l,1≤l→l≤3→l≤k→(∃ q',pfx q' l=pfx page l∧(T q').isSome)∨(l≤k'∧pfx q l=pfx page l)):RadK w blk T k' q:=by
 refine ⟨h.node,h.inj,h.root,h.lev,fun l p h1 h3=>?_,h.fit⟩
 constructor
 · intro hs
   rcases (h.has l p h1 h3).1 hs with hh | ⟨hk,rfl⟩
   · exact .inl hh
   · rcases hp l h1 h3 hk with hh | hh
     · exact .inl hh
     · exact .inr ⟨hh.1,hh.2⟩
 · rintro (hh | ⟨hk,rfl⟩)
   · exact (h.has l p h1 h3).2 (.inl hh)
   · exact hq l h1 h3 hk
theorem hasW_bor (f:Nat→Bool) {d:Nat} (hd:d < 16):bits .or .u16 ((hasW f:Nat):Int) (IntKind.u16.wrap (2 ^ d))=((hasW (upd f d true):Nat):Int):=by
 have h2:(2:Nat) ^ d < 65536:=Nat.pow_lt_pow_right (by decide) hd
 have e:IntKind.u16.wrap ((2:Int) ^ d)=((2 ^ d:Nat):Int):=by
  have:=wrapU16 (2 ^ d) h2
  rw [←this];push_cast;rfl
 rw [e,or_16 _ _ (hasW_lt f) h2,hasW_or f hd]
theorem Blk.setSame {w:World} {b:Nat} {cs:Array Value} {T:TypeId} (h:Blk w b cs T) {j:Nat} {v:Value} (hv:cs[j]?=some v):Blk (w.setCell ⟨b,j,none⟩ v) b cs T:=by
 have h1:=h.set j v
 have e:cs.setIfInBounds j v=cs:=by
  apply Array.ext_getElem?
  intro i
  rw [Array.getElem?_setIfInBounds]
  split
  · subst_vars
    split
    · exact hv.symm
    · rename_i h9;rw [Array.getElem?_eq_none (by omega)]
  · rfl
 rwa [e] at h1
theorem RadK.replace {w w':World} {blk:Bk} {T:Wd} {k page l p b:Nat} (h:RadK w blk T k page) (hb:blk l p=some b) (hm:Mod (fun i=>i=b) w w') (hn:Blk w' b (nodeC blk T l p).toArray (nodeT l)):RadK w' blk T k page:=by
 refine ⟨fun l' p' b' hb'=>?_,h.inj,h.root,h.lev,h.has,h.fit⟩
 by_cases e:b'=b
 · subst e
   obtain ⟨rfl,rfl⟩:=h.inj _ _ _ _ _ hb hb'
   exact hn
 · exact (h.node l' p' b' hb').keep hm e
theorem RadK.sameHas {w:World} {blk:Bk} {T:Wd} {k page l p b:Nat} (h:RadK w blk T k page) (hb:blk l p=some b):RadK (w.setCell ⟨b,32,none⟩ (.int .u16 (hasW (sub blk T l p):Nat))) blk T k page :=
 h.replace hb (mod_setCell _ _ _ _) ((h.node l p b hb).setSame (by rw [ζa];exact nodeL_has _ _ _))
theorem nodeL_congr {k k':Nat→Option Nat} {v v':Nat→Nat} {h h':Nat→Bool} (e1:∀ d,d < 16→k d=k' d) (e2:∀ d,d < 16→v d=v' d) (e3:∀ d,d < 16→h d=h' d):nodeL k v h=nodeL k' v' h':=by
 unfold nodeL hasW
 rw [List.map_congr_left (f:=fun d=>kidV (k d)) (g:=fun d=>kidV (k' d)) (fun d hd=>by rw [e1 d (List.mem_range.1 hd)]),
  List.map_congr_left (f:=fun d=>Value.int .u64 (v d:Nat)) (g:=fun d=>Value.int .u64 (v' d:Nat)) (fun d hd=>by rw [e2 d (List.mem_range.1 hd)]),
  List.map_congr_left (f:=h) (g:=h') (fun d hd=>e3 d (List.mem_range.1 hd))]
theorem pfx_up {q l p d:Nat} (hl:l≤3) (hd:d < 16) (h:pfx q (l+1)=16 * p+d):pfx q l=p∧dig q l=d:=by
 rw [pfx_dig hl] at h
 have:=dig_lt q l
 omega
theorem RadK.grow {w w':World} {blk:Bk} {T:Wd} {k q b g:Nat} (h:RadK w blk T k q) (hb:blk k (pfx q k)=some b) (hk:k < 3) (hkb:blk (k+1) (pfx q (k+1))=none) (hg:w.heap.size≤g)
 (hm:Mod (fun i=>i=b) w w') (hn:Blk w' b (nodeL (upd (kids blk k (pfx q k)) (dig q k) (some g)) (wrds T k (pfx q k)) (upd (sub blk T k (pfx q k)) (dig q k) true)).toArray (nodeT k))
 (hz:Blk w' g (nodeL (fun _=>none) (fun _=>0) (fun _=>false)).toArray 215) :
 RadK w' (upd2 blk (k+1) (pfx q (k+1)) (some g)) T (k+1) q:=by
 have hno:∀ q',pfx q' (k+1)=pfx q (k+1)→(T q').isSome=true→False:=fun q' h1 h2=>by
  have:=(h.has (k+1) (pfx q (k+1)) (by omega) (by omega)).2 (.inl ⟨q',h1,h2⟩)
  rw [hkb] at this;cases this
 have hgn:∀ l p,blk l p≠some g:=fun l p e=>by have:=(h.node l p g e).lt;omega
 have hpd:=pfx_dig (q:=q) (l:=k) (by omega)
 have hdl:=dig_lt q k
 have hk0:∀ d,d < 16→k+1 < 3→blk (k+1+1) (16 * pfx q (k+1)+d)=none:=fun d hd h3=>by
  cases hx:blk (k+1+1) (16 * pfx q (k+1)+d) with
  | none=>rfl
  | some y =>
    rcases (h.has (k+1+1) _ (by omega) (by omega)).1 (by rw [hx];rfl) with ⟨q',h1,h2⟩ | ⟨h1,_⟩
    · exact (hno q' (pfx_up (by omega) hd h1).1 h2).elim
    · omega
 have hT0:∀ d,d < 16→¬ (k+1 < 3)→T (16 * pfx q (k+1)+d)=none:=fun d hd h3=>by
  cases hx:T (16 * pfx q (k+1)+d) with
  | none=>rfl
  | some y =>
    obtain rfl:k=2:=by omega
    exact (hno (16 * pfx q 3+d) (by unfold pfx;omega) (by rw [hx];rfl)).elim
 refine ⟨fun l p b' hb'=>?_,fun l p l' p' b' h1 h2=>?_,?_,fun l p hs=>?_,fun l p h1 h3=>?_,h.fit⟩
 · by_cases e1:l=k+1∧p=pfx q (k+1)
   · obtain ⟨rfl,rfl⟩:=e1
     rw [upd2_same] at hb'
     injection hb' with hb'
     subst hb'
     unfold nodeC nodeT
     rw [if_neg (by omega),nodeL_congr (k':=fun _=>none) (v':=fun _=>0) (h':=fun _=>false)]
     · exact hz
     · intro d hd
       unfold kids
       split
       · rename_i h3;rw [upd2_ne _ _ (by omega)];exact hk0 d hd h3
       · rfl
     · intro d hd
       unfold wrds
       split
       · rfl
       · rename_i h3;rw [hT0 d hd h3];rfl
     · intro d hd
       unfold sub
       split
       · rename_i h3;rw [upd2_ne _ _ (by omega),hk0 d hd h3];rfl
       · rename_i h3;rw [hT0 d hd h3];rfl
   · rw [upd2_ne _ _ e1] at hb'
     by_cases e2:l=k∧p=pfx q k
     · obtain ⟨rfl,rfl⟩:=e2
       rw [hb] at hb'
       injection hb' with hb'
       subst hb'
       unfold nodeC
       rw [nodeL_congr (k':=upd (kids blk l (pfx q l)) (dig q l) (some g)) (v':=wrds T l (pfx q l)) (h':=upd (sub blk T l (pfx q l)) (dig q l) true)]
       · exact hn
       · intro d hd
         unfold kids upd
         simp only [if_pos hk]
         by_cases e:d=dig q l
         · subst e;rw [←hpd,upd2_same,if_pos rfl]
         · rw [upd2_ne _ _ (by omega),if_neg e]
       · intro d hd;rfl
       · intro d hd
         unfold sub upd
         simp only [if_pos hk]
         by_cases e:d=dig q l
         · subst e;rw [←hpd,upd2_same,if_pos rfl];rfl
         · rw [upd2_ne _ _ (by omega),if_neg e]
     · have hne:b'≠b:=fun e=>by
        subst e
        obtain ⟨rfl,rfl⟩:=h.inj _ _ _ _ _ hb hb'
        exact e2 ⟨rfl,rfl⟩
       have:=(h.node l p b' hb').keep hm hne
       unfold nodeC at this ⊢
       rw [nodeL_congr (k':=kids blk l p) (v':=wrds T l p) (h':=sub blk T l p)]
       · exact this
       · intro d hd
         unfold kids
         split
         · rw [upd2_ne _ _ (fun a=>e2 (by obtain ⟨a1,a2⟩:=a;obtain rfl:l=k:=(by omega);rw [hpd] at a2;exact ⟨rfl,by omega⟩))]
         · rfl
       · intro d hd;rfl
       · intro d hd
         unfold sub
         split
         · rw [upd2_ne _ _ (fun a=>e2 (by obtain ⟨a1,a2⟩:=a;obtain rfl:l=k:=(by omega);rw [hpd] at a2;exact ⟨rfl,by omega⟩))]
         · rfl
 · by_cases e1:l=k+1∧p=pfx q (k+1)
   · obtain ⟨rfl,rfl⟩:=e1
     rw [upd2_same] at h1
     injection h1 with h1
     subst h1
     by_cases e2:l'=k+1∧p'=pfx q (k+1)
     · exact ⟨e2.1.symm,e2.2.symm⟩
     · rw [upd2_ne _ _ e2] at h2;exact (hgn _ _ h2).elim
   · rw [upd2_ne _ _ e1] at h1
     by_cases e2:l'=k+1∧p'=pfx q (k+1)
     · obtain ⟨rfl,rfl⟩:=e2
       rw [upd2_same] at h2
       injection h2 with h2
       subst h2
       exact (hgn _ _ h1).elim
     · rw [upd2_ne _ _ e2] at h2;exact h.inj _ _ _ _ _ h1 h2
 · rw [upd2_ne _ _ (by omega)];exact h.root
 · by_cases e1:l=k+1∧p=pfx q (k+1)
   · exact ⟨by omega,by omega⟩
   · rw [upd2_ne _ _ e1] at hs;exact h.lev l p hs
 · by_cases e1:l=k+1∧p=pfx q (k+1)
   · obtain ⟨rfl,rfl⟩:=e1
     rw [upd2_same]
     exact ⟨fun _=>.inr ⟨Nat.le_refl _,rfl⟩,fun _=>rfl⟩
   · rw [upd2_ne _ _ e1,h.has l p h1 h3]
     constructor
     · rintro (hh | ⟨a1,a2⟩)
       · exact .inl hh
       · exact .inr ⟨by omega,a2⟩
     · rintro (hh | ⟨a1,a2⟩)
       · exact .inl hh
       · refine .inr ⟨?_,a2⟩
         by_cases e:l=k+1
         · exact (e1 ⟨e,by subst e;exact a2.symm⟩).elim
         · omega
theorem nodeC_low {blk:Bk} {T T':Wd} {l p:Nat} (hl:l < 3):nodeC blk T' l p=nodeC blk T l p:=by
 unfold nodeC
 exact nodeL_congr (fun d _=>rfl) (fun d _=>by unfold wrds;rw [if_pos hl,if_pos hl]) (fun d _=>by unfold sub;rw [if_pos hl,if_pos hl])
theorem nodeC_other {blk:Bk} {T:Wd} {p q:Nat} {x:Option Nat} (hp:p≠pfx q 3):nodeC blk (upd T q x) 3 p=nodeC blk T 3 p:=by
 have hne:∀ d,d < 16→16 * p+d≠q:=fun d hd e=>hp (by unfold pfx;omega)
 unfold nodeC
 exact nodeL_congr (fun d _=>rfl) (fun d hd=>by unfold wrds;rw [upd_ne _ _ (hne d hd)]) (fun d hd=>by unfold sub;rw [upd_ne _ _ (hne d hd)])
theorem nodeC_here {blk:Bk} {T:Wd} {q:Nat} {x:Option Nat}:nodeC blk (upd T q x) 3 (pfx q 3)=nodeL (kids blk 3 (pfx q 3)) (upd (wrds T 3 (pfx q 3)) (dig q 3) (x.getD 0)) (upd (sub blk T 3 (pfx q 3)) (dig q 3) x.isSome):=by
 have hpq:16 * pfx q 3+dig q 3=q:=by rw [←pfx_dig (by omega),pfx_four]
 unfold nodeC
 refine nodeL_congr (fun d _=>rfl) (fun d hd=>?_) (fun d hd=>?_)
 · by_cases e:d=dig q 3
   · subst e;rw [upd_same];unfold wrds;rw [if_neg (by omega),hpq,upd_same]
   · rw [upd_ne _ _ e];unfold wrds;rw [if_neg (by omega),if_neg (by omega),upd_ne _ _ (by omega)]
 · by_cases e:d=dig q 3
   · subst e;rw [upd_same];unfold sub;rw [if_neg (by omega),hpq,upd_same]
   · rw [upd_ne _ _ e];unfold sub;rw [if_neg (by omega),if_neg (by omega),upd_ne _ _ (by omega)]
theorem RadK.put {w w':World} {blk:Bk} {T:Wd} {q b x:Nat} (h:RadK w blk T 3 q) (hb:blk 3 (pfx q 3)=some b) (hq:q < 65536) (hx:x < 2 ^ 64) (hm:Mod (fun i=>i=b) w w')
 (hn:Blk w' b (nodeL (kids blk 3 (pfx q 3)) (upd (wrds T 3 (pfx q 3)) (dig q 3) x) (upd (sub blk T 3 (pfx q 3)) (dig q 3) true)).toArray (nodeT 3)) (page:Nat):RadK w' blk (upd T q (some x)) 0 page:=by
 refine ⟨fun l p b' hb'=>?_,h.inj,h.root,h.lev,fun l p h1 h3=>?_,fun q' x' hx'=>?_⟩
 · by_cases e:b'=b
   · subst e
     obtain ⟨rfl,rfl⟩:=h.inj _ _ _ _ _ hb hb'
     rw [nodeC_here];exact hn
   · have hk:=(h.node l p b' hb').keep hm e
     have hl:=(h.lev l p (by rw [hb'];rfl)).1
     by_cases h3:l < 3
     · rw [nodeC_low h3];exact hk
     · obtain rfl:l=3:=by omega
       rw [nodeC_other]
       · exact hk
       · rintro rfl
         rw [hb] at hb'
         injection hb' with hb'
         exact e hb'.symm
 · rw [h.has l p h1 h3]
   constructor
   · rintro (⟨q',e1,e2⟩ | ⟨_,rfl⟩)
     · refine .inl ⟨q',e1,?_⟩
       unfold upd;split
       · rfl
       · exact e2
     · exact .inl ⟨q,rfl,by rw [upd_same];rfl⟩
   · rintro (⟨q',e1,e2⟩ | ⟨e1,_⟩)
     · by_cases e:q'=q
       · subst e;exact .inr ⟨h3,e1⟩
       · rw [upd_ne _ _ e] at e2;exact .inl ⟨q',e1,e2⟩
     · omega
 · by_cases e:q'=q
   · subst e
     rw [upd_same] at hx'
     injection hx' with hx'
     subst hx'
     exact ⟨hq,hx⟩
   · rw [upd_ne _ _ e] at hx';exact h.fit q' x' hx'
theorem rdset_any (rb:Nat) (blk:Bk) (T:Wd) (page q x:Nat) (w:World) (h:RadK w blk T 0 page) (hr:blk 0 0=some rb) (hq:q < 65536) (hx:x < 2 ^ 64) :
 Calls Tryz.prog 119 #[.pointer (some ⟨rb,0,none⟩),.int .i64 q,.int .u64 x] w fun e w'=>e=.returned (.int .i64 0) ∧
  ∃ blk',blk' 0 0=some rb∧RadK w' blk' (upd T q (some x)) 0 page∧Mod (RadF blk) w w'∧(∀ l p b,blk' l p=some b→blk l p=some b∨w.heap.size≤b):=by
 have hri:=rdright_any q w
 rw [show (decide (0≤(q:Int))&&decide ((q:Int) < 65536))=true by simp;omega] at hri
 have HH:=ζh h
 have HB:=ζh hr
 have HRI:=ζh hri
 clear h hr hri
 go_enter Tryz.func119,Tryz.ntmps119
 go_wp2_with fail
 refine HRI.out.mono ?_
 rintro e w1 ⟨rfl,rfl⟩
 go_wp2_with fail
 go_loopw [7,17] (fun p i wr=>∃ (k b:Nat) (bk:Bk),k≤3∧i=.int .i64 k∧p=.pointer (some ⟨b,0,none⟩)∧Hid (bk k (pfx q k)=some b)∧Hid (bk 0 0=some rb)∧Hid (RadK wr bk T k q)∧Hid (Mod (RadF blk) w wr)∧Hid (∀ l p b,bk l p=some b→blk l p=some b∨w.heap.size≤b)) (fun _ i _=>3 - (intOf i).toNat)
 case atStart=>exact ⟨0,rb,blk,by omega,rfl,rfl,ζh (by rw [pfx_zero hq];exact HB.out),HB,ζh (HH.out.weak q (fun l h1 _ h0=>by omega) (fun l h1 _ h0=>by omega)),ζh (Mod.refl _ _),ζh (fun l p b hb=>.inl hb)⟩
 case round =>
  obtain ⟨k,b,bk,hk,rfl,rfl,HBK,HRB,HK,HM,HF⟩:=hrel
  by_cases h3:k < 3
  · have d3:decide ((k:Int) < 3)=true:=decide_eq_true (by omega)
    have hdg:=fun w=>digit_any q k hq (by omega) w
    have HDG:=ζh hdg
    clear hdg
    have hdl:=dig_lt q k
    have e16:(dig q k:Int) < 16:=by omega
    have e0:(0:Int)≤(dig q k:Int):=by omega
    have hc:=HK.out.kid HBK.out hdl
    have hhc:=HK.out.hasc HBK.out
    have hz:=(HK.out.node _ _ _ HBK.out).frozen (dig q k)
    have hz2:=(HK.out.node _ _ _ HBK.out).frozen 32
    have hkd:kids bk k (pfx q k) (dig q k)=bk (k+1) (pfx q (k+1)):=by unfold kids;rw [if_pos h3,pfx_dig (by omega)]
    rw [hkd] at hc
    cases hkb:bk (k+1) (pfx q (k+1)) with
    | none =>
      rw [hkb] at hc
      unfold kidV at hc
      have HKB:=ζh hkb
      have hza:=fun o=>((HK.out.node _ _ _ HBK.out).alloc o).frozen (dig q k)
      have HNB:=ζh (HK.out.node _ _ _ HBK.out)
      have hca:∀ o,(wr.alloc o).cell? ⟨b,dig q k,none⟩=some (.pointer none):=fun o=>by
       have:=((HK.out.node _ _ _ HBK.out).alloc o).cell (dig q k)
       rw [ζa] at this
       rw [this,←hc,(HK.out.node _ _ _ HBK.out).cell,ζa]
      clear hkd hkb
      go_wp2_with fail
      refine (HDG.out _).mono ?_
      rintro e w2 ⟨rfl,rfl⟩
      go_upto_region 10 with fail
      obtain ⟨g,hg⟩:∃ g,g=wr.heap.size:=⟨_,rfl⟩
      have hb3:=(HNB.out.alloc (.cells (nodeL (fun _=>none) (fun _=>0) (fun _=>false)).toArray 215)).set (dig q k) (kidV (some g))
      have hne:g≠b:=by have:=HNB.out.lt;omega
      have hz3:=(Blk.new wr (nodeL (fun _=>none) (fun _=>0) (fun _=>false)).toArray 215).setOther ⟨b,dig q k,none⟩ (kidV (some g)) (by simpa [←hg] using hne)
      have hm3:=((Mod.refl (fun i=>i=b) wr).alloc (.cells (nodeL (fun _=>none) (fun _=>0) (fun _=>false)).toArray 215)).trans (mod_setCell _ b (dig q k) (kidV (some g)))
      unfold nodeC at hb3
      rw [List.setIfInBounds_toArray,nodeL_setKid _ _ _ hdl] at hb3
      rw [←hg] at hz3 ⊢
      obtain ⟨w3,hw3⟩:∃ w3,w3=(wr.alloc (.cells (nodeL (fun _=>none) (fun _=>0) (fun _=>false)).toArray 215)).setCell ⟨b,dig q k,none⟩ (kidV (some g)):=⟨_,rfl⟩
      rw [←hw3] at hb3 hz3 hm3
      have hw3':w3=(wr.alloc (.cells #[.pointer none,.pointer none,.pointer none,.pointer none,.pointer none,.pointer none,.pointer none,.pointer none,.pointer none,.pointer none,.pointer none,.pointer none,.pointer none,.pointer none,.pointer none,.pointer none,.int .u64 0,.int .u64 0,.int .u64 0,.int .u64 0,.int .u64 0,.int .u64 0,.int .u64 0,.int .u64 0,.int .u64 0,.int .u64 0,.int .u64 0,.int .u64 0,.int .u64 0,.int .u64 0,.int .u64 0,.int .u64 0,.int .u16 0] 215)).setCell ⟨b,dig q k,none⟩ (.pointer (some ⟨g,0,none⟩)):=hw3
      rw [←hw3']
      have hor:=hasW_bor (sub bk T k (pfx q k)) hdl
      have c32:=hb3.cell 32
      rw [ζa,nodeL_has] at c32
      have f32:=hb3.frozen 32
      have hb4:=hb3.set 32 (.int .u16 (hasW (upd (sub bk T k (pfx q k)) (dig q k) true):Nat))
      rw [List.setIfInBounds_toArray,nodeL_setHas] at hb4
      have hz4:=hz3.setOther ⟨b,32,none⟩ (.int .u16 (hasW (upd (sub bk T k (pfx q k)) (dig q k) true):Nat)) hne
      have hm4:=hm3.trans (mod_setCell w3 b 32 (.int .u16 (hasW (upd (sub bk T k (pfx q k)) (dig q k) true):Nat)))
      have cd:=hb4.cell (dig q k)
      rw [ζa,nodeL_kid _ _ _ hdl,upd_same] at cd
      unfold kidV at cd
      have HGR:=ζh (HK.out.grow HBK.out h3 HKB.out (by omega) hm4 hb4 hz4)
      have HMP:=ζh (HM.out.trans' hm4 (fun i hi e=>by
       subst e
       rcases HF.out _ _ _ HBK.out with hh | hh
       · exact ⟨_,_,hh⟩
       · omega))
      have HGS:Hid (w.heap.size≤g):=ζh (by have:=HM.out.size;omega)
      clear hw3 hw3' hg hb3 hz3 hm3 hb4 hz4 hm4 hc hhc hz hz2 hza hca
      go_upto_region 11 with fail
      clear hor c32 f32
      go_wp2_with fail
      go_roundw
      case rel =>
       refine ⟨k+1,g,upd2 bk (k+1) (pfx q (k+1)) (some g),by omega,by go_num,rfl,ζh (upd2_same _ _ _ _),ζh (by rw [upd2_ne _ _ (by omega)];exact HRB.out),HGR,HMP,ζh (fun l p b9 hb9=>?_)⟩
       by_cases e:l=k+1∧p=pfx q (k+1)
       · obtain ⟨rfl,rfl⟩:=e
         rw [upd2_same] at hb9
         injection hb9 with hb9
         subst hb9
         exact .inr HGS.out
       · rw [upd2_ne _ _ e] at hb9;exact HF.out _ _ _ hb9
      case measure=>simp [intOf];omega
    | some b' =>
      rw [hkb] at hc
      unfold kidV at hc
      have HKB:=ζh hkb
      have hb':=HK.out.sameHas HBK.out
      have hsb:sub bk T k (pfx q k) (dig q k)=true:=by unfold sub;rw [if_pos h3,←pfx_dig (by omega),hkb];rfl
      have hor:=hasW_bor (sub bk T k (pfx q k)) hdl
      rw [upd_eq hsb] at hor
      have HOR:=ζh hor
      have HS:=ζh hb'
      clear hkd hkb hsb hor hb'
      go_wp2_with fail
      refine (HDG.out _).mono ?_
      rintro e w2 ⟨rfl,rfl⟩
      go_wp2_with fail
      go_roundw
      case rel =>
       rw [HOR.out]
       refine ⟨k+1,b',bk,by omega,by go_num,rfl,HKB,HRB,ζh (HS.out.weak q (fun l h1 h3 hk1=>?_) (fun l h1 h3 hk1=>.inr ⟨by omega,rfl⟩)),ζh (HM.out.trans' (mod_setCell _ _ _ _) (fun i hi e=>?_)),HF⟩
       · by_cases e:l=k+1
         · subst e;rw [HKB.out];rfl
         · exact (HK.out.has l _ h1 h3).2 (.inr ⟨by omega,rfl⟩)
       · subst e
         rcases HF.out _ _ _ HBK.out with hh | hh
         · exact ⟨_,_,hh⟩
         · omega
      case measure=>simp [intOf];omega
  · obtain rfl:k=3:=by omega
    have hdg:=fun w=>digit_any q 3 hq (by omega) w
    have HDG:=ζh hdg
    clear hdg
    have hdl:=dig_lt q 3
    have e16:(dig q 3:Int) < 16:=by omega
    have e0:(0:Int)≤(dig q 3:Int):=by omega
    have hwc:=HK.out.word HBK.out hdl
    have hhc:=HK.out.hasc HBK.out
    have hz:=(HK.out.node _ _ _ HBK.out).frozen (16+dig q 3)
    have hz2:=(HK.out.node _ _ _ HBK.out).frozen 32
    go_wp2_with fail
    refine (HDG.out _).mono ?_
    rintro e w2 ⟨rfl,rfl⟩
    go_wp2_with fail
    have hnb:=HK.out.node _ _ _ HBK.out
    have HNB:=ζh hnb
    clear hnb
    go_region
    have hn2:=(HNB.out.set (16+dig q 3) (.int .u64 (x:Nat))).set 32 (.int .u16 (hasW (upd (sub bk T 3 (pfx q 3)) (dig q 3) true):Nat))
    unfold nodeC at hn2
    rw [List.setIfInBounds_toArray,List.setIfInBounds_toArray,nodeL_setWord _ _ _ hdl,nodeL_setHas] at hn2
    have hor:=hasW_bor (sub bk T 3 (pfx q 3)) hdl
    have hmm:=(mod_setCell wr b (16+dig q 3) (.int .u64 (x:Nat))).trans (mod_setCell (wr.setCell ⟨b,16+dig q 3,none⟩ (.int .u64 (x:Nat))) b 32 (.int .u16 (hasW (upd (sub bk T 3 (pfx q 3)) (dig q 3) true):Nat)))
    rw [hor]
    have HKP:=ζh (HK.out.put HBK.out hq hx hmm.drew hn2 page)
    have HMP:=ζh ((HM.out.trans' hmm (fun i hi e=>by
     subst e
     rcases HF.out _ _ _ HBK.out with hh | hh
     · exact ⟨_,_,hh⟩
     · omega)).drew)
    clear hn2 hor hmm hwc hhc hz hz2
    go_wp2_with fail
    go_ret
    exact ⟨rfl,bk,HRB.out,HKP.out,HMP.out,HF.out⟩
end
end Go.Proofs.YtkfoeonggmlebaaGreatDoor
