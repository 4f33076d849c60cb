/-
  Contracts of the program's functions, and plain facts, towards the laws of millpondtop. No condition beyond those that each theorem bears.
-/
import Derived.Test.YtkfoeonggmlebaaGreatDoorRows
import Derived.Test.YtkfoeonggmlebaaGreatDoorQ01
import Derived.Test.YtkfoeonggmlebaaGreatDoorQ03
import Derived.Test.YtkfoeonggmlebaaGreatDoorQAA
set_option maxRecDepth 100000
set_option maxHeartbeats 4000000
namespace Go.Proofs.YtkfoeonggmlebaaGreatDoor
namespace Cnt
open Go.RowKit
abbrev CU:=List (Int × Int)
def prU (c:Cnt):Int × Int:=(c.use,c.limit)
def CntU (w:World) (b:Nat) (U:CU):Prop:=∃ l,CntIs w b l∧CFine l∧l.map prU=U
theorem CntU.keep {S:Nat→Prop} {w w':World} {b:Nat} {U:CU} (h:CntU w b U) (hm:Mod S w w') (hs:¬ S b):CntU w' b U:=by
 obtain ⟨l,h1,h2⟩:=h;exact ⟨l,h1.keep hm hs,h2⟩
theorem CntU.lt {w:World} {b:Nat} {U:CU} (h:CntU w b U):b < w.heap.size:=by obtain ⟨l,h1,h2⟩:=h;exact h1.blk.lt
theorem CntU.len {w:World} {b:Nat} {U:CU} (h:CntU w b U):U.length=64:=by obtain ⟨l,h1,h2,rfl⟩:=h;rw [List.length_map,h1.len]
def ofU (U:CU) (g:Int):Int × Int:=if groupB g then U.getD g.toNat (0,0) else (0,0)
theorem ofU_map (l:List Cnt) (g:Int):ofU (l.map prU) g=prU (ofS l g):=by
 unfold ofU ofS
 split
 · rw [List.getD_eq_getElem?_getD,List.getD_eq_getElem?_getD,List.getElem?_map]
   cases l[g.toNat]?<;>rfl
 · rfl
def fullU (U:CU):List Int→Int
 | []=>-1
 | g::r=>if (ofU U g).2 < (ofU U g).1+1 then g else fullU U r
def lessU (U:CU) (n:Int) (c:List Int):Bool:=c.any fun g=>decide ((ofU U g).1 < n)
def addU (n:Int) (U:CU) (g:Int):CU:=U.set g.toNat ((ofU U g).1+n,(ofU U g).2)
def tryGU (U:CU) (c:List Int):Int:=if chainB c then fullU U c else -1
def tryEU (U:CU) (c:List Int):Int:=if chainB c then (if 0≤fullU U c then 22 else 0) else 1
def tryU (U:CU) (c:List Int):CU:=if chainB c&&!decide (0≤fullU U c) then c.foldl (addU 1) U else U
def giveU (U:CU) (c:List Int) (n:Int):CU:=if rightB c n&&!lessU U n c then c.foldl (addU (-n)) U else U
def limU (U:CU) (g n:Int):CU:=if groupB g&&amountB n then U.set g.toNat ((ofU U g).1,n) else U
theorem rightB_one (c:List Int):rightB c 1=chainB c:=by unfold rightB;rw [show amountB 1=true from rfl,Bool.and_true]
theorem fullU_map (l:List Cnt) (c:List Int):fullU (l.map prU) c=firstS l (tryP 1) c:=by
 induction c with
 | nil=>rfl
 | cons g r ih =>
   simp only [fullU,firstS,ofU_map,ih,tryP,prU]
   simp
theorem lessU_map (l:List Cnt) (n:Int) (c:List Int) (h0:∀ g∈c,0≤g):lessU (l.map prU) n c=decide (0≤firstS l (giveP n) c):=by
 induction c with
 | nil=>rfl
 | cons g r ih =>
   have ih:=ih (fun x hx=>h0 x (List.mem_cons_of_mem _ hx))
   unfold lessU at *
   simp only [ofU_map,prU] at ih
   simp only [List.any_cons,firstS,ofU_map,prU,ih]
   by_cases h:(ofS l g).use < n
   · simp [h,giveP,h0 g List.mem_cons_self]
   · simp [h,giveP]
theorem set_map (l:List Cnt) (g:Int) (c:Cnt):(l.set g.toNat c).map prU=(l.map prU).set g.toNat (prU c):=by rw [List.map_set]
theorem up_map (n:Int) (c:List Int):∀ l:List Cnt,(c.foldl (upUse n) l).map prU=c.foldl (addU n) (l.map prU):=by
 induction c with
 | nil=>intro l;rfl
 | cons g c ih =>
   intro l
   rw [List.foldl_cons,List.foldl_cons,ih]
   congr 1
   unfold upUse addU
   rw [set_map,ofU_map];rfl
theorem down_map (n:Int) (c:List Int):∀ l:List Cnt,(c.foldl (downUse n) l).map prU=c.foldl (addU (-n)) (l.map prU):=by
 induction c with
 | nil=>intro l;rfl
 | cons g c ih =>
   intro l
   rw [List.foldl_cons,List.foldl_cons,ih]
   congr 1
   unfold downUse addU
   rw [set_map,ofU_map];rfl
theorem CFine.of {l:List Cnt} (hl:l.length=64) (h:∀ g,groupB g=true→(ofS l g).fine):CFine l:=by
 intro c hc
 obtain ⟨k,hk⟩:=List.getElem?_of_mem hc
 have hlt:=(ζi.1 hk).1
 have hg:groupB (k:Int)=true:=by unfold groupB;simp;omega
 have:=h k hg
 unfold ofS at this
 rw [if_pos hg,Int.toNat_natCast,List.getD_eq_getElem?_getD,hk] at this
 exact this
theorem fine_set {l:List Cnt} (h:CFine l) (k:Nat) {c:Cnt} (hc:c.fine):CFine (l.set k c):=by
 intro x hx
 rcases List.mem_or_eq_of_mem_set hx with h' | h'
 · exact h x h'
 · rw [h'];exact hc
theorem tryW_fine {l:List Cnt} (hl:l.length=64) (h:CFine l) (c:List Int):CFine (tryW l c 1):=by
 unfold tryW
 split
 · rename_i hr
   obtain ⟨hgs,hnd,_,_⟩:=rightB_groups hr
   split
   · refine fine_set h _ ?_
     have:=ofS_fine h (firstS l (tryP 1) c)
     exact this
   · rename_i hno
     have hno:firstS l (tryP 1) c=-1:=by
      rcases firstS_mem l (tryP 1) c with h' | ⟨h',_⟩
      · exact h'
      · have:=groupB_nonneg (hgs _ h');omega
     have hall:=firstS_all hno (fun x hx=>groupB_nonneg (hgs x hx))
     refine CFine.of (by rw [foldl_len (upUse_len 1)];exact hl) (fun g hg=>?_)
     have hat:=foldl_at (f:=upUse 1) (u:=upC 1) (upUse_len 1) (upUse_other 1) (fun l g hl hg=>upUse_at 1 l g hl hg) c
     by_cases hm:g∈c
     · have e:=hat g l hl hgs hnd
       rw [e,if_pos hm]
       have hp:=hall g hm
       have hf:=ofS_fine h g
       unfold tryP at hp
       simp at hp
       unfold Cnt.fine at hf ⊢
       unfold upC
       simp only
       omega
     · have e:=hat g l hl hgs hnd
       rw [e,if_neg hm]
       exact ofS_fine h g
 · exact h
theorem giveS_fine {l:List Cnt} (hl:l.length=64) (h:CFine l) (c:List Int) (n:Int):CFine (giveS l c n):=by
 unfold giveS
 split
 · rename_i hr
   obtain ⟨hgs,hnd,hn,_⟩:=rightB_groups hr
   split
   · exact h
   · rename_i hno
     have hno:firstS l (giveP n) c=-1:=by
      rcases firstS_mem l (giveP n) c with h' | ⟨h',_⟩
      · exact h'
      · have:=groupB_nonneg (hgs _ h');omega
     have hall:=firstS_give hno (fun x hx=>groupB_nonneg (hgs x hx))
     refine CFine.of (by rw [foldl_len (downUse_len n)];exact hl) (fun g hg=>?_)
     have hat:=foldl_at (f:=downUse n) (u:=downC n) (downUse_len n) (downUse_other n) (fun l g hl hg=>downUse_at n l g hl hg) c
     by_cases hm:g∈c
     · have e:=hat g l hl hgs hnd
       rw [e,if_pos hm]
       have hp:=hall g hm
       have hf:=ofS_fine h g
       unfold Cnt.fine at hf ⊢
       unfold downC
       simp only
       omega
     · have e:=hat g l hl hgs hnd
       rw [e,if_neg hm]
       exact ofS_fine h g
 · exact h
theorem ctry_any (b:Nat) (U:CU) (c:List Int) (v:Value) (w:World) (h:CntU w b U) (hc:IntsAt w v c) (hsep:c≠[]→∀ g,v.ownBlock=some g→g≠b) :
 Calls Tryz.prog 253 #[.pointer (some ⟨b,0,none⟩),v,.int .i64 1] w fun e w' =>
  e=.returned (.tuple #[.int .i64 (tryGU U c),.int .i64 (tryEU U c)])∧Mod (fun i=>i=b) w w'∧CntU w' b (tryU U c):=by
 obtain ⟨l,h1,h2,rfl⟩:=h
 refine (tryW_any b l c v 1 w h1 hc h2 hsep).mono ?_
 rintro e w' ⟨rfl,hm,h3⟩
 refine ⟨?_,hm,_,h3,tryW_fine h1.len h2 c,?_⟩
 · unfold tryG tryE tryGU tryEU
   rw [rightB_one,fullU_map]
 · unfold tryW tryU
   rw [rightB_one,fullU_map]
   cases hcb:chainB c
   · rfl
   · by_cases h0:0≤firstS l (tryP 1) c
     · simp only [h0,if_true,decide_true,Bool.not_true,Bool.and_false,Bool.false_eq_true,if_false]
       rw [set_map]
       have e:=ofU_map l (firstS l (tryP 1) c)
       have hg:groupB (firstS l (tryP 1) c)=true:=by
        rcases firstS_mem l (tryP 1) c with h' | ⟨h',_⟩
        · omega
        · unfold chainB at hcb
          simp only [Bool.and_eq_true,List.all_eq_true] at hcb
          exact hcb.1 _ h'
       obtain ⟨k,hk,hk64⟩:=groupB_nat hg
       rw [hk] at e ⊢
       have hl0:=ofS_nat h1.len hk64
       rw [Int.toNat_natCast]
       apply List.ext_getElem?
       intro i
       rw [List.getElem?_set]
       split
       · rename_i hi
         subst hi
         rw [List.getElem?_map,hl0]
         rw [if_pos (by rw [List.length_map,h1.len];exact hk64)]
         rfl
       · rfl
     · simp only [h0,if_true,if_false,decide_false,Bool.not_false,Bool.and_self]
       exact up_map 1 c l
theorem cgive_any (b:Nat) (U:CU) (c:List Int) (n:Int) (v:Value) (w:World) (h:CntU w b U) (hc:IntsAt w v c) (hsep:c≠[]→∀ g,v.ownBlock=some g→g≠b) :
 Calls Tryz.prog 86 #[.pointer (some ⟨b,0,none⟩),v,.int .i64 n] w fun e w' =>
  (∃ x:Int,e=.returned (.int .i64 x))∧Mod (fun i=>i=b) w w'∧CntU w' b (giveU U c n):=by
 obtain ⟨l,h1,h2,rfl⟩:=h
 refine (giveW_any b l c v n w h1 hc h2 hsep).mono ?_
 rintro e w' ⟨rfl,hm,h3⟩
 refine ⟨⟨_,rfl⟩,hm,_,h3,giveS_fine h1.len h2 c n,?_⟩
 unfold giveS giveU
 cases hr:rightB c n
 · rfl
 · obtain ⟨hgs,_,_,_⟩:=rightB_groups hr
   rw [lessU_map l n c (fun g hg=>groupB_nonneg (hgs g hg))]
   by_cases h0:0≤firstS l (giveP n) c
   · simp [h0]
   · simp only [h0,if_true,if_false,decide_false,Bool.not_false,Bool.and_self]
     exact down_map n c l
theorem cuse_any (b:Nat) (U:CU) (g:Int) (w:World) (h:CntU w b U) :
 Calls Tryz.prog 87 #[.pointer (some ⟨b,0,none⟩),.int .i64 g] w fun e w'=>e=.returned (.int .i64 (ofU U g).1)∧Mod (fun _=>False) w w':=by
 obtain ⟨l,h1,h2,rfl⟩:=h
 rw [ofU_map]
 exact use_any b l g w h1
theorem climit_any (b:Nat) (U:CU) (g:Int) (w:World) (h:CntU w b U) :
 Calls Tryz.prog 251 #[.pointer (some ⟨b,0,none⟩),.int .i64 g] w fun e w'=>e=.returned (.int .i64 (ofU U g).2)∧Mod (fun _=>False) w w':=by
 obtain ⟨l,h1,h2,rfl⟩:=h
 rw [ofU_map]
 exact limit_any b l g w h1
theorem csetlim_any (b:Nat) (U:CU) (g n:Int) (w:World) (h:CntU w b U) :
 Calls Tryz.prog 88 #[.pointer (some ⟨b,0,none⟩),.int .i64 g,.int .i64 n] w fun e w'=>e=.returned (.int .i64 (setLimE g n))∧Mod (fun i=>i=b) w w'∧CntU w' b (limU U g n):=by
 obtain ⟨l,h1,h2,rfl⟩:=h
 refine (setLimit_any b l g n w h1).mono ?_
 rintro e w' ⟨rfl,hm,h3⟩
 refine ⟨rfl,hm,_,h3,?_,?_⟩
 · unfold setLimS
   split
   · rename_i hg
     simp only [Bool.and_eq_true] at hg
     refine fine_set h2 _ ?_
     obtain ⟨k,rfl,hk⟩:=groupB_nat hg.1
     have:=ofS_fine h2 (k:Int)
     unfold ofS at this
     rw [if_pos hg.1] at this
     have ha:=hg.2
     unfold amountB at ha
     simp at ha
     unfold Cnt.fine at this ⊢
     simp only
     omega
   · exact h2
 · unfold setLimS limU
   split
   · rename_i hg
     simp only [Bool.and_eq_true] at hg
     rw [List.map_set,ofU_map]
     unfold ofS
     rw [if_pos hg.1];rfl
   · rfl
def newU:CU:=List.replicate 64 (0,1099511627776)
theorem cnew_any (w:World):Calls Tryz.prog 48 #[] w fun e w'=>∃ b,e=.returned (.pointer (some ⟨b,0,none⟩))∧Mod (fun _=>False) w w'∧CntU w' b newU∧w.heap.size≤b:=by
 refine (newC_any w).mono ?_
 rintro e w' ⟨b,rfl,hm,h,hb⟩
 refine ⟨b,rfl,hm,⟨_,h,?_,by simp [newC,newU,prU]⟩,hb⟩
 intro c hc
 rw [show newC=List.replicate 64 ⟨0,1099511627776,0,0⟩ from rfl] at hc
 rw [List.eq_of_mem_replicate hc]
 refine ⟨?_,?_,?_,?_,?_⟩<;>simp
end Cnt

namespace Pol
open Go.RowKit
def packW (l:List Bool):Nat:=l.foldr (fun b r=>(if b then 1 else 0)+2 * r) 0
theorem packW_nil:packW []=0:=rfl
theorem packW_cons (b:Bool) (l:List Bool):packW (b::l)=(if b then 1 else 0)+2 * packW l:=rfl
theorem packW_lt (l:List Bool):packW l < 2 ^ l.length:=by
 induction l with
 | nil=>decide
 | cons b l ih =>
   rw [packW_cons,List.length_cons,Nat.pow_succ]
   cases b<;>simp<;>omega
theorem packW_testBit (l:List Bool):∀ j,(packW l).testBit j=l.getD j false:=by
 induction l with
 | nil=>intro j;simp [packW_nil]
 | cons b l ih =>
   intro j
   rw [packW_cons]
   cases j with
   | zero =>
     rw [Nat.testBit_zero]
     cases b<;>simp<;>omega
   | succ j =>
     rw [Nat.testBit_succ]
     have e:((if b then 1 else 0)+2 * packW l) / 2=packW l:=by cases b<;>simp<;>omega
     rw [e,ih]
     simp
theorem packW_set (l:List Bool) {j:Nat} (hj:j < l.length) (b:Bool) (hb:l.getD j false=!b):packW (l.set j b)=packW l ^^^ 2 ^ j:=by
 apply Nat.eq_of_testBit_eq
 intro i
 rw [Nat.testBit_xor,packW_testBit,packW_testBit,Nat.testBit_two_pow]
 simp only [List.getD_eq_getElem?_getD] at hb ⊢
 rw [List.getElem?_set]
 by_cases hij:j=i
 · subst hij
   simp only [hj,if_true,decide_true]
   rw [hb]
   cases b<;>rfl
 · simp [hij]
theorem packW_and (l:List Bool) (j:Nat):packW l &&& 2 ^ j=if l.getD j false=true then 2 ^ j else 0:=by
 apply Nat.eq_of_testBit_eq
 intro i
 rw [Nat.testBit_and,packW_testBit,Nat.testBit_two_pow]
 by_cases hij:j=i
 · subst hij
   cases l.getD j false<;>simp
 · split<;>simp [hij]
def wordsOf:Nat→List Bool→List Nat
 | 0,_=>[]
 | n+1,l=>packW (l.take 64)::wordsOf n (l.drop 64)
theorem wordsOf_get:∀ n l i,i < n→(wordsOf n l)[i]?=some (packW ((l.drop (64 * i)).take 64)):=by
 intro n
 induction n with
 | zero=>intro l i h;omega
 | succ n ih =>
   intro l i h
   cases i with
   | zero=>rfl
   | succ i =>
     rw [wordsOf,ζc,ih _ _ (by omega),List.drop_drop]
     congr 4
     omega
theorem wordsOf_set:∀ n l i b,i < 64 * n→i < l.length→l.getD i false=!b→wordsOf n (l.set i b)=(wordsOf n l).set (i / 64) (packW ((l.drop (64 * (i / 64))).take 64) ^^^ 2 ^ (i%64)):=by
 intro n
 induction n with
 | zero=>intro l i b h;omega
 | succ n ih =>
   intro l i b h hl hb
   rw [wordsOf,wordsOf]
   by_cases h64:i < 64
   · have e1:i / 64=0:=by omega
     have e2:i%64=i:=by omega
     rw [e1,e2,List.set_cons_zero,Nat.mul_zero,List.drop_zero]
     have e3:(l.set i b).take 64=(l.take 64).set i b:=List.take_set ..
     have e4:(l.set i b).drop 64=l.drop 64:=by rw [List.drop_set,if_pos h64]
     rw [e3,e4,packW_set (l.take 64) (by simp;omega) b]
     rw [←hb]
     simp only [List.getD_eq_getElem?_getD,List.getElem?_take]
     rw [if_pos h64]
   · have e1:i / 64=(i - 64) / 64+1:=by omega
     have e3:(l.set i b).take 64=l.take 64:=by
      rw [List.take_set,List.set_eq_of_length_le (by simp;omega)]
     have e4:(l.set i b).drop 64=(l.drop 64).set (i - 64) b:=by rw [List.drop_set,if_neg h64]
     have e5:=ih (l.drop 64) (i - 64) b (by omega) (by simp;omega) (by
      rw [←hb]
      simp only [List.getD_eq_getElem?_getD,List.getElem?_drop]
      rw [show 64+(i - 64)=i by omega])
     rw [e3,e4,e1,List.set_cons_succ,e5,List.drop_drop,show 64+64 * ((i - 64) / 64)=64 * ((i - 64) / 64+1) by omega,show (i - 64)%64=i%64 by omega]
def freeIx (l:List Bool):Int:=if false∈l then (l.idxOf false:Int) else -1
theorem freeIx_at {l:List Bool} {k:Nat} (h:∀ j,j < k→l.getD j false=true) (hk:l[k]?=some false):freeIx l=k:=by
 unfold freeIx
 rw [if_pos (ζm hk)]
 have hlt:=(ζi.1 hk).1
 have hnot:false∉l.take k:=by
  intro hm
  obtain ⟨i,hi⟩:=List.getElem?_of_mem hm
  rw [List.getElem?_take] at hi
  split at hi
  · rename_i hik
    have:=h i hik
    rw [List.getD_eq_getElem?_getD,hi] at this
    cases this
  · cases hi
 have e:l=l.take k++(false::l.drop (k+1)):=by
  have h1:=(ζi.1 hk).2
  rw [←h1,←List.drop_eq_getElem_cons hlt,List.take_append_drop]
 rw [e,List.idxOf_append,if_neg hnot,List.idxOf_cons_self,List.length_take]
 omega
theorem freeIx_none {l:List Bool} (h:∀ j,j < l.length→l.getD j false=true):freeIx l=-1:=by
 unfold freeIx
 rw [if_neg]
 intro hm
 obtain ⟨i,hi⟩:=List.getElem?_of_mem hm
 have hlt:=(ζi.1 hi).1
 have:=h i hlt
 rw [List.getD_eq_getElem?_getD,hi] at this
 cases this
theorem freeIx_spec (l:List Bool):(freeIx l=-1∧∀ j,j < l.length→l.getD j false=true)∨∃ k:Nat,freeIx l=k∧l[k]?=some false∧∀ j,j < k→l.getD j false=true:=by
 by_cases h:false∈l
 · right
   have hlt:=List.idxOf_lt_length_of_mem h
   refine ⟨l.idxOf false,by unfold freeIx;rw [if_pos h],by rw [ζg hlt,List.getElem_idxOf],fun j hj=>?_⟩
   have hj2:j < l.length:=by omega
   rw [List.getD_eq_getElem?_getD,ζg hj2]
   have:=List.not_of_lt_findIdx (p:=(·==false)) (xs:=l) (i:=j) hj
   simpa using this
 · left
   refine ⟨by unfold freeIx;rw [if_neg h],fun j hj=>?_⟩
   rw [List.getD_eq_getElem?_getD,ζg hj]
   cases hb:l[j] with
   | true=>rfl
   | false=>exact absurd (hb ▸ List.getElem_mem hj) h
theorem low_split {w k:Nat} (hk:w.testBit k=true) (hlow:∀ j,j < k→w.testBit j=false):∃ m,w=2 ^ k * (2 * m+1):=by
 have hdvd:w%2 ^ k=0:=by
  apply Nat.eq_of_testBit_eq
  intro i
  rw [Nat.testBit_mod_two_pow,Nat.zero_testBit]
  by_cases h:i < k
  · rw [hlow i h,Bool.and_false]
  · simp [h]
 have hw:w=2 ^ k * (w / 2 ^ k):=by
  have:=Nat.div_add_mod w (2 ^ k)
  omega
 have hodd:(w / 2 ^ k)%2=1:=by
  have h1:(w / 2 ^ k).testBit 0=true:=by rw [Nat.testBit_div_two_pow,Nat.zero_add];exact hk
  rw [Nat.testBit_zero] at h1
  simpa using h1
 refine ⟨w / 2 ^ k / 2,?_⟩
 have:2 * (w / 2 ^ k / 2)+1=w / 2 ^ k:=by omega
 rw [this]
 exact hw
theorem low_and {w k:Nat} (hw:w < 2 ^ 64) (hk:w.testBit k=true) (hlow:∀ j,j < k→w.testBit j=false):w &&& (2 ^ 64 - w)=2 ^ k:=by
 obtain ⟨m,hm⟩:=low_split hk hlow
 have hpos:0 < 2 ^ k:=Nat.two_pow_pos k
 have hw0:0 < w:=by rw [hm];exact Nat.mul_pos hpos (by omega)
 have hpred:w - 1=2 ^ k * (2 * m)+(2 ^ k - 1):=by
  rw [hm,Nat.mul_add,Nat.mul_one];omega
 apply Nat.eq_of_testBit_eq
 intro i
 have e:2 ^ 64 - w=2 ^ 64 - (w - 1+1):=by omega
 rw [Nat.testBit_and,e,Nat.testBit_two_pow_sub_succ (by omega),Nat.testBit_two_pow]
 by_cases hi:i < k
 · rw [hlow i hi,Bool.false_and]
   have:¬ k=i:=by omega
   simp [this]
 · have h1:(w - 1).testBit i=(2 * m).testBit (i - k):=by
    rw [hpred,Nat.testBit_two_pow_mul_add _ (by omega),if_neg hi]
   have h2:w.testBit i=(2 * m+1).testBit (i - k):=by
    rw [hm,Nat.testBit_two_pow_mul]
    simp [show k≤i by omega]
   by_cases hik:i=k
   · subst hik
     rw [h1,h2,Nat.sub_self,Nat.testBit_zero,Nat.testBit_zero]
     have hk64:i < 64:=by
      rcases Nat.lt_or_ge i 64 with h | h
      · exact h
      · exfalso
        have:2 ^ 64≤2 ^ i:=Nat.pow_le_pow_right (by omega) h
        have h3:2 ^ i * 1≤2 ^ i * (2 * m+1):=Nat.mul_le_mul_left _ (by omega)
        omega
     simp [hk64]
   · obtain ⟨j,hj⟩:∃ j,i - k=j+1:=⟨i - k - 1,by omega⟩
     rw [h1,h2,hj,Nat.testBit_succ,Nat.testBit_succ]
     have e1:(2 * m+1) / 2=m:=by omega
     have e2:2 * m / 2=m:=by omega
     rw [e1,e2]
     have:¬ k=i:=fun h=>hik h.symm
     cases m.testBit j<;>simp [this]
def deB:List Nat:=[0,1,56,2,57,49,28,3,61,58,42,50,38,29,17,4,62,47,59,36,45,43,51,22,53,39,33,30,24,18,12,5,63,55,48,27,60,41,37,16,46,35,44,21,52,32,23,11,54,26,40,15,34,20,31,10,25,14,19,9,13,8,7,6]
theorem deB_low:∀ k,k < 64→deB[2 ^ k * 285870213051353865%2 ^ 64 / 2 ^ 58]?=some k:=by decide +kernel
theorem least_true {p:Nat→Bool}:∀ n m,m < n→p m=true→∃ k,p k=true∧∀ j,j < k→p j=false:=by
 intro n
 induction n with
 | zero=>intro m h;omega
 | succ n ih =>
   intro m hm hp
   by_cases h:∃ j,j < m∧p j=true
   · obtain ⟨j,h1,h2⟩:=h
     exact ih j (by omega) h2
   · refine ⟨m,hp,fun j hj=>?_⟩
     cases hpj:p j with
     | false=>rfl
     | true=>exact absurd ⟨j,hj,hpj⟩ h
theorem low_exists {w:Nat} (hw:0 < w):∃ k,w.testBit k=true∧∀ j,j < k→w.testBit j=false:=by
 obtain ⟨m,hm⟩:=Nat.exists_testBit_of_ne_zero (x:=w) (by omega)
 exact least_true (m+1) m (Nat.lt_succ_self _) hm
end Pol

namespace Pol
open Go.RowKit
structure BitsAt (w:World) (m g c:Nat) (P:List Bool):Prop where
 blk:Blk w m #[.int .i64 P.length,.slice (some ⟨g,0,none⟩) ((P.length+63) / 64) c] 221
 row:w.ownsRow 0 181 1 (.slice (some ⟨g,0,none⟩) ((P.length+63) / 64) c) ((P.length+63) / 64) ((wordsOf ((P.length+63) / 64) P).map fun (x:Nat)=>Value.int .u64 (x:Int))
 few:P.length≤65536
theorem at_any (k:Nat) (hk:k < 65536) (w:World):Calls Tryz.prog 265 #[.int .i64 k] w fun e w'=>e=.returned (.tuple #[.int .i64 ((k / 64:Nat):Int),.int .u64 ((2 ^ (k%64):Nat):Int)])∧w=w':=by
 have e1:=and63 k (by omega)
 have hlt:k%64 < 64:=Nat.mod_lt _ (by decide)
 have e2:=wrapU (k%64) (by omega)
 have e3:=wrapU (2 ^ (k%64)) (Nat.pow_lt_pow_right (by decide) hlt)
 have e4:min (k%64) 64=k%64:=by omega
 have e5:(2:Int) ^ (k%64)=((2 ^ (k%64):Nat):Int):=by simp
 go_enter Tryz.func265,Tryz.ntmps265
 go_wp2_with fail
 go_ret2
 refine ⟨?_,rfl⟩
 simp only [e5,e3]
 rfl
theorem BitsAt.keep {S:Nat→Prop} {w w':World} {m g c:Nat} {P:List Bool} (h:BitsAt w m g c P) (hm:Mod S w w') (h1:¬ S m) (h2:¬ S g):BitsAt w' m g c P :=
 ⟨h.blk.keep hm h1,ownsRow_keep h.row hm (fun x hx=>by injection hx with hx;simp only at hx;subst hx;exact h2),h.few⟩
theorem BitsAt.keepN {w w':World} {m g c:Nat} {P:List Bool} (h:BitsAt w m g c P) (hm:Mod (fun _=>False) w w'):BitsAt w' m g c P:=h.keep hm (fun x=>x) (fun x=>x)
theorem BitsAt.head {w:World} {m g c:Nat} {P:List Bool} (h:BitsAt w m g c P):w.cell? ⟨m,0,none⟩=some (.int .i64 P.length)∧w.cell? ⟨m,1,none⟩=some (.slice (some ⟨g,0,none⟩) ((P.length+63) / 64) c):=by
 rw [h.blk.cell,h.blk.cell];exact ⟨rfl,rfl⟩
def wordAt (P:List Bool) (i:Nat):Nat:=packW ((P.drop (64 * i)).take 64)
theorem wordAt_lt (P:List Bool) (i:Nat):wordAt P i < 2 ^ 64:=by
 refine Nat.lt_of_lt_of_le (packW_lt _) (Nat.pow_le_pow_right (by decide) ?_)
 rw [List.length_take];omega
theorem wordAt_bit (P:List Bool) (i j:Nat) (hj:j < 64):(wordAt P i).testBit j=P.getD (64 * i+j) false:=by
 unfold wordAt
 rw [packW_testBit]
 simp only [List.getD_eq_getElem?_getD,List.getElem?_take,List.getElem?_drop]
 rw [if_pos hj]
theorem BitsAt.word {w:World} {m g c:Nat} {P:List Bool} (h:BitsAt w m g c P) {i:Nat} (hi:i < (P.length+63) / 64):w.cell? ⟨g,i,none⟩=some (.int .u64 (wordAt P i:Nat)):=by
 rw [h.row.cellAt i (by omega),List.getElem?_map,wordsOf_get _ _ _ hi]
 rfl
theorem bget_any (m g c:Nat) (P:List Bool) (i:Int) (w:World) (h:BitsAt w m g c P) :
 Calls Tryz.prog 264 #[.pointer (some ⟨m,0,none⟩),.int .i64 i] w fun e w'=>e=.returned (.bool (decide (0≤i)&&P.getD i.toNat false))∧w=w':=by
 obtain ⟨h0,h1⟩:=h.head
 have hfew:=h.few
 by_cases hi:i < 0
 · have e:(decide (0≤i)&&P.getD i.toNat false)=false:=by
    have:decide (0≤i)=false:=decide_eq_false (by omega)
    rw [this];rfl
   rw [e]
   clear e
   have d0:decide (i < 0)=true:=by simp [hi]
   go_enter Tryz.func264,Tryz.ntmps264
   go_wp2_with fail
   go_ret
   exact ⟨rfl,rfl⟩
 have d0:decide (i < 0)=false:=by simp;omega
 obtain ⟨k,rfl⟩:∃ k:Nat,i=k:=⟨i.toNat,by omega⟩
 have e:(decide (0≤(k:Int))&&P.getD (k:Int).toNat false)=P.getD k false:=by simp
 rw [e]
 clear e
 by_cases hk:P.length≤k
 · have e:P.getD k false=false:=by rw [List.getD_eq_getElem?_getD,List.getElem?_eq_none hk];rfl
   rw [e]
   clear e
   have d1:decide ((P.length:Int)≤(k:Int))=true:=decide_eq_true (by omega)
   have d2:decide (P.length≤k)=true:=decide_eq_true hk
   go_enter Tryz.func264,Tryz.ntmps264
   go_wp2_with fail
   go_ret
   exact ⟨rfl,rfl⟩
 have d1:decide ((P.length:Int)≤(k:Int))=false:=decide_eq_false (by omega)
 have d2:decide (P.length≤k)=false:=decide_eq_false hk
 have hw:=h.word (i:=k / 64) (by omega)
 have hand:(wordAt P (k / 64)) &&& 2 ^ (k%64)=if P.getD k false=true then 2 ^ (k%64) else 0:=by
  unfold wordAt
  rw [packW_and]
  simp only [List.getD_eq_getElem?_getD,List.getElem?_take,List.getElem?_drop]
  rw [if_pos (Nat.mod_lt _ (by decide)),Nat.div_add_mod]
 have hpos:0 < 2 ^ (k%64):=Nat.two_pow_pos _
 have hlt:k%64 < 64:=Nat.mod_lt _ (by decide)
 have ea:=and_u (wordAt P (k / 64)) (2 ^ (k%64)) (wordAt_lt _ _) (Nat.pow_lt_pow_right (by decide) hlt)
 rw [hand] at ea
 have hkI:((k / 64:Nat):Int) < ((P.length+63) / 64:Nat):=by omega
 have hkN:0≤((k / 64:Nat):Int):=by omega
 have hat:=at_any k (by omega) w
 obtain ⟨B,hB⟩:∃ B:Nat,B=2 ^ (k%64):=⟨_,rfl⟩
 obtain ⟨Wd,hWd⟩:∃ Wd:Nat,Wd=wordAt P (k / 64):=⟨_,rfl⟩
 obtain ⟨q,hq⟩:∃ q:Nat,q=k / 64:=⟨_,rfl⟩
 rw [←hWd] at hw
 rw [←hB] at hat
 rw [←hB,←hWd] at ea
 rw [←hB] at hpos
 rw [←hq] at hw hat hkI hkN
 have HAT:=ζh hat
 clear hat hand hWd hB hq
 cases hb:P.getD k false with
 | true =>
   rw [hb,if_pos rfl] at ea
   have d3:((B:Int) != 0)=true:=by rw [bne_iff_ne];omega
   clear hb
   go_enter Tryz.func264,Tryz.ntmps264
   go_wp2_with fail
   refine HAT.out.mono ?_
   rintro e w1 ⟨rfl,rfl⟩
   go_wp2_with fail
   go_ret
   exact ⟨rfl,rfl⟩
 | false =>
   rw [hb,if_neg (by decide)] at ea
   have ea':bits .and .u64 (Wd:Int) (B:Int)=0:=ea
   have d3:((0:Int) != 0)=false:=rfl
   clear hb ea
   go_enter Tryz.func264,Tryz.ntmps264
   go_wp2_with fail
   refine HAT.out.mono ?_
   rintro e w1 ⟨rfl,rfl⟩
   go_wp2_with fail
   go_ret
   exact ⟨rfl,rfl⟩
theorem BitsAt.set {w:World} {m g c:Nat} {P:List Bool} (h:BitsAt w m g c P) {k:Nat} (hk:k < P.length) (b:Bool) (hb:P.getD k false=!b) :
 BitsAt (w.setCell ⟨g,k / 64,none⟩ (.int .u64 ((wordAt P (k / 64) ^^^ 2 ^ (k%64):Nat):Int))) m g c (P.set k b):=by
 have hne:g≠m:=ownsRow_ne_blk h.row h.blk (by decide) g rfl
 refine ⟨?_,?_,by rw [List.length_set];exact h.few⟩
 · rw [List.length_set]
   exact h.blk.setOther _ _ (by simpa using hne.symm)
 · rw [List.length_set]
   have:=ownsRow_put' h.row (k / 64) (.int .u64 ((wordAt P (k / 64) ^^^ 2 ^ (k%64):Nat):Int))
   rw [wordsOf_set _ _ _ _ (by omega) hk hb,List.map_set]
   exact this
theorem bset_any (m g c:Nat) (P:List Bool) (i:Int) (on:Bool) (w:World) (h:BitsAt w m g c P) :
 Calls Tryz.prog 239 #[.pointer (some ⟨m,0,none⟩),.int .i64 i,.bool on] w fun e w' =>
  e=.returned (.bool (decide (0≤i)&&decide (i < P.length)&&(P.getD i.toNat false != on)))∧Mod (fun x=>x=g) w w'∧BitsAt w' m g c (if (decide (0≤i)&&decide (i < P.length))=true then P.set i.toNat on else P):=by
 obtain ⟨h0,h1⟩:=h.head
 have hfew:=h.few
 by_cases hi:i < 0
 · have e0:decide (0≤i)=false:=decide_eq_false (by omega)
   rw [e0,Bool.false_and,Bool.false_and,if_neg (by decide)]
   clear e0
   have d0:decide (i < 0)=true:=by simp [hi]
   go_enter Tryz.func239,Tryz.ntmps239
   go_wp2_with fail
   go_ret
   exact ⟨rfl,Mod.refl _ _,h⟩
 have d0:decide (i < 0)=false:=by simp;omega
 obtain ⟨k,rfl⟩:∃ k:Nat,i=k:=⟨i.toNat,by omega⟩
 have e0:decide (0≤(k:Int))=true:=decide_eq_true (by omega)
 rw [e0,Bool.true_and,Int.toNat_natCast]
 by_cases hk:P.length≤k
 · have e1:decide ((k:Int) < P.length)=false:=decide_eq_false (by omega)
   rw [e1,Bool.false_and,if_neg (by decide)]
   clear e0 e1
   have d1:decide ((P.length:Int)≤(k:Int))=true:=decide_eq_true (by omega)
   have d2:decide (P.length≤k)=true:=decide_eq_true hk
   go_enter Tryz.func239,Tryz.ntmps239
   go_wp2_with fail
   go_ret
   exact ⟨rfl,Mod.refl _ _,h⟩
 have e1:decide ((k:Int) < P.length)=true:=decide_eq_true (by omega)
 rw [e1,Bool.true_and,if_pos rfl]
 clear e0 e1
 have d1:decide ((P.length:Int)≤(k:Int))=false:=decide_eq_false (by omega)
 have d2:decide (P.length≤k)=false:=decide_eq_false hk
 have hget:=bget_any m g c P k w h
 rw [show (decide (0≤(k:Int))&&P.getD (k:Int).toNat false)=P.getD k false by simp] at hget
 have HG:=ζh hget
 clear hget
 cases hb:(P.getD k false==on) with
 | true =>
   have hbo:P.getD k false=on:=by simpa using hb
   rw [hbo] at HG ⊢
   have e2:(on != on)=false:=by simp
   have e3:(on==on)=true:=by simp
   have e4:P.set k on=P:=by
    have hlt:k < P.length:=by omega
    have:P[k]=on:=by
     rw [List.getD_eq_getElem?_getD,ζg hlt] at hbo
     exact hbo
    rw [←this,List.set_getElem_self]
   rw [e2,e4]
   clear hb hbo e2 e4
   go_enter Tryz.func239,Tryz.ntmps239
   go_wp2_with fail
   refine HG.out.mono ?_
   rintro e w1 ⟨rfl,rfl⟩
   go_wp2_with fail
   go_ret
   exact ⟨rfl,Mod.refl _ _,h⟩
 | false =>
   have hbn:P.getD k false=!on:=by cases h1:P.getD k false<;>cases on<;>simp_all
   have hset:=h.set (by omega) on hbn
   rw [hbn] at HG ⊢
   have e2:((!on) != on)=true:=by cases on<;>rfl
   have e3:((!on)==on)=false:=by cases on<;>rfl
   rw [e2]
   have hw:=h.word (i:=k / 64) (by omega)
   have hf:=frozen_row' h.row (k / 64)
   have hlt:k%64 < 64:=Nat.mod_lt _ (by decide)
   have ea:=xor_u (wordAt P (k / 64)) (2 ^ (k%64)) (wordAt_lt _ _) (Nat.pow_lt_pow_right (by decide) hlt)
   have hkI:((k / 64:Nat):Int) < ((P.length+63) / 64:Nat):=by omega
   have hkN:0≤((k / 64:Nat):Int):=by omega
   have hat:=at_any k (by omega) w
   obtain ⟨X,hX⟩:∃ X:Nat,X=wordAt P (k / 64) ^^^ 2 ^ (k%64):=⟨_,rfl⟩
   obtain ⟨B,hB⟩:∃ B:Nat,B=2 ^ (k%64):=⟨_,rfl⟩
   obtain ⟨Wd,hWd⟩:∃ Wd:Nat,Wd=wordAt P (k / 64):=⟨_,rfl⟩
   obtain ⟨q,hq⟩:∃ q:Nat,q=k / 64:=⟨_,rfl⟩
   rw [←hX] at ea hset
   rw [←hWd] at hw
   rw [←hB] at hat
   rw [←hB,←hWd] at ea
   rw [←hq] at hw hat hkI hkN hset hf
   have HAT:=ζh hat
   have HS:=ζh hset
   clear hat hWd hB hq hX hb hbn e2 hset
   go_enter Tryz.func239,Tryz.ntmps239
   go_wp2_with fail
   refine HG.out.mono ?_
   rintro e w1 ⟨rfl,rfl⟩
   go_wp2_with fail
   refine HAT.out.mono ?_
   rintro e w1 ⟨rfl,rfl⟩
   go_wp2_with fail
   go_ret
   exact ⟨rfl,mod_setCell _ _ _ _,HS.out⟩
end Pol

namespace Pol
open Go.RowKit
def TabIs (w:World):Prop:=∀ (k x:Nat),deB[k]?=some x→w.cell? ⟨2,k,none⟩=some (.int .u8 (x:Int))
theorem TabIs.keep {S:Nat→Prop} {w w':World} (h:TabIs w) (hm:Mod S w w') (hs:¬ S 2):TabIs w':=fun k x hk=>hm.keeps (h k x hk) hs
theorem tz_any (W k:Nat) (w:World) (hT:TabIs w) (hW:W < 2 ^ 64) (hk:W.testBit k=true) (hlow:∀ j,j < k→W.testBit j=false) :
 Calls Tryz.prog 291 #[.int .u64 W] w fun e w'=>e=.returned (.int .i64 k)∧w=w':=by
 have hk64:k < 64:=by
  rcases Nat.lt_or_ge k 64 with h | h
  · exact h
  · have:=Nat.testBit_lt_two_pow (x:=W) (i:=k) (Nat.lt_of_lt_of_le hW (Nat.pow_le_pow_right (by decide) h))
    rw [this] at hk;cases hk
 have hW0:0 < W:=by
  rcases Nat.eq_zero_or_pos W with h | h
  · rw [h] at hk;simp at hk
  · exact h
 have hand:=low_and hW hk hlow
 have hd:=deB_low k hk64
 have d0:((W:Int)==0)=false:=by rw [beq_eq_false_iff_ne];omega
 obtain ⟨N,hN⟩:∃ N:Nat,N=2 ^ 64 - W:=⟨_,rfl⟩
 obtain ⟨B,hB⟩:∃ B:Nat,B=2 ^ k:=⟨_,rfl⟩
 obtain ⟨X,hX⟩:∃ X:Nat,X=B * 285870213051353865%2 ^ 64:=⟨_,rfl⟩
 obtain ⟨q,hq⟩:∃ q:Nat,q=X / 2 ^ 58:=⟨_,rfl⟩
 have e1:IntKind.u64.wrap (-(W:Int))=(N:Int):=by rw [IntKind.wrap_u64];omega
 have e2:bits .and .u64 (W:Int) (N:Int)=(B:Int):=by rw [and_u W N hW (by omega),hN,hand,hB]
 have e3:IntKind.u64.wrap ((B:Int) * 285870213051353865)=(X:Int):=by rw [IntKind.wrap_u64];omega
 have e4:(X:Int) / 288230376151711744=(q:Int):=by omega
 rw [←hB,←hX,←hq] at hd
 have hcell:=hT q k hd
 have hq64:q < 64:=by omega
 have hqI:(q:Int) < 64:=by omega
 have hqN:0≤(q:Int):=by omega
 have hkw:IntKind.i64.wrap (k:Int)=(k:Int):=wrap_small _ (by omega) (by omega)
 clear hN hB hX hq hd hand hk hlow hT
 go_enter Tryz.func291,Tryz.ntmps291
 go_wp2_with fail
 go_ret
 exact ⟨by simp,rfl⟩
theorem comp_bit (P:List Bool) (i j:Nat) (hj:j < 64):(2 ^ 64 - (wordAt P i+1)).testBit j=!P.getD (64 * i+j) false:=by
 rw [Nat.testBit_two_pow_sub_succ (wordAt_lt P i),wordAt_bit P i j hj]
 simp [hj]
theorem not_u (a:Nat) (ha:a < 2 ^ 64):bits .xor .u64 (if IntKind.u64.signed=true then -1 else IntKind.u64.max) (a:Int)=((2 ^ 64 - (a+1):Nat):Int):=by
 have e:(if IntKind.u64.signed=true then (-1:Int) else IntKind.u64.max)=((2 ^ 64 - 1:Nat):Int):=by decide
 rw [e,xor_u _ _ (by omega) ha]
 congr 1
 apply Nat.eq_of_testBit_eq
 intro i
 rw [Nat.testBit_xor,Nat.testBit_two_pow_sub_one,Nat.testBit_two_pow_sub_succ ha]
 by_cases hi:i < 64
 · simp [hi]
 · have:=Nat.testBit_lt_two_pow (x:=a) (i:=i) (Nat.lt_of_lt_of_le ha (Nat.pow_le_pow_right (by decide) (by omega)))
   simp [hi,this]
theorem next_any (m g c:Nat) (P:List Bool) (w:World) (h:BitsAt w m g c P) (hT:TabIs w) :
 Calls Tryz.prog 273 #[.pointer (some ⟨m,0,none⟩),.int .i64 0,.bool false] w fun e w'=>e=.returned (.int .i64 (freeIx P))∧w=w':=by
 obtain ⟨h0,h1⟩:=h.head
 have hfew:=h.few
 obtain ⟨r,hr⟩:∃ r,r=freeIx P:=⟨_,rfl⟩
 rw [←hr]
 have HR:=ζh hr
 have HT:=ζh hT
 have HW:=ζh (fun i (hi:i < (P.length+63) / 64)=>h.word hi)
 obtain ⟨n,hn⟩:∃ n,n=(P.length+63) / 64:=⟨_,rfl⟩
 rw [←hn] at h1 HW
 have HN:=ζh hn
 have hn1:n≤1024:=by omega
 clear hr hT hn
 go_enter Tryz.func273,Tryz.ntmps273
 go_wp2_with fail
 go_loopw [18] (fun i wr=>∃ k:Nat,k≤n∧i=.int .i64 k∧Hid (∀ j,j < 64 * k→j < P.length→P.getD j false=true)∧w=wr) (fun i _=>n - (intOf i).toNat)
 case atStart=>exact ⟨0,by omega,rfl,(fun j hj=>by omega),rfl⟩
 case round =>
  obtain ⟨k,hk,rfl,hall,rfl⟩:=hrel
  by_cases hlt:k < n
  · have hc:=HW.out k hlt
    have hkI:(k:Int) < n:=by omega
    have hkN:0≤(k:Int):=by omega
    have hnot:=not_u (wordAt P k) (wordAt_lt P k)
    obtain ⟨C,hC⟩:∃ C:Nat,C=2 ^ 64 - (wordAt P k+1):=⟨_,rfl⟩
    have hbit:∀ j,j < 64→C.testBit j=!P.getD (64 * k+j) false:=fun j hj=>by rw [hC];exact comp_bit P k j hj
    have hC64:C < 2 ^ 64:=by omega
    rw [←hC] at hnot
    obtain ⟨Wd,hWd⟩:∃ Wd,Wd=wordAt P k:=⟨_,rfl⟩
    rw [←hWd] at hc hnot
    have HB:=ζh hbit
    clear hC hWd hbit
    by_cases hC0:C=0
    · have hnext:∀ j,j < 64 * (k+1)→j < P.length→P.getD j false=true:=by
       intro j h1 h2
       by_cases hj:j < 64 * k
       · exact hall.out j hj h2
       · have:=HB.out (j - 64 * k) (by omega)
         rw [hC0,Nat.zero_testBit,show 64 * k+(j - 64 * k)=j by omega] at this
         cases hp:P.getD j false with
         | true=>rfl
         | false=>rw [hp] at this;cases this
      have HNX:=ζh hnext
      subst hC0
      have hnot':bits .xor .u64 (if IntKind.u64.signed=true then -1 else IntKind.u64.max) (Wd:Int)=0:=hnot
      have d0:((0:Int)==0)=true:=rfl
      clear hnot hnext
      go_wp2_with fail
      go_roundw
      case rel=>exact ⟨k+1,by omega,by go_num,HNX,trivial⟩
      case measure=>simp [intOf];omega
    · have d0:((C:Int)==0)=false:=by rw [beq_eq_false_iff_ne];omega
      obtain ⟨j,hj1,hj2⟩:=low_exists (w:=C) (by omega)
      have hj64:j < 64:=by
       rcases Nat.lt_or_ge j 64 with h | h
       · exact h
       · have:=Nat.testBit_lt_two_pow (x:=C) (i:=j) (Nat.lt_of_lt_of_le hC64 (Nat.pow_le_pow_right (by decide) h))
         rw [this] at hj1;cases hj1
      have htz:=tz_any C j w HT.out hC64 hj1 hj2
      have hat:P.getD (64 * k+j) false=false:=by
       have:=HB.out j hj64
       rw [hj1] at this
       cases hp:P.getD (64 * k+j) false with
       | false=>rfl
       | true=>rw [hp] at this;cases this
      have hbelow:∀ i,i < 64 * k+j→i < P.length→P.getD i false=true:=by
       intro i h1 h2
       by_cases hi:i < 64 * k
       · exact hall.out i hi h2
       · have:=HB.out (i - 64 * k) (by omega)
         rw [hj2 _ (by omega),show 64 * k+(i - 64 * k)=i by omega] at this
         cases hp:P.getD i false with
         | true=>rfl
         | false=>rw [hp] at this;cases this
      have HTZ:=ζh htz
      have HAT:=ζh hat
      have HBL:=ζh hbelow
      have HC0:=ζh hC0
      clear htz hat hbelow hj1 hj2 hC0
      by_cases hin:64 * k+j < P.length
      · have d1:decide ((k:Int) * 64+(j:Int) < (P.length:Int))=true:=decide_eq_true (by omega)
        have hget:P[64 * k+j]?=some false:=by
         have h3:=HAT.out
         rw [List.getD_eq_getElem?_getD,ζg hin] at h3
         rw [ζg hin]
         exact congrArg some h3
        obtain rfl:r=(k:Int) * 64+(j:Int):=(HR.out.trans (freeIx_at (fun i hi=>HBL.out i hi (by omega)) hget)).trans (by omega)
        clear hget
        go_wp2_with fail
        refine HTZ.out.mono ?_
        rintro e w1 ⟨rfl,rfl⟩
        go_wp2_with fail
        go_ret
        exact ⟨rfl,rfl⟩
      · have d1:decide ((k:Int) * 64+(j:Int) < (P.length:Int))=false:=decide_eq_false (by omega)
        have HNX:=ζh (show ∀ i,i < 64 * (k+1)→i < P.length→P.getD i false=true from fun i _ h2=>HBL.out i (by omega) h2)
        go_wp2_with fail
        refine HTZ.out.mono ?_
        rintro e w1 ⟨rfl,rfl⟩
        go_wp2_with fail
        go_roundw
        case rel=>exact ⟨k+1,by omega,by go_num,HNX,trivial⟩
        case measure=>simp [intOf];omega
  · obtain rfl:k=n:=by omega
    obtain rfl:r=-1:=HR.out.trans (freeIx_none (fun j hj=>hall.out j (by have:=HN.out;omega) hj))
    go_wp2_with fail
    go_ret
    exact ⟨rfl,rfl⟩
structure PoolAt (w:World) (p m g c:Nat) (P:List Bool):Prop where
 blk:Blk w p #[.pointer (some ⟨m,0,none⟩)] 154
 bits:BitsAt w m g c P
theorem PoolAt.keep {S:Nat→Prop} {w w':World} {p m g c:Nat} {P:List Bool} (h:PoolAt w p m g c P) (hm:Mod S w w') (h0:¬ S p) (h1:¬ S m) (h2:¬ S g):PoolAt w' p m g c P :=
 ⟨h.blk.keep hm h0,h.bits.keep hm h1 h2⟩
theorem PoolAt.keepN {w w':World} {p m g c:Nat} {P:List Bool} (h:PoolAt w p m g c P) (hm:Mod (fun _=>False) w w'):PoolAt w' p m g c P:=h.keep hm (fun x=>x) (fun x=>x) (fun x=>x)
theorem PoolAt.ne {w:World} {p m g c:Nat} {P:List Bool} (h:PoolAt w p m g c P):g≠p∧g≠m :=
 ⟨ownsRow_ne_blk h.bits.row h.blk (by decide) g rfl,ownsRow_ne_blk h.bits.row h.bits.blk (by decide) g rfl⟩
def takeP (P:List Bool):List Bool:=if 0≤freeIx P then P.set (freeIx P).toNat true else P
theorem take_any (p m g c:Nat) (P:List Bool) (w:World) (h:PoolAt w p m g c P) (hT:TabIs w) :
 Calls Tryz.prog 252 #[.pointer (some ⟨p,0,none⟩)] w fun e w' =>
  e=.returned (.tuple #[.int .i64 (freeIx P),.int .i64 (if 0≤freeIx P then 0 else 3)])∧Mod (fun x=>x=g) w w'∧PoolAt w' p m g c (takeP P):=by
 have h0:=h.blk.cell 0
 simp only [ζa,ζb] at h0
 have hn:=next_any m g c P w h.bits hT
 rcases freeIx_spec P with ⟨e,_⟩ | ⟨k,e,hk,_⟩
 · unfold takeP
   rw [e] at hn ⊢
   have HN:=ζh hn
   clear hn e
   have d0:decide ((-1:Int) < 0)=true:=rfl
   rw [if_neg (by decide),if_neg (by decide)]
   go_enter Tryz.func252,Tryz.ntmps252
   go_wp2_with fail
   refine HN.out.mono ?_
   rintro e w1 ⟨rfl,rfl⟩
   go_wp2_with fail
   go_ret2
   exact ⟨rfl,Mod.refl _ _,h⟩
 · unfold takeP
   rw [e] at hn ⊢
   rw [if_pos (by omega),if_pos (by omega),Int.toNat_natCast]
   have hlt:=(ζi.1 hk).1
   have hs:=bset_any m g c P k true w h.bits
   have e1:(decide (0≤(k:Int))&&decide ((k:Int) < P.length))=true:=by
    rw [Bool.and_eq_true,decide_eq_true_eq,decide_eq_true_eq];omega
   rw [e1,if_pos rfl,Int.toNat_natCast] at hs
   have HN:=ζh hn
   have HS:=ζh hs
   clear hn hs e e1 hk
   have d0:decide ((k:Int) < 0)=false:=by simp
   go_enter Tryz.func252,Tryz.ntmps252
   go_wp2_with fail
   refine HN.out.mono ?_
   rintro e w1 ⟨rfl,rfl⟩
   go_wp2_with fail
   refine HS.out.mono ?_
   rintro e w2 ⟨rfl,hm,hb⟩
   go_wp2_with fail
   go_ret2
   exact ⟨rfl,hm,h.blk.keep hm (fun e=>h.ne.1 e.symm),hb⟩
def giveP (P:List Bool) (i:Int):List Bool:=if (decide (0≤i)&&decide (i < P.length))=true then P.set i.toNat false else P
theorem blen_any (m g c:Nat) (P:List Bool) (w:World) (h:BitsAt w m g c P) :
 Calls Tryz.prog 238 #[.pointer (some ⟨m,0,none⟩)] w fun e w'=>e=.returned (.int .i64 P.length)∧w=w':=by
 obtain ⟨h0,h1⟩:=h.head
 go_enter Tryz.func238,Tryz.ntmps238
 go_wp2_with fail
 go_ret
 exact ⟨rfl,rfl⟩
theorem give_any (p m g c:Nat) (P:List Bool) (i:Int) (w:World) (h:PoolAt w p m g c P) :
 Calls Tryz.prog 198 #[.pointer (some ⟨p,0,none⟩),.int .i64 i] w fun e w' =>
  (∃ n:Int,e=.returned (.int .i64 n))∧Mod (fun x=>x=g) w w'∧PoolAt w' p m g c (giveP P i):=by
 have h0:=h.blk.cell 0
 simp only [ζa,ζb] at h0
 have hfew:=h.bits.few
 unfold giveP
 by_cases hi:i < 0
 · have e0:decide (0≤i)=false:=decide_eq_false (by omega)
   rw [e0,Bool.false_and,if_neg (by decide)]
   clear e0
   have d0:decide (i < 0)=true:=by simp [hi]
   go_enter Tryz.func198,Tryz.ntmps198
   go_wp2_with fail
   go_ret
   exact ⟨⟨_,rfl⟩,Mod.refl _ _,h⟩
 have d0:decide (i < 0)=false:=by simp;omega
 obtain ⟨k,rfl⟩:∃ k:Nat,i=k:=⟨i.toNat,by omega⟩
 have e0:decide (0≤(k:Int))=true:=decide_eq_true (by omega)
 rw [e0,Bool.true_and,Int.toNat_natCast]
 by_cases hk:P.length≤k
 · have e1:decide ((k:Int) < P.length)=false:=decide_eq_false (by omega)
   rw [e1,if_neg (by decide)]
   clear e0 e1
   have d1:decide ((P.length:Int)≤(k:Int))=true:=decide_eq_true (by omega)
   have d2:decide (P.length≤k)=true:=decide_eq_true hk
   go_enter Tryz.func198,Tryz.ntmps198
   go_wp2_with fail
   refine (blen_any m g c P _ h.bits).mono ?_
   rintro e w1 ⟨rfl,rfl⟩
   go_wp2_with fail
   go_ret
   exact ⟨⟨_,rfl⟩,Mod.refl _ _,h⟩
 have e1:decide ((k:Int) < P.length)=true:=decide_eq_true (by omega)
 rw [e1,if_pos rfl]
 have hs:=bset_any m g c P k false w h.bits
 rw [e0,e1,Int.toNat_natCast] at hs
 rw [Bool.and_self,if_pos rfl,Bool.true_and] at hs
 have d1:decide ((P.length:Int)≤(k:Int))=false:=decide_eq_false (by omega)
 have d2:decide (P.length≤k)=false:=decide_eq_false hk
 obtain ⟨r,hr⟩:∃ r,r=(P.getD k false != false):=⟨_,rfl⟩
 rw [←hr] at hs
 have HS:=ζh hs
 clear hs hr e0 e1
 cases r
 all_goals
  go_enter Tryz.func198,Tryz.ntmps198
  go_wp2_with fail
  refine (blen_any m g c P _ h.bits).mono ?_
  rintro e w1 ⟨rfl,rfl⟩
  go_wp2_with fail
  refine HS.out.mono ?_
  rintro e w2 ⟨rfl,hm,hb⟩
  go_wp2_with fail
  go_ret
  exact ⟨⟨_,rfl⟩,hm,h.blk.keep hm (fun e=>h.ne.1 e.symm),hb⟩
end Pol
end Go.Proofs.YtkfoeonggmlebaaGreatDoor
