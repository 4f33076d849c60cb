/-
  Contracts of the program's functions, and plain facts, towards the laws of millpondtop. No condition beyond those that each theorem bears.
-/
import Derived.Test.YtkfoeonggmlebaaGreatDoorQ02
import Derived.Test.YtkfoeonggmlebaaGreatDoorQ05
import Derived.Test.YtkfoeonggmlebaaGreatDoorQ09
import Derived.Test.YtkfoeonggmlebaaGreatDoorQ17
import Derived.Test.YtkfoeonggmlebaaGreatDoorQAA
set_option maxRecDepth 100000
set_option maxHeartbeats 4000000
namespace Go.Proofs.YtkfoeonggmlebaaGreatDoor
namespace Fil
open Go.RowKit Go.Proofs.YtkfoeonggmlebaaGreatDoor.Byt
structure FU where
 sizes:List Int
 l:List ((Int × Int) × List Int)
def FilU (w:World) (b:Nat) (F:Nat→Prop) (S:FU):Prop :=
 ∃ mb sv T,FilesIs w b mb sv T∧T.sizes=S.sizes∧T.l.map (fun e=>(e.key,e.val))=S.l.map (fun e=>(e.1,Value.string (strOf e.2)))∧(∀ e∈S.l,Txt e.2)∧F=fun x=>x=b∨x=mb∨sv.ownBlock=some x
theorem FilU.keep {S:Nat→Prop} {w w':World} {b:Nat} {F:Nat→Prop} {T:FU} (h:FilU w b F T) (hm:Mod S w w') (hs:∀ x,F x→¬ S x):FilU w' b F T:=by
 obtain ⟨mb,sv,T,h1,h2,h3,h4,rfl⟩:=h
 exact ⟨mb,sv,T,h1.keep hm (hs _ (.inl rfl)) (hs _ (.inr (.inl rfl))) (fun g hg=>hs g (.inr (.inr hg))),h2,h3,h4,rfl⟩
theorem FilU.below {w:World} {b:Nat} {F:Nat→Prop} {T:FU} (h:FilU w b F T):∀ x,F x→x < w.heap.size:=by
 obtain ⟨mb,sv,T,h1,h2,h3,h4,rfl⟩:=h
 rintro x (rfl | rfl | h)
 · exact h1.blk.lt
 · obtain ⟨c,hc⟩:=h1.map;exact hc.lt
 · exact ownsRow_lt h1.own x h
def sizeU (S:FU) (f:Int):Int:=if 0≤f∧f < S.sizes.length then S.sizes.getD f.toNat 0 else 0
def hasU (S:FU) (f i:Int):Bool:=decide (0≤i)&&decide (i < sizeU S f)
def readU (S:FU) (f i:Int):List Int:=if hasU S f i then (getA (f,i) S.l).getD (firstL f i) else []
def writeU (S:FU) (f i:Int) (t:List Int):FU:=if hasU S f i=true∧t.length=16 then { S with l:=putA (f,i) t S.l } else S
theorem firstL_txt (f i:Int):Txt (firstL f i):=by
 refine ⟨by simp [firstL],fun n hn=>?_⟩
 unfold firstL at hn
 obtain ⟨j,_,rfl⟩:=List.mem_map.1 hn
 omega
theorem getA_kv' {κ:Type} [DecidableEq κ] {α:Type} (ev:α→Value) (k:κ) (l:List (KV κ)) (G:List (κ × α)) (h:l.map (fun e=>(e.key,e.val))=G.map (fun e=>(e.1,ev e.2))):getKV k l=(getA k G).map ev:=getA_kv ev k l G h
theorem read_eq {S:FU} {T:FS} (h1:T.sizes=S.sizes) (h2:T.l.map (fun e=>(e.key,e.val))=S.l.map (fun e=>(e.1,Value.string (strOf e.2)))) (f i:Int) :
 hasB T f i=hasU S f i∧readS T f i=(strOf (readU S f i),if hasU S f i then 0 else 2):=by
 have e1:hasB T f i=hasU S f i:=by unfold hasB hasU sizeAt sizeU;rw [h1]
 refine ⟨e1,?_⟩
 unfold readS readU
 rw [e1]
 cases hasU S f i
 · rfl
 · simp only [if_true]
   have e2:=getA_kv' (fun t=>Value.string (strOf t)) (f,i) T.l S.l h2
   rw [e2]
   cases getA (f,i) S.l<;>rfl
theorem fread_any (b:Nat) (F:Nat→Prop) (S:FU) (f i:Int) (w:World) (h:FilU w b F S) :
 Calls Tryz.prog 186 #[.pointer (some ⟨b,0,none⟩),.agg #[.int .i64 f,.int .i64 i]] w fun e w' =>
  e=.returned (.tuple #[.string (strOf (readU S f i)),.int .i64 (if hasU S f i then 0 else 2)])∧Mod (fun _=>False) w w':=by
 obtain ⟨mb,sv,T,h1,h2,h3,h4,rfl⟩:=h
 obtain ⟨_,e2⟩:=read_eq h2 h3 f i
 have:=read_any b mb sv T f i w h1
 rw [e2] at this
 exact this
theorem fwrite_any (b:Nat) (F:Nat→Prop) (S:FU) (f i:Int) (t:List Int) (w:World) (h:FilU w b F S) (ht:∀ n∈t,0≤n∧n < 256) :
 Calls Tryz.prog 196 #[.pointer (some ⟨b,0,none⟩),.agg #[.int .i64 f,.int .i64 i],.string (strOf t)] w fun e w' =>
  (∃ n:Int,e=.returned (.int .i64 n))∧Mod F w w'∧FilU w' b F (writeU S f i t):=by
 obtain ⟨mb,sv,T,h1,h2,h3,h4,rfl⟩:=h
 refine (writeW_any b mb sv T f i (strOf t) w h1).mono ?_
 rintro e w' ⟨rfl,hm,c,h5⟩
 refine ⟨⟨_,rfl⟩,hm.mono (fun k hk=>hk.elim .inl (fun h=>.inr (.inl h))),mb,sv,_,h5,?_,?_,?_,rfl⟩
 · obtain ⟨e1,_⟩:=read_eq h2 h3 f i
   unfold writeW writeU
   rw [e1,strOf_size]
   split<;>exact h2
 · obtain ⟨e1,_⟩:=read_eq h2 h3 f i
   unfold writeW writeU
   rw [e1,strOf_size]
   split
   · exact putA_kv (fun t=>Value.string (strOf t)) (f,i) t c T.l S.l h3
   · exact h3
 · unfold writeU
   split
   · rename_i hc
     intro e he
     have:e=((f,i),t)∨e∈S.l:=by
      generalize S.l=L at he
      induction L with
      | nil=>left;simpa [putA] using he
      | cons x l ih =>
        simp only [putA] at he
        split at he
        · rcases List.mem_cons.1 he with rfl | he
          · exact .inl rfl
          · exact .inr (List.mem_cons_of_mem _ he)
        · rcases List.mem_cons.1 he with rfl | he
          · exact .inr List.mem_cons_self
          · exact (ih he).imp (fun x=>x) (List.mem_cons_of_mem _)
     rcases this with rfl | h
     · exact ⟨hc.2,ht⟩
     · exact h4 e h
   · exact h4
def newFU (sizes:List Int):FU:=⟨(sizes.take 32).map fun n=>min (max n 0) 4096,[]⟩
theorem fnew_any (sizes:List Int) (v:Value) (w:World) (h:IntsAt w v sizes) :
 Calls Tryz.prog 27 #[v] w fun e w'=>∃ b F,e=.returned (.pointer (some ⟨b,0,none⟩))∧Mod (fun _=>False) w w'∧FilU w' b F (newFU sizes)∧∀ x,F x→w.heap.size≤x:=by
 refine (new_any sizes v w h).mono ?_
 rintro e w' ⟨b,mb,sv,rfl,hm,h1,h2,h3,h4⟩
 refine ⟨b,_,rfl,hm,⟨mb,sv,_,h1,rfl,rfl,(fun e he=>by cases he),rfl⟩,?_⟩
 rintro x (rfl | rfl | h)
 · exact h2
 · exact h3
 · exact h4 x h
end Fil

namespace Sha
open Go.RowKit
open Go.Proofs.YtkfoeonggmlebaaGreatDoor.Bit
open Go.Proofs.YtkfoeonggmlebaaGreatDoor.Byt (flat_setCell)
theorem and_clock (n:Int):bits .and .i64 n 1099511627775=n%1099511627776:=by
 unfold bits
 show IntKind.i64.wrap (((BitVec.ofInt 64 n &&& BitVec.ofInt 64 1099511627775).toNat:Nat):Int)=_
 have e:(BitVec.ofInt 64 1099511627775).toNat=2 ^ 40 - 1:=by decide
 rw [BitVec.toNat_and,e,Nat.and_two_pow_sub_one_eq_mod,BitVec.toNat_ofInt]
 have h1:(n%((2 ^ 64:Nat):Int)).toNat%2 ^ 40 < 2 ^ 40:=Nat.mod_lt _ (by decide)
 rw [wrap_small _ (by omega) (by omega)]
 have:((2 ^ 64:Nat):Int)=18446744073709551616:=by decide
 rw [this] at h1 ⊢
 omega
def shw (g c:Nat):Nat:=packL [1,8,40] [1,g,c]
theorem shw_eq (g c:Nat):shw g c=1+2 * (g+256 * c):=by simp [shw,packL]
theorem sh_fit {g c:Nat} (hg:g < 256) (hc:c < 2 ^ 40):∀ (k x u:Nat),[1,8,40][k]?=some x→[1,g,c][k]?=some u→u < 2 ^ x:=by
 intro k x u hk hu
 rcases k with _ | _ | _ | k
 · cases hk;cases hu;decide
 · cases hk;cases hu;exact hg
 · cases hk;cases hu;exact hc
 · cases hk
theorem shw_lt {g c:Nat} (hg:g < 256) (hc:c < 2 ^ 40):shw g c < 2 ^ 49:=packL_lt _ _ (sh_fit hg hc)
theorem shw_un {g c:Nat} (hg:g < 256) (hc:c < 2 ^ 40):unpackL [1,8,40] (shw g c)=[1,g,c]:=by
 rw [shw_eq]
 simp only [unpackL]
 congr 1
 · omega
 congr 1
 · omega
 congr 1
 omega
theorem ints_new3 (w:World) (a b c:Int):IntsAt (w.alloc (.cells #[.int .i64 a,.int .i64 b,.int .i64 c] 3)) (.slice (some ⟨w.heap.size,0,none⟩) 3 3) [a,b,c]:=by
 refine ⟨_,3,rfl,by simp,by unfold maxLen;omega,fun j hj=>⟨w.heap.size,0,rfl,?_⟩⟩
 rw [Nat.zero_add,(Blk.new w _ _).cell]
 simp only [List.length_cons,List.length_nil] at hj
 rcases j with _ | _ | _ | j<;>first | rfl | omega
theorem shwidths_any (w:World):Calls Tryz.prog 275 #[] w fun e w'=>∃ v,e=.returned v∧Mod (fun _=>False) w w'∧IntsAt w' v (encN [1,8,40]):=by
 go_enter Tryz.func275,Tryz.ntmps275
 go_wp2_with fail
 go_ret
 exact ⟨_,rfl,Mod.alloc' _ _ _,ints_new3 w 1 8 40⟩
def wentW (g:Nat) (c:Int):Nat:=if c < 0 then 0 else shw g (c%1099511627776).toNat
theorem shmake_any (g:Nat) (c:Int) (w:World) (hg:g < 256):Calls Tryz.prog 256 #[.int .i64 g,.int .i64 c] w fun e w'=>e=.returned (.int .u64 (wentW g c:Nat))∧Mod (fun _=>False) w w':=by
 unfold wentW
 by_cases hc:c < 0
 · rw [if_pos hc]
   have d0:decide (c < 0)=true:=decide_eq_true hc
   go_enter Tryz.func256,Tryz.ntmps256
   go_wp2_with fail
   go_ret
   exact ⟨rfl,Mod.refl _ _⟩
 · rw [if_neg hc]
   have d0:decide (c < 0)=false:=decide_eq_false hc
   have ea:=and_clock c
   obtain ⟨k,hk⟩:∃ k:Nat,c%1099511627776=k:=⟨(c%1099511627776).toNat,by omega⟩
   rw [hk] at ea
   rw [hk,Int.toNat_natCast]
   have hp:=fun (v u:Value) (w:World) (h1:IntsAt w v (encN [1,8,40])) (h2:IntsAt w u [(1:Int),g,k])=>bpack_any [1,8,40] [1,g,k] v u w h1 h2 (by decide) (by decide) rfl (sh_fit hg (by omega))
   have hw:packL [1,8,40] [1,g,k]=shw g k:=rfl
   rw [hw] at hp
   have HP:=ζh hp
   obtain ⟨W,hW⟩:∃ W,W=shw g k:=⟨_,rfl⟩
   rw [←hW] at HP ⊢
   clear hk hp hw hW
   go_enter Tryz.func256,Tryz.ntmps256
   go_wp2_with fail
   refine (shwidths_any _).mono ?_
   rintro x w1 ⟨v,rfl,hm1,hi1⟩
   go_wp2_with fail
   refine (HP.out _ _ _ (hi1.keep (Mod.alloc' (fun _=>False) _ _) (fun _ _ x=>x)) (ints_new3 _ _ _ _)).mono ?_
   rintro x w2 ⟨rfl,rfl⟩
   go_wp2_with fail
   go_ret
   exact ⟨rfl,hm1.alloc _⟩
theorem look_zero (w:World):Calls Tryz.prog 257 #[.int .u64 0] w fun e w'=>e=.returned (.tuple #[.int .i64 0,.int .i64 0,.bool false])∧Mod (fun _=>False) w w':=by
 have hu:=fun (v:Value) (w:World) (h1:IntsAt w v (encN [1,8,40]))=>bunpack_any [1,8,40] 0 v w h1 (by decide) (by decide) (by decide)
 have e0:encN (unpackL [1,8,40] 0)=[0,0,0]:=by decide
 rw [e0] at hu
 have HU:=ζh hu
 clear hu e0
 go_enter Tryz.func257,Tryz.ntmps257
 go_wp2_with fail
 refine (shwidths_any _).mono ?_
 rintro x w1 ⟨v,rfl,hm1,hi1⟩
 go_wp2_with fail
 refine (HU.out _ _ hi1).mono ?_
 rintro x w2 ⟨u,rfl,hm2,hi2⟩
 obtain ⟨b,off,cap,rfl,c0⟩:=ints_get hi2 (j:=0) rfl
 rw [Nat.add_zero] at c0
 have e4:([0,0,0]:List Int).length=3:=rfl
 rw [e4]
 clear hi2 e4
 go_wp2_with fail
 go_ret3
 exact ⟨rfl,hm1.trans hm2⟩
theorem look_some (g c:Nat) (hg:g < 256) (hc:c < 2 ^ 40) (w:World):Calls Tryz.prog 257 #[.int .u64 (shw g c:Nat)] w fun e w'=>e=.returned (.tuple #[.int .i64 g,.int .i64 c,.bool true])∧Mod (fun _=>False) w w':=by
 have hu:=fun (v:Value) (w:World) (h1:IntsAt w v (encN [1,8,40]))=>bunpack_any [1,8,40] (shw g c) v w h1 (by decide) (by decide) (shw_lt hg hc)
 rw [shw_un hg hc] at hu
 have e0:encN [1,g,c]=[1,(g:Int),(c:Int)]:=rfl
 rw [e0] at hu
 have HU:=ζh hu
 obtain ⟨W,hW⟩:∃ W,W=shw g c:=⟨_,rfl⟩
 rw [←hW] at HU ⊢
 clear hu e0 hW hg hc
 go_enter Tryz.func257,Tryz.ntmps257
 go_wp2_with fail
 refine (shwidths_any _).mono ?_
 rintro x w1 ⟨v,rfl,hm1,hi1⟩
 go_wp2_with fail
 refine (HU.out _ _ hi1).mono ?_
 rintro x w2 ⟨u,rfl,hm2,hi2⟩
 obtain ⟨b,off,cap,rfl,c0⟩:=ints_get hi2 (j:=0) rfl
 obtain ⟨b',off',cap',hv,c1⟩:=ints_get hi2 (j:=1) rfl
 injection hv with e1 e2 e3
 injection e1 with e1
 injection e1 with e1 e1' _
 subst e1 e1' e3
 obtain ⟨b',off',cap',hv,c2⟩:=ints_get hi2 (j:=2) rfl
 injection hv with e1 e2 e3
 injection e1 with e1
 injection e1 with e1 e1' _
 subst e1 e1' e3
 rw [Nat.add_zero] at c0
 have e4:([1,(g:Int),(c:Int)]:List Int).length=3:=rfl
 rw [e4]
 clear hi2 e4
 go_wp2_with fail
 go_region
 go_wp2_with fail
 go_ret3
 exact ⟨rfl,(hm1.trans hm2).drew⟩
def ShOk:Option (Nat × Nat)→Prop
 | none=>True
 | some x=>x.1 < 64∧x.2 < 2 ^ 40
def shW:Option (Nat × Nat)→Nat
 | none=>0
 | some x=>shw x.1 x.2
def distS (o:Option (Nat × Nat)) (clock:Int):Int:=match o with
 | none=>-1
 | some x=>if clock < 0 then -1 else (clock - x.2)%1099511627776
def workS (o:Option (Nat × Nat)) (clock r:Int):Bool:=decide (0≤distS o clock)&&decide (distS o clock≤r)
theorem dist_any (o:Option (Nat × Nat)) (clock:Int) (w:World) (h:ShOk o) (hcl:clock < 9223372036854775808):Calls Tryz.prog 276 #[.int .u64 (shW o:Nat),.int .i64 clock] w fun e w'=>e=.returned (.int .i64 (distS o clock))∧Mod (fun _=>False) w w':=by
 cases o with
 | none =>
   show Calls Tryz.prog 276 #[.int .u64 0,.int .i64 clock] w fun e w'=>e=.returned (.int .i64 (-1))∧Mod (fun _=>False) w w'
   go_enter Tryz.func276,Tryz.ntmps276
   go_wp2_with fail
   refine (look_zero _).mono ?_
   rintro x w1 ⟨rfl,hm1⟩
   go_wp2_with fail
   go_ret
   exact ⟨rfl,hm1⟩
 | some x =>
   obtain ⟨g,c⟩:=x
   have h1:g < 64:=h.1
   have h2:c < 2 ^ 40:=h.2
   have HL:=ζh (fun w=>look_some g c (by omega) h2 w)
   unfold distS shW
   simp only
   obtain ⟨W,hW⟩:∃ W,W=shw g c:=⟨_,rfl⟩
   rw [←hW] at HL ⊢
   clear hW h
   by_cases hc:clock < 0
   · rw [if_pos hc]
     have d0:decide (clock < 0)=true:=decide_eq_true hc
     go_enter Tryz.func276,Tryz.ntmps276
     go_wp2_with fail
     refine (HL.out _).mono ?_
     rintro x w1 ⟨rfl,hm1⟩
     go_wp2_with fail
     go_ret
     exact ⟨rfl,hm1⟩
   · rw [if_neg hc]
     have d0:decide (clock < 0)=false:=decide_eq_false hc
     have ea:=and_clock (clock - c)
     have hb:clock - c≤9223372036854775807:=by omega
     have hb':-9223372036854775808≤clock - c:=by omega
     go_enter Tryz.func276,Tryz.ntmps276
     go_wp2_with fail
     refine (HL.out _).mono ?_
     rintro x w1 ⟨rfl,hm1⟩
     go_wp2_with fail
     go_ret
     exact ⟨rfl,hm1⟩
theorem work_any (o:Option (Nat × Nat)) (clock r:Int) (w:World) (h:ShOk o) (hcl:clock < 9223372036854775808):Calls Tryz.prog 258 #[.int .u64 (shW o:Nat),.int .i64 clock,.int .i64 r] w fun e w'=>e=.returned (.bool (workS o clock r))∧Mod (fun _=>False) w w':=by
 have HD:=ζh (fun w=>dist_any o clock w h hcl)
 unfold workS
 obtain ⟨D,hD⟩:∃ D,D=distS o clock:=⟨_,rfl⟩
 rw [←hD] at HD ⊢
 obtain ⟨W,hW⟩:∃ W,W=shW o:=⟨_,rfl⟩
 rw [←hW] at HD ⊢
 clear hW hD
 cases h0:decide (0≤D)
 all_goals
  go_enter Tryz.func258,Tryz.ntmps258
  go_wp2_with fail
  refine (HD.out _).mono ?_
  rintro x w1 ⟨rfl,hm1⟩
  go_wp2_with fail
  go_ret
  exact ⟨rfl,hm1⟩
def groupB (g:Int):Bool:=decide (0≤g)&&decide (g < 64)
theorem shgroup_any (g:Int) (w:World):Calls Tryz.prog 255 #[.int .i64 g] w fun e w'=>e=.returned (.bool (groupB g))∧w=w':=by
 unfold groupB
 cases h0:decide (0≤g)
 all_goals
  go_enter Tryz.func255,Tryz.ntmps255
  go_wp2_with fail
  go_ret
  exact ⟨rfl,rfl⟩
def ecC (x:Int × Int):List Value:=[.int .i64 x.1,.int .i64 x.2]
theorem ecC_len (x:Int × Int):(ecC x).length=2:=rfl
structure LogAt (w:World) (b:Nat) (L:List (Int × Int)):Prop where
 blk:Blk w b (L.flatMap ecC).toArray 112
 len:L.length=64
 few:∀ x∈L,x.1 < 9223372036854775808
theorem LogAt.keep {S:Nat→Prop} {w w':World} {b:Nat} {L:List (Int × Int)} (h:LogAt w b L) (hm:Mod S w w') (h1:¬ S b):LogAt w' b L:=⟨h.blk.keep hm h1,h.len,h.few⟩
theorem LogAt.keepN {w w':World} {b:Nat} {L:List (Int × Int)} (h:LogAt w b L) (hm:Mod (fun _=>False) w w'):LogAt w' b L:=h.keep hm (fun x=>x)
theorem LogAt.cells {w:World} {b:Nat} {L:List (Int × Int)} (h:LogAt w b L) {k:Nat} {x:Int × Int} (hk:L[k]?=some x):w.cell? ⟨b,k * 2,none⟩=some (.int .i64 x.1)∧w.cell? ⟨b,k * 2+1,none⟩=some (.int .i64 x.2):=by
 constructor
 · have:=flat_get (ec:=ecC) ecC_len L k 0 (by decide)
   rw [Nat.add_zero] at this
   rw [h.blk.cell,ζa,this,hk];rfl
 · rw [h.blk.cell,ζa,flat_get (ec:=ecC) ecC_len L k 1 (by decide),hk];rfl
theorem wrap_lt (n:Int):IntKind.i64.wrap n < 9223372036854775808:=by
 unfold IntKind.wrap
 simp [IntKind.bits,IntKind.signed]
 split<;>omega
theorem LogAt.set {w:World} {b:Nat} {L:List (Int × Int)} (h:LogAt w b L) {k i:Nat} {x x':Int × Int} (v:Int) (hk:L[k]?=some x) (hi:i < 2) (hx:ecC x'=(ecC x).set i (.int .i64 v)) (hv:x'.1 < 9223372036854775808) :
 LogAt (w.setCell ⟨b,k * 2+i,none⟩ (.int .i64 v)) b (L.set k x'):=by
 refine ⟨?_,by rw [List.length_set];exact h.len,?_⟩
 · have:=h.blk.set (k * 2+i) (.int .i64 v)
   rw [flat_setCell ecC_len L k i x x' (.int .i64 v) hk hi hx]
   rwa [List.setIfInBounds_toArray] at this
 · intro y hy
   rcases List.mem_or_eq_of_mem_set hy with h1 | rfl
   · exact h.few y h1
   · exact hv
def logAtL (L:List (Int × Int)) (g:Int):Int × Int:=L.getD g.toNat (0,0)
def wentN (L:List (Int × Int)) (g:Int):Nat:=if groupB g=true then wentW g.toNat (logAtL L g).1 else 0
def wentL (L:List (Int × Int)) (g:Int):List (Int × Int):=if groupB g=true then L.set g.toNat (IntKind.i64.wrap ((logAtL L g).1+1),(logAtL L g).2) else L
theorem went_any (b:Nat) (L:List (Int × Int)) (g:Int) (w:World) (h:LogAt w b L) :
 Calls Tryz.prog 224 #[.pointer (some ⟨b,0,none⟩),.int .i64 g] w fun e w'=>e=.returned (.int .u64 (wentN L g:Nat))∧Mod (fun x=>x=b) w w'∧LogAt w' b (wentL L g):=by
 unfold wentN wentL
 have hgr:=shgroup_any g w
 cases hg:groupB g with
 | false =>
   rw [hg] at hgr
   rw [if_neg (by decide),if_neg (by decide)]
   have HG:=ζh hgr
   clear hgr hg
   go_enter Tryz.func224,Tryz.ntmps224
   go_wp2_with fail
   refine HG.out.mono ?_
   rintro x w1 ⟨rfl,rfl⟩
   go_wp2_with fail
   go_ret
   exact ⟨rfl,Mod.refl _ _,h⟩
 | true =>
   rw [hg] at hgr
   rw [if_pos rfl,if_pos rfl]
   have hg2:0≤g∧g < 64:=by simpa [groupB] using hg
   obtain ⟨k,rfl⟩:∃ k:Nat,g=k:=⟨g.toNat,by omega⟩
   have hk:k < 64:=by omega
   have hkI:(k:Int) < 64:=by omega
   have hkN:0≤(k:Int):=by omega
   obtain ⟨x,hx⟩:∃ x,L[k]?=some x:=⟨_,ζg (by rw [h.len];exact hk)⟩
   have hl:logAtL L (k:Int)=x:=by unfold logAtL;rw [Int.toNat_natCast,List.getD_eq_getElem?_getD,hx];rfl
   rw [hl,Int.toNat_natCast]
   have hcl:=(h.cells hx).1
   have hset:=fun w (hw:LogAt w b L)=>LogAt.set hw (k:=k) (i:=0) (x:=x) (x':=(IntKind.i64.wrap (x.1+1),x.2)) (IntKind.i64.wrap (x.1+1)) hx (by decide) rfl (wrap_lt _)
   simp only [Nat.add_zero] at hset
   have HG:=ζh hgr
   have HM:=ζh (fun w=>shmake_any k x.1 w (by omega))
   obtain ⟨W,hW⟩:∃ W,W=wentW k x.1:=⟨_,rfl⟩
   rw [←hW] at HM ⊢
   obtain ⟨y,hy⟩:∃ y,y=IntKind.i64.wrap (x.1+1):=⟨_,rfl⟩
   rw [←hy] at hset ⊢
   have hy':=hy.symm
   have HS:=ζh hset
   clear hgr hg hset hW hl hx hy
   go_enter Tryz.func224,Tryz.ntmps224
   go_wp2_with fail
   refine HG.out.mono ?_
   rintro x w1 ⟨rfl,rfl⟩
   go_wp2_with fail
   refine (HM.out _).mono ?_
   rintro x w2 ⟨rfl,hm2⟩
   have hc2:=hm2.keeps hcl (fun x=>x)
   have h2:=h.keepN hm2
   have hf2:=h2.blk.frozen (k * 2)
   go_wp2_with fail
   go_region
   go_wp2_with fail
   go_ret
   exact ⟨rfl,((hm2.mono (fun _ x=>x.elim)).trans (mod_setCell _ _ _ _)).drew,(HS.out _ h2).keepN (Mod.refl _ _).drew⟩
def cameB (L:List (Int × Int)) (o:Option (Nat × Nat)) (r:Int):Bool:=match o with
 | none=>false
 | some x=>workS (some x) (logAtL L x.1).1 r
def cameL (L:List (Int × Int)) (o:Option (Nat × Nat)) (to r:Int):List (Int × Int):=if (cameB L o r&&groupB to)=true then L.set to.toNat ((logAtL L to).1,IntKind.i64.wrap ((logAtL L to).2+1)) else L
theorem came_any (b:Nat) (L:List (Int × Int)) (o:Option (Nat × Nat)) (to r:Int) (w:World) (h:LogAt w b L) (ho:ShOk o) :
 Calls Tryz.prog 229 #[.pointer (some ⟨b,0,none⟩),.int .u64 (shW o:Nat),.int .i64 to,.int .i64 r] w fun e w'=>e=.returned (.bool (cameB L o r))∧Mod (fun x=>x=b) w w'∧LogAt w' b (cameL L o to r):=by
 unfold cameL
 cases o with
 | none =>
   show Calls Tryz.prog 229 #[.pointer (some ⟨b,0,none⟩),.int .u64 0,.int .i64 to,.int .i64 r] w fun e w'=>e=.returned (.bool false)∧Mod (fun x=>x=b) w w'∧LogAt w' b L
   go_enter Tryz.func229,Tryz.ntmps229
   go_wp2_with fail
   refine (look_zero _).mono ?_
   rintro x w1 ⟨rfl,hm1⟩
   go_wp2_with fail
   go_ret
   exact ⟨rfl,hm1.mono (fun _ x=>x.elim),h.keepN hm1⟩
 | some s =>
   obtain ⟨g,c⟩:=s
   have h1:g < 64:=ho.1
   have h2:c < 2 ^ 40:=ho.2
   have HL:=ζh (fun w=>look_some g c (by omega) h2 w)
   obtain ⟨x,hx⟩:∃ x,L[g]?=some x:=⟨_,ζg (by rw [h.len];exact h1)⟩
   have hl:logAtL L (g:Int)=x:=by unfold logAtL;rw [Int.toNat_natCast,List.getD_eq_getElem?_getD,hx];rfl
   have hcb:cameB L (some (g,c)) r=workS (some (g,c)) x.1 r:=by show workS (some (g,c)) (logAtL L (g:Int)).1 r=_;rw [hl]
   have hxf:=h.few x (ζm hx)
   have HW:=ζh (fun w=>work_any (some (g,c)) x.1 r w ho hxf)
   have HG:=ζh (fun w=>shgroup_any (g:Int) w)
   have HT:=ζh (fun w=>shgroup_any to w)
   have e1:groupB (g:Int)=true:=by simp [groupB];omega
   rw [e1] at HG
   rw [hcb]
   obtain ⟨B,hB⟩:∃ B,B=workS (some (g,c)) x.1 r:=⟨_,rfl⟩
   rw [←hB] at HW ⊢
   have e2:shW (some (g,c))=shw g c:=rfl
   rw [e2] at HW ⊢
   obtain ⟨W,hW⟩:∃ W,W=shw g c:=⟨_,rfl⟩
   rw [←hW] at HL HW ⊢
   have HH:=ζh h
   have HX:=ζh hx
   have hgI:(g:Int) < 64:=by omega
   have hgN:0≤(g:Int):=by omega
   clear hW hB hl hcb ho e1 e2
   cases B with
   | false =>
     rw [Bool.false_and,if_neg (by decide)]
     clear hx h
     go_enter Tryz.func229,Tryz.ntmps229
     go_wp2_with fail
     refine (HL.out _).mono ?_
     rintro x1 w1 ⟨rfl,hm1⟩
     go_wp2_with fail
     refine (HG.out _).mono ?_
     rintro x1 w2 ⟨rfl,rfl⟩
     have hc2:=((HH.out.keepN hm1).cells HX.out).1
     go_wp2_with fail
     refine (HW.out _).mono ?_
     rintro x1 w3 ⟨rfl,hm3⟩
     go_wp2_with fail
     go_ret
     exact ⟨rfl,(hm1.trans hm3).mono (fun _ x=>x.elim),(HH.out.keepN hm1).keepN hm3⟩
   | true =>
     rw [Bool.true_and]
     cases hto:groupB to with
     | false =>
       rw [if_neg (by decide)]
       rw [hto] at HT
       clear hx h hto
       go_enter Tryz.func229,Tryz.ntmps229
       go_wp2_with fail
       refine (HL.out _).mono ?_
       rintro x1 w1 ⟨rfl,hm1⟩
       go_wp2_with fail
       refine (HG.out _).mono ?_
       rintro x1 w2 ⟨rfl,rfl⟩
       have hc2:=((HH.out.keepN hm1).cells HX.out).1
       go_wp2_with fail
       refine (HW.out _).mono ?_
       rintro x1 w3 ⟨rfl,hm3⟩
       go_wp2_with fail
       refine (HT.out _).mono ?_
       rintro x1 w4 ⟨rfl,rfl⟩
       go_wp2_with fail
       go_ret
       exact ⟨rfl,(hm1.trans hm3).mono (fun _ x=>x.elim),(HH.out.keepN hm1).keepN hm3⟩
     | true =>
       rw [if_pos rfl]
       rw [hto] at HT
       have hg2:0≤to∧to < 64:=by simpa [groupB] using hto
       obtain ⟨k,rfl⟩:∃ k:Nat,to=k:=⟨to.toNat,by omega⟩
       have hkI:(k:Int) < 64:=by omega
       have hkN:0≤(k:Int):=by omega
       obtain ⟨z,hz⟩:∃ z,L[k]?=some z:=⟨_,ζg (by rw [h.len];omega)⟩
       have hl:logAtL L (k:Int)=z:=by unfold logAtL;rw [Int.toNat_natCast,List.getD_eq_getElem?_getD,hz];rfl
       rw [hl,Int.toNat_natCast]
       have hzf:=h.few z (ζm hz)
       have hset:=fun w (hw:LogAt w b L)=>LogAt.set hw (k:=k) (i:=1) (x:=z) (x':=(z.1,IntKind.i64.wrap (z.2+1))) (IntKind.i64.wrap (z.2+1)) hz (by decide) rfl hzf
       have HZ:=ζh hz
       obtain ⟨y,hy⟩:∃ y,y=IntKind.i64.wrap (z.2+1):=⟨_,rfl⟩
       rw [←hy] at hset ⊢
       have hy':=hy.symm
       have HS:=ζh hset
       clear hx h hto hset hl hz hy hg2
       go_enter Tryz.func229,Tryz.ntmps229
       go_wp2_with fail
       refine (HL.out _).mono ?_
       rintro x1 w1 ⟨rfl,hm1⟩
       go_wp2_with fail
       refine (HG.out _).mono ?_
       rintro x1 w2 ⟨rfl,rfl⟩
       have hc2:=((HH.out.keepN hm1).cells HX.out).1
       go_wp2_with fail
       refine (HW.out _).mono ?_
       rintro x1 w3 ⟨rfl,hm3⟩
       go_wp2_with fail
       refine (HT.out _).mono ?_
       rintro x1 w4 ⟨rfl,rfl⟩
       have h4:=(HH.out.keepN hm1).keepN hm3
       have hc4:=(h4.cells HZ.out).2
       have hf4:=h4.blk.frozen (k * 2+1)
       clear hc2
       go_wp2_with fail
       go_region
       go_wp2_with fail
       go_ret
       exact ⟨rfl,(((hm1.trans hm3).mono (fun _ x=>x.elim)).trans (mod_setCell _ _ _ _)).drew,(HS.out _ h4).keepN (Mod.refl _ _).drew⟩
theorem zeros_log (n:Nat):(List.replicate n ((0:Int),(0:Int))).flatMap ecC=List.replicate (n * 2) (.int .i64 0):=by
 induction n with
 | zero=>rfl
 | succ n ih =>
   rw [List.replicate_succ,List.flatMap_cons,ih,Nat.succ_mul,Nat.add_comm,←List.replicate_append_replicate]
   congr 1
theorem lognew_any (w:World):Calls Tryz.prog 29 #[] w fun e w'=>∃ b,e=.returned (.pointer (some ⟨b,0,none⟩))∧Mod (fun _=>False) w w'∧LogAt w' b (List.replicate 64 (0,0))∧w.heap.size≤b:=by
 go_enter Tryz.func29,Tryz.ntmps29
 go_wp2_with fail
 go_ret
 refine ⟨_,rfl,Mod.alloc' _ _ _,⟨?_,by simp,?_⟩,Nat.le_refl _⟩
 · rw [zeros_log];exact Blk.new _ _ _
 · intro x hx;rw [List.eq_of_mem_replicate hx];omega
end Sha
end Go.Proofs.YtkfoeonggmlebaaGreatDoor
