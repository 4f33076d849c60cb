/-
  Contracts of the program's functions, and plain facts, towards the laws of millpondtop. No condition beyond those that each theorem bears.
-/
import Derived.OwnWalk
import Derived.Test.YtkfoeonggmlebaaGreatDoorQ04
import Derived.Test.YtkfoeonggmlebaaGreatDoorQAA
set_option maxRecDepth 100000
set_option maxHeartbeats 4000000
namespace Go.Proofs.YtkfoeonggmlebaaGreatDoor
namespace Pol
open Go.RowKit
theorem info_u64:(Tryz.prog.info? 181).map (fun i=>(i.zero,i.size,i.bytes))=some (some (.int .u64 0),1,8):=by kernel_rfl
theorem packW_off:∀ n,packW (List.replicate n false)=0:=by
 intro n
 induction n with
 | zero=>rfl
 | succ n ih=>rw [List.replicate_succ,packW_cons,ih];rfl
theorem wordsOf_off:∀ k n,wordsOf k (List.replicate n false)=List.replicate k 0:=by
 intro k
 induction k with
 | zero=>intro n;rfl
 | succ k ih=>intro n;rw [wordsOf,List.take_replicate,List.drop_replicate,packW_off,ih,List.replicate_succ]
theorem made_one (v:Value) (hv:v.cells=#[v]) (n:Nat):(madeCells v.cells (n * 1)).toList=List.replicate n v:=by
 rw [hv]
 unfold madeCells
 apply List.ext_getElem
 · simp
 · intro i h1 h2
   simp [Nat.mod_one]
theorem bnew_any (n:Int) (hn:n≤1024) (w:World) :
 Calls Tryz.prog 79 #[.int .i64 n] w fun e w'=>∃ m g c,e=.returned (.pointer (some ⟨m,0,none⟩))∧Mod (fun _=>False) w w'∧BitsAt w' m g c (List.replicate n.toNat false)∧w.heap.size≤m∧w.heap.size≤g:=by
 obtain ⟨iU,hiU,hzU,hsU,hbU⟩:=info_parts info_u64
 have HIU:=ζh hiU
 have HZU:=ζh hzU
 have HSU:=ζh hsU
 have HBU:=ζh hbU
 clear hiU hzU hsU hbU
 obtain ⟨k,hk⟩:∃ k:Nat,k=n.toNat:=⟨_,rfl⟩
 rw [←hk]
 have hk1:k≤1024:=by omega
 obtain ⟨q,hq⟩:∃ q:Nat,q=(k+63) / 64:=⟨_,rfl⟩
 have eq1:((k:Int)+64 - 1) / 64=(q:Int):=by omega
 have eq2:((k:Int)+63) / 64=(q:Int):=by omega
 have HQ:=ζh hq
 have d1:decide ((65536:Int) < (k:Int))=false:=decide_eq_false (by omega)
 have d2:decide (65536 < k)=false:=decide_eq_false (by omega)
 by_cases h0:n < 0
 case' pos =>
  have d0:decide (n < 0)=true:=by simp [h0]
  have hk0:k=0:=by omega
  subst hk0
  obtain rfl:q=0:=by omega
  clear eq1 eq2 hk hq
 case' neg =>
  have d0:decide (n < 0)=false:=by simp;omega
  obtain rfl:n=(k:Int):=by omega
  clear hk hq eq2
 case pos =>
  go_enter Tryz.func79,Tryz.ntmps79
  go_wp2_with (at_make;go_loud (refine wpList_make_full _ rfl _ _ 219 rfl 0 181 iU _ 1 Tryz.underlying219 HIU.out HZU.out HSU.out .i64 .i64 0 0 0 rfl rfl rfl rfl (by rw [HBU.out];omega) (by unfold maxLen;omega) (Nat.zero_le _) ?_;intro w4 o4 gr4;rw [made_one _ rfl] at o4))
  go_ret
  have hm4:Mod (fun _=>False) w w4:=(Mod.refl _ _).grown gr4 (fun k hk=>by cases hk)
  have hlt:w.heap.size < w4.heap.size:=ownsRow_lt o4 _ rfl
  have hq':=HQ.out
  refine ⟨_,rfl,hm4.trans (Mod.alloc' _ _ _),w.heap.size,⟨0,?_,?_,by simp⟩,Nat.le_of_lt hlt,Nat.le_refl _⟩
  · exact Blk.new _ _ _
  · exact ownsRow_keep o4 (Mod.alloc' (fun _=>False) _ _) (fun _ _ x=>x)
 case neg =>
  go_enter Tryz.func79,Tryz.ntmps79
  go_wp2_with (at_make;go_loud (refine wpList_make_full _ rfl _ _ 219 rfl 0 181 iU _ 1 Tryz.underlying219 HIU.out HZU.out HSU.out .i64 .i64 q q q rfl rfl rfl rfl (by rw [HBU.out];omega) (by unfold maxLen;omega) (Nat.zero_le _) ?_;intro w4 o4 gr4;rw [made_one _ rfl] at o4))
  go_ret
  have hm4:Mod (fun _=>False) w w4:=(Mod.refl _ _).grown gr4 (fun k hk=>by cases hk)
  have hlt:w.heap.size < w4.heap.size:=ownsRow_lt o4 _ rfl
  have hq':=HQ.out
  refine ⟨_,rfl,hm4.trans (Mod.alloc' _ _ _),w.heap.size,⟨q,?_,?_,by simp;omega⟩,Nat.le_of_lt hlt,Nat.le_refl _⟩
  · have h:=Blk.new w4 #[.int .i64 ((List.replicate k false).length:Nat),.slice (some ⟨w.heap.size,0,none⟩) (((List.replicate k false).length+63) / 64) q] 221
    have e:((List.replicate k false).length+63) / 64=q:=by rw [List.length_replicate];omega
    rw [e] at h ⊢
    rw [List.length_replicate] at h ⊢
    exact h
  · have e:((List.replicate k false).length+63) / 64=q:=by rw [List.length_replicate];omega
    rw [e,wordsOf_off,List.map_replicate]
    exact ownsRow_keep o4 (Mod.alloc' (fun _=>False) _ _) (fun _ _ x=>x)
theorem pnew_any (n:Int) (w:World) :
 Calls Tryz.prog 46 #[.int .i64 n] w fun e w'=>∃ p m g c,e=.returned (.pointer (some ⟨p,0,none⟩))∧Mod (fun _=>False) w w'∧PoolAt w' p m g c (List.replicate (min n 1024).toNat false)∧w.heap.size≤p∧w.heap.size≤m∧w.heap.size≤g:=by
 have hb:=bnew_any (min n 1024) (by omega) w
 by_cases h:1024 < n
 case' pos =>
  have d0:decide (1024 < n)=true:=decide_eq_true h
  have em:min n 1024=1024:=by omega
 case' neg =>
  have d0:decide (1024 < n)=false:=decide_eq_false h
  have em:min n 1024=n:=by omega
 all_goals
  rw [em] at hb ⊢
  clear em
  have HB:=ζh hb
  clear hb
  go_enter Tryz.func46,Tryz.ntmps46
  go_wp2_with fail
  refine HB.out.mono ?_
  rintro e w1 ⟨m,g,c,rfl,hm,hbits,h1,h2⟩
  go_wp2_with fail
  go_ret
  have hs:=hm.size
  exact ⟨_,m,g,c,rfl,hm.trans (Mod.alloc' _ _ _),⟨Blk.new _ _ _,hbits.keepN (Mod.alloc' _ _ _)⟩,hs,h1,h2⟩
end Pol
end Go.Proofs.YtkfoeonggmlebaaGreatDoor
