/-
  Contracts of the program's functions, and plain facts, towards the laws of millpondtop. No condition beyond those that each theorem bears.
-/
import Derived.Test.YtkfoeonggmlebaaGreatDoorRows
import Derived.Shelf.Abstract
import Derived.Shelf.RegionOpen
import Derived.OwnWalkIn
import Derived.TacticsInMore
import Derived.LoopNIn
import Derived.LoopIn
import Derived.Test.YtkfoeonggmlebaaGreatDoorQ01
import Derived.Test.YtkfoeonggmlebaaGreatDoorQ13
import Derived.Test.YtkfoeonggmlebaaGreatDoorQAA
set_option maxRecDepth 100000
set_option maxHeartbeats 4000000
namespace Go.Proofs.YtkfoeonggmlebaaGreatDoor
namespace Tre
open Go.RowKit Go.Shelf
attribute [local go_sem] Oper.semAt_some
structure TreeAt (w:World) (b g c:Nat) (l:List Grp):Prop where
 blk:Blk w b #[.slice (some ⟨g,0,none⟩) l.length c] 98
 row:w.ownsRow 0 95 2 (.slice (some ⟨g,0,none⟩) l.length c) l.length (l.flatMap ecGrp)
 good:TGood l
theorem TreeAt.ne {w:World} {b g c:Nat} {l:List Grp} (h:TreeAt w b g c l):g≠b:=ownsRow_ne_blk h.row h.blk (by decide) g rfl
theorem TreeAt.glt {w:World} {b g c:Nat} {l:List Grp} (h:TreeAt w b g c l):g < w.heap.size:=ownsRow_lt h.row g rfl
theorem TreeAt.keep {S:Nat→Prop} {w w':World} {b g c:Nat} {l:List Grp} (h:TreeAt w b g c l) (hm:Mod S w w') (hb:¬ S b) (hg:¬ S g):TreeAt w' b g c l :=
 ⟨h.blk.keep hm hb,ownsRow_keep h.row hm (fun x hx=>by injection hx with hx;simp only at hx;subst hx;exact hg),h.good⟩
theorem TreeAt.keepN {w w':World} {b g c:Nat} {l:List Grp} (h:TreeAt w b g c l) (hm:Mod (fun _=>False) w w'):TreeAt w' b g c l:=h.keep hm (fun x=>x) (fun x=>x)
theorem TreeAt.head {w:World} {b g c:Nat} {l:List Grp} (h:TreeAt w b g c l):w.cell? ⟨b,0,none⟩=some (.slice (some ⟨g,0,none⟩) l.length c):=by
 rw [h.blk.cell];rfl
theorem TreeAt.cells {w:World} {b g c:Nat} {l:List Grp} (h:TreeAt w b g c l) {k:Nat} {x:Grp} (hk:l[k]?=some x) :
 w.cell? ⟨g,k * 2,none⟩=some (.int .i64 x.up)∧w.cell? ⟨g,k * 2+1,none⟩=some (.bool x.live):=by
 have hlt:=(ζi.1 hk).1
 have h0:=h.row.cellAt (k * 2+0) (by omega)
 have h1:=h.row.cellAt (k * 2+1) (by omega)
 rw [flat_get ecGrp_len l k _ (by omega),hk] at h0 h1
 exact ⟨h0,h1⟩
theorem live_any (b g c:Nat) (l:List Grp) (n:Int) (w:World) (h:TreeAt w b g c l) :
 Calls Tryz.prog 51 #[.pointer (some ⟨b,0,none⟩),.int .i64 n] w fun e w'=>e=.returned (.bool (liveB l n))∧w=w':=by
 have hb:=h.head
 by_cases h0:0≤n
 · by_cases h1:n < l.length
   · obtain ⟨k,rfl⟩:∃ k:Nat,n=k:=⟨n.toNat,by omega⟩
     obtain ⟨x,hx⟩:∃ x,l[k]?=some x:=⟨_,ζg (by omega)⟩
     obtain ⟨c0,c1⟩:=h.cells hx
     rw [live_of hx]
     clear hx
     have d0:decide (0≤(k:Int))=true:=by simp
     have d1:decide ((k:Int) < l.length)=true:=by simp;omega
     go_enter Tryz.func51,Tryz.ntmps51
     go_wp2_with fail
     go_ret
     exact ⟨rfl,rfl⟩
   · rw [live_out (by omega)]
     have d0:decide (0≤n)=true:=by simp [h0]
     have d1:decide (n < l.length)=false:=by simp;omega
     go_enter Tryz.func51,Tryz.ntmps51
     go_wp2_with fail
     go_ret
     exact ⟨rfl,rfl⟩
 · rw [live_neg (by omega)]
   have d0:decide (0≤n)=false:=by simp;omega
   go_enter Tryz.func51,Tryz.ntmps51
   go_wp2_with fail
   go_ret
   exact ⟨rfl,rfl⟩
def encI (n:Int):Value:=.int .i64 n
def leftAt (gb:Nat) (w:World):Nat:=((w.cell? ⟨gb,0,none⟩).map (fun v=>(intOf v+1).toNat)).getD 0
theorem leftAt_of {gb:Nat} {w:World} {n:Int} (h:w.cell? ⟨gb,0,none⟩=some (.int .i64 n)):leftAt gb w=(n+1).toNat:=by
 unfold leftAt;rw [h];rfl
theorem up1_seq (b g c:Nat) (l:List Grp) (n:Int) (tb gb:Nat) (S:Nat→Prop) (w:World) (h:TreeAt w b g c l)
 (htb:Blk w tb #[.pointer (some ⟨b,0,none⟩)] 70) (hgb:Blk w gb #[.int .i64 n] 3) (hS:¬ S b∧¬ S g∧¬ S tb∧¬ S gb) :
 SeqC (P:=Tryz.prog) 237 #[.pointer (some ⟨tb,0,none⟩),.pointer (some ⟨gb,0,none⟩)] encI gb S (chainL l n) w:=by
 intro y J W hmW hJ hY h0
 have hT0:=h.keepN hmW
 have htb0:=htb.keep hmW (fun x=>x)
 have hgb0:=hgb.keep hmW (fun x=>x)
 have n1:gb≠tb:=hgb.ne htb (by decide)
 have n2:gb≠b:=hgb.ne h.blk (by decide)
 have n3:gb≠g:=fun e=>(ownsRow_ne_blk h.row hgb (by decide)) g rfl e.symm
 obtain ⟨S1,S2,S3,S4⟩:=hS
 have hG:=h.good
 clear hmW h htb hgb w
 have ct:=htb0.cell 0
 have cg:=hgb0.cell 0
 simp only [ζa,ζb] at ct cg
 obtain ⟨xs,hxs⟩:∃ xs,xs=chainL l n:=⟨_,rfl⟩
 rw [←hxs] at hY ⊢
 refine callsIn_of_wp Tryz.func237 rfl trivial ?_ rfl
 simp only [Tryz.ntmps237,List.size_toArray,List.length_cons,List.length_nil,Nat.reduceAdd,Nat.reduceSub,Array.replicate_succ,Array.replicate_zero,List.push_toArray,List.append_toArray,List.nil_append,List.cons_append]
 cases hl:liveB l n with
 | false =>
   rw [chain_dead hl] at hxs
   have HX:=ζh hxs
   clear hxs
   gi_wp2_with (refine ⟨trivial,rfl,?_⟩;gi_at_call 51;refine (callsIn_wide.2 (live_any b g c l n _ hT0)).mono ?_;rw [hl];clear hl;rintro e w' ⟨rfl,rfl⟩)
   gi_loopw [] (fun wr=>J [] wr) (fun _=>0)
   case atStart=>exact h0
   case round =>
    have hj:=hrel
    gi_wp2
    go_end0
    rw [HX.out]
    exact ⟨⟨_,rfl⟩,hj⟩
 | true =>
   rw [chain_live hl] at hxs
   have HX:=ζh hxs
   have HL:=ζh hl
   clear hxs
   gi_wp2_with (refine ⟨trivial,rfl,?_⟩;gi_at_call 51;refine (callsIn_wide.2 (live_any b g c l n _ hT0)).mono ?_;rw [hl];clear hl;rintro e w' ⟨rfl,rfl⟩)
   gi_loopw [] (fun wr=>∃ (pre:List Int) (m:Int),xs=pre++ups l m∧(m=-1∨liveB l m=true)∧Blk wr gb #[.int .i64 m] 3∧J pre wr∧Mod (fun i=>S i∨i=gb) W wr) (fun wr=>leftAt gb wr)
   case atStart=>exact ⟨[],n,HX.out,.inr HL.out,hgb0,h0,Mod.refl _ _⟩
   case round =>
    obtain ⟨pre,m,hx,hm,hB,hj,hM⟩:=hrel
    have hc:=hB.cell 0
    simp only [ζa,ζb] at hc
    rcases hm with rfl | hml
    · rw [ups_neg (by decide),List.append_nil] at hx
      subst hx
      have d0:decide ((0:Int)≤-1)=false:=by decide
      gi_wp2
      go_end0
      exact ⟨⟨_,rfl⟩,hj⟩
    · obtain ⟨hcons,hnext⟩:=ups_live_cons hG hml
      have ctr:=hM.keeps ct (by rintro (h | h);exact S3 h;exact n1 h.symm)
      obtain ⟨x,k,rfl,hk,hxk,hxl⟩:=live_get hml
      rw [upOf_of hxk] at hcons hnext
      have d0:decide ((0:Int)≤(k:Int))=true:=by simp
      obtain ⟨fn,tmps,assign,body,hy,hR⟩:=hY pre k wr hj (by rw [hx,hcons];simp)
      dsimp only [encI] at hy
      obtain ⟨wo,rfl⟩:∃ wo:World,wo=wr:=⟨_,rfl⟩
      gi_wp2
      refine ⟨rfl,hR.mono ?_⟩
      clear hR hy
      rintro e B ⟨rfl,hj3,hk3⟩
      have hM3:Mod (fun i=>S i∨i=gb) W B:=hM.trans (hk3.mono (fun i h=>.inl h))
      have hT3:=hT0.keep hM3 (by rintro (h | h);exact S1 h;exact n2 h.symm) (by rintro (h | h);exact S2 h;exact n3 h.symm)
      have hB3:=hB.keep hk3 S4
      have hb3:=hT3.head
      have hc3:=hB3.cell 0
      simp only [ζa,ζb] at hc3
      have hf3:=hB3.frozen 0
      have ct3:=hk3.keeps ctr S3
      obtain ⟨cu3,_⟩:=hT3.cells hxk
      have hmeas:=leftAt_of hc
      have hxs':xs=(pre++[(k:Int)])++ups l x.up:=by rw [hx,hcons];simp
      have hkI:(k:Int) < l.length:=by omega
      have hkN:0≤(k:Int):=by omega
      have hlen:l.length≤64:=hG.le
      have HX':=ζh hxs'
      have HN:=ζh hnext
      have HM:=ζh hmeas
      clear hxs' hnext hmeas hcons hxk hxl hx hml
      gi_wp2
      gi_region
      go_roundw
      case rel =>
       have hset:Mod (fun i=>i=gb) B (B.setCell ⟨gb,0,none⟩ (.int .i64 x.up)).drew:=(mod_setCell B gb 0 _).drew
       exact ⟨_,_,_,_,_,_,_,_,_,_,_,_,_,_,_,_,_,⟨pre++[(k:Int)],x.up,HX'.out,(HN.out).imp (fun h=>h.1) (fun h=>h.1),hB3.set 0 _,hJ _ _ _ hj3 hset,hM3.trans (hset.mono (fun i h=>.inr h))⟩,rfl⟩
      case measure =>
       have e:leftAt gb (B.setCell ⟨gb,0,none⟩ (.int .i64 x.up)).drew=(x.up+1).toNat:=leftAt_of ((hB3.set 0 (.int .i64 x.up)).cell 0)
       rw [HM.out,e]
       rcases HN.out with h | h<;>omega
theorem up_any (b:Nat) (n:Int) (w:World):Calls Tryz.prog 195 #[.pointer (some ⟨b,0,none⟩),.int .i64 n] w fun e w' =>
 e=.returned (.func (.func 237) #[] #[.pointer (some ⟨w.heap.size,0,none⟩),.pointer (some ⟨w.heap.size+1,0,none⟩)])∧w'=(w.alloc (.cells #[.pointer (some ⟨b,0,none⟩)] 70)).alloc (.cells #[.int .i64 n] 3):=by
 go_enter Tryz.func195,Tryz.ntmps195
 go_wp2_with fail
 go_ret
 refine ⟨by simp,rfl⟩
theorem depth_any (b g c:Nat) (l:List Grp) (n:Int) (w:World) (h:TreeAt w b g c l) :
 Calls Tryz.prog 139 #[.pointer (some ⟨b,0,none⟩),.int .i64 n] w fun e w'=>e=.returned (.int .i64 (depthL l n))∧Mod (fun _=>False) w w':=by
 refine (callsIn_wide (n:=0)).1 ?_
 refine callsIn_of_wp_marks Tryz.func139 rfl trivial ?_ rfl
 simp only [Tryz.ntmps139,List.size_toArray,List.length_cons,List.length_nil,Nat.reduceAdd,Nat.reduceSub,Array.replicate_succ,Array.replicate_zero,List.push_toArray,List.append_toArray,List.nil_append,List.cons_append]
 gi_wp2_with (refine ⟨trivial,rfl,?_⟩;gi_at_call 195;refine (callsIn_wide.2 (up_any b n _)).mono ?_;rintro e w' ⟨rfl,rfl⟩)
 obtain ⟨w1,hw1⟩:∃ w1,w1=w.alloc (.cells #[.int .i64 (-1)] 3):=⟨_,rfl⟩
 have b1:Blk w1 w.heap.size #[.int .i64 (-1)] 3:=by rw [hw1];exact Blk.new w _ _
 have m1:Mod (fun _=>False) w w1:=by rw [hw1];exact Mod.alloc' _ _ _
 have s1:w1.heap.size=w.heap.size+1:=by rw [hw1];simp
 rw [←hw1,←s1]
 have b2:=Blk.new w1 #[.pointer (some ⟨b,0,none⟩)] 70
 have m2:=Mod.alloc' (fun _=>False) w1 (.cells #[.pointer (some ⟨b,0,none⟩)] 70)
 have s2:(w1.alloc (.cells #[.pointer (some ⟨b,0,none⟩)] 70)).heap.size=w1.heap.size+1:=by simp
 have b3:=Blk.new (w1.alloc (.cells #[.pointer (some ⟨b,0,none⟩)] 70)) #[.int .i64 n] 3
 have m3:=Mod.alloc' (fun _=>False) (w1.alloc (.cells #[.pointer (some ⟨b,0,none⟩)] 70)) (.cells #[.int .i64 n] 3)
 have s3:((w1.alloc (.cells #[.pointer (some ⟨b,0,none⟩)] 70)).alloc (.cells #[.int .i64 n] 3)).heap.size=w1.heap.size+2:=by simp
 obtain ⟨w3,hw3⟩:∃ w3,w3=(w1.alloc (.cells #[.pointer (some ⟨b,0,none⟩)] 70)).alloc (.cells #[.int .i64 n] 3):=⟨_,rfl⟩
 rw [←hw3] at b3 m3 s3 ⊢
 rw [s2] at b3
 have hm3:Mod (fun _=>False) w1 w3:=m2.trans m3
 have hT3:=h.keepN (m1.trans hm3)
 have hB2:=b2.keep m3 (fun x=>x)
 have hB1:=b1.keep hm3 (fun x=>x)
 clear hw3 hw1 m2 m3 b2 b1
 have hbl:=h.blk.lt
 have hgl:=h.glt
 refine wp_range_cap (gf:=237) (lb:=#[.pointer (some ⟨w1.heap.size,0,none⟩),.pointer (some ⟨w1.heap.size+1,0,none⟩)]) rfl (enters_of Tryz.func237 (by kernel_rfl) rfl)
  (up1_seq b g c l n w1.heap.size (w1.heap.size+1) (fun i=>i=w.heap.size∨w3.heap.size≤i) w3 hT3 hB2 b3 ⟨by omega,by omega,by omega,by omega⟩) rfl (by omega) (fun i hi=>.inr hi)
  (fun pre W=>Blk W w.heap.size #[.int .i64 (pre.length - 1)] 3∧Mod (fun _=>False) w W) ?hJ ?h0 (fun x=>{ tmps:=#[.pointer (some ⟨b,0,none⟩),.int .i64 n,undef,undef,.int .i64 0,.pointer (some ⟨w.heap.size,0,none⟩),.pointer (some ⟨b,0,none⟩),.int .i64 n,.func (.func 237) #[] #[.pointer (some ⟨w1.heap.size,0,none⟩),.pointer (some ⟨w1.heap.size+1,0,none⟩)],.int .i64 x,undef,undef,undef],defers:=[] }) ?assign ?body ?done
 case hJ =>
  rintro pre A B ⟨h1,h2⟩ hm
  have:=h1.lt
  exact ⟨h1.keep hm (by omega),h2.trans' hm (fun i hi h=>by omega)⟩
 case h0=>exact ⟨hB1,m1.trans hm3⟩
 case assign =>
  intro l x W K hK
  clear s1 s2 s3
  gi_wp2
  simpa [encI] using hK
 case body =>
  rintro l pre x W ⟨h1,h2⟩ hlen hsz
  have hc:=h1.cell 0
  simp only [ζa,ζb] at hc
  have hf:=h1.frozen 0
  have hle:=chain_le hT3.good n
  have hset:=h1.set 0 (.int .i64 ((pre++[x]).length - 1))
  have hms:=mod_setCell W w.heap.size 0 (.int .i64 ((pre++[x]).length - 1))
  have e:((pre++[x]).length:Int) - 1=pre.length:=by simp
  rw [e] at hset hms ⊢
  have z1:=ζh s1
  have z2:=ζh s3
  clear e s1 s2 s3
  gi_wp2
  have s1:=z1.out
  have s3:=z2.out
  exact ⟨⟨hset,h2.trans' hms (fun i hi h=>by omega)⟩,hms.mono (fun i h=>by omega)⟩
 case done =>
  rintro W ⟨h1,h2⟩ hK
  have hc:=h1.cell 0
  simp only [ζa,ζb] at hc
  clear s1 s2 s3
  gi_wp2
  refine ⟨by simp,.inl ⟨_,_,rfl,run_takeDeferred hK,?_⟩⟩
  exact ⟨_,results_tmp rfl _ _ _,rfl,h2.putObj (.inr (by have:=hm3.size;have:=m1.size;omega)) _⟩
end Tre
end Go.Proofs.YtkfoeonggmlebaaGreatDoor
