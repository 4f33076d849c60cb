/-
  Contracts of the program's functions, and plain facts, towards the laws of millpondtop. No condition beyond those that each theorem bears.
-/
import Derived.Test.YtkfoeonggmlebaaGreatDoorQ28
import Derived.Test.YtkfoeonggmlebaaGreatDoorQAA
set_option maxRecDepth 100000
set_option maxHeartbeats 4000000
namespace Go.Proofs.YtkfoeonggmlebaaGreatDoor
section
open Go.RowKit Go.Shelf Go.ChangeShapes Go.WideShapes
attribute [local go_sem] Oper.semAt_some
variable {w0 w:World} {F0:Nat→Prop} {A:Part} {K:CK} {c:CoM} {ls:List Part}
theorem Step.rowNil {T:TypeId} {sz:Nat} (st:Step w0 F0 (A::ls) w):Step w0 F0 (A::rowP T sz (.slice none 0 0) 0 []::ls) w :=
 (st.push (A:=rowP T sz (.slice none 0 0) 0 []) (F:=fun x=>(Value.slice none 0 0).ownBlock=some x) (Mod.refl _ _) ⟨⟨by simp,.inl ⟨rfl,rfl⟩⟩,rfl⟩ (fun x hx=>by cases hx)).swap
theorem Step.mapTail {l l':List Part} (st:Step w0 F0 (A::l) w) (h:∀ F,Sep l w F→∃ F',Sep l' w F'∧∀ x,F' x→F x):Step w0 F0 (A::l') w:=by
 obtain ⟨F,⟨F1,F2,h1,h2,h3,h4⟩,hg,hF⟩:=st.sep
 obtain ⟨F',h5,h6⟩:=h F2 h2
 exact ⟨st.mod,st.tab,fun x=>F1 x∨F' x,⟨F1,F',h1,h5,fun x hx h=>h3 x hx (h6 x h),fun x=>Iff.rfl⟩,fun x hx=>hg x ((h4 x).2 (hx.imp_right (h6 x))),fun hx=>hF ((h4 _).2 (hx.imp_right (h6 _)))⟩
theorem Sep.drop2 {B C:Part} {F:Nat→Prop} (h:Sep (B::C::ls) w F):∃ F',Sep (B::ls) w F'∧∀ x,F' x→F x:=by
 obtain ⟨F1,F2,h1,⟨F3,F4,h5,h6,h7,h8⟩,h3,h4⟩:=h
 refine ⟨fun x=>F1 x∨F4 x,⟨F1,F4,h1,h6,fun x hx h=>h3 x hx ((h8 x).2 (.inr h)),fun x=>Iff.rfl⟩,fun x hx=>(h4 x).2 (hx.imp_right fun h=>(h8 x).2 (.inr h))⟩
theorem Sep.swap {B C:Part} {F:Nat→Prop} (h:Sep (B::C::ls) w F):∃ F',Sep (C::B::ls) w F'∧∀ x,F' x→F x:=by
 obtain ⟨F1,F2,h1,⟨F3,F4,h5,h6,h7,h8⟩,h3,h4⟩:=h
 refine ⟨F,⟨F3,fun x=>F1 x∨F4 x,h5,⟨F1,F4,h1,h6,fun x hx h=>h3 x hx ((h8 x).2 (.inr h)),fun x=>Iff.rfl⟩,?_,?_⟩,fun x hx=>hx⟩
 · rintro x hx (h | h)
   · exact h3 x h ((h8 x).2 (.inl hx))
   · exact h7 x hx h
 · intro x
   have e:=h4 x
   have e':=h8 x
   grind
theorem Step.drop3 {B C:Part} (st:Step w0 F0 (A::B::C::ls) w):Step w0 F0 (A::B::ls) w:=st.mapTail fun _ h=>h.drop2
theorem Step.appd {w2:World} {T:TypeId} {sz n g cap:Nat} {v:Value} {xs news:List Value} {o:Obj} (st:Step w0 F0 (A::rowP T sz v n xs::ls) w) (o2:w2.ownsRow 0 T sz (.slice (some ⟨g,0,none⟩) (n+1) cap) (n+1) (xs++news))
 (m2:Mod (fun q=>some q=v.ownBlock) (w.alloc o) w2) (hg:v.ownBlock=some g∨g=(w.alloc o).heap.size):Step w0 F0 (A::rowP T sz (.slice (some ⟨g,0,none⟩) (n+1) cap) (n+1) (xs++news)::ls) w2 :=
 Step.rowGo (st.still (Mod.alloc' _ w o)) (m2.mono (fun q h=>h.symm)) o2 (fun q hq=>by
  have e:g=q:=(by simpa [Value.ownBlock] using hq)
  subst e
  rcases hg with h | h
  · exact .inl h
  · exact .inr (by omega))
theorem rowsOf {α:Type} {ec:α→List Value} {sz:Nat} (hec:∀ x,(ec x).length=sz) {w:World} {base T n:Nat} {v:Value} {xs:List α} (h:w.ownsRow base T sz v n (xs.flatMap ec)) (hn:n=xs.length):RowsAt ec sz w v xs:=by
 subst hn
 rcases id h.2 with ⟨rfl,h0⟩ | ⟨g,cap,cur,rfl,_,hg,hc,hm,hs,ht⟩
 · exact ⟨none,0,by rw [h0],by omega,by unfold maxLen;omega,fun j x hj=>by have:=(ζi.1 hj).1;omega⟩
 · refine ⟨_,cap,rfl,hc,hm,fun j x hj=>⟨g,0,rfl,fun i hi=>?_⟩⟩
   have hlt:=(ζi.1 hj).1
   rw [Nat.zero_add,h.cellAt (j * sz+i) (by calc j * sz+i < j * sz+sz:=by omega
    _=(j+1) * sz:=by rw [Nat.succ_mul]
    _≤xs.length * sz:=Nat.mul_le_mul_right _ hlt),flat_get hec xs j i hi,hj]
   rfl
theorem coreRow {T sz n:Nat} {v:Value} {xs:List Value} (i:Nat) (st:Step w0 F0 (coreP K c::ls) w) (hi:(coreL K c)[i]?=some (rowP T sz v n xs)):w.ownsRow 0 T sz v n xs:=by
 obtain ⟨F1,⟨h,_⟩,_⟩:=corePart i st hi
 exact h
theorem core_gu (st:Step w0 F0 (coreP K c::ls) w):w.ownsRow 0 164 3 K.gv c.guards.length (c.guards.flatMap ecGu):=coreRow 13 st rfl
theorem core_up (st:Step w0 F0 (coreP K c::ls) w):w.ownsRow 0 3 1 K.uv c.up.length (c.up.map encI):=coreRow 14 st rfl
theorem nodes_len (c:CoM) (own:GuM→Int):(c.nodes own).length=c.guards.length:=by unfold CoM.nodes;simp
theorem nodes_get {c:CoM} {own:GuM→Int} {k:Nat} (hk:k < c.guards.length):(c.nodes own)[k]?=some (if c.live k then ⟨c.up.getD k 0,c.mem k,own (c.guards.getD k ⟨0,0,false⟩)⟩ else ⟨c.up.getD k 0,0,0⟩):=by
 unfold CoM.nodes
 rw [List.getElem?_map,List.getElem?_range hk]
 rfl
theorem held_len (c:CoM) (t:Int) (own:GuM→Int):(c.held t own).length=c.guards.length:=by unfold CoM.held;simp
theorem held_take {c:CoM} {t:Int} {own:GuM→Int} {k:Nat} (hk:k < c.guards.length):(c.held t own).take (k+1)=(c.held t own).take k++[heldN (c.nodes own) (effN (c.nodes own) t) t k]:=by
 have:(c.held t own)[k]?=some (heldN (c.nodes own) (effN (c.nodes own) t) t k):=by
  unfold CoM.held
  rw [List.getElem?_map,List.getElem?_range hk]
  rfl
 exact Tre.take_succ_get this
theorem gu_cells {w:World} {a:Option Addr} {n c:Nat} {l:List GuM} (h:RowsAt ecGu 3 w (.slice a n c) l) {j:Nat} {x:GuM} (hj:l[j]?=some x):∃ b off,a=some ⟨b,off,none⟩ ∧
 w.cell? ⟨b,off+j * 3,none⟩=some (.int .i64 x.min)∧w.cell? ⟨b,off+j * 3+1,none⟩=some (.int .i64 x.low)∧w.cell? ⟨b,off+j * 3+2,none⟩=some (.bool x.whole):=by
 obtain ⟨a',cap,h1,h2,h3,h4⟩:=h
 injection h1 with e1 e2 e3
 subst e1
 obtain ⟨b,off,h5,h6⟩:=h4 j _ hj
 exact ⟨b,off,h5,by have:=h6 0 (by omega);simp only [Nat.add_zero] at this;exact this,h6 1 (by omega),h6 2 (by omega)⟩
theorem lim3 {w:World} {xb nb:Nat} {X Y Z:Value} {TX TN:TypeId} {u:Int} (hx:Blk w xb #[X,Y,Z] TX) (hn:∃ a b:Int,Blk w nb #[.int .i64 u,.int .i64 a,.int .i64 b] TN) :
 w.cell? ⟨xb,0,none⟩=some X∧w.cell? ⟨xb,1,none⟩=some Y∧w.cell? ⟨xb,2,none⟩=some Z∧w.cell? ⟨nb,1,none⟩=some (.int .i64 (Pro.rdI w nb 1))∧w.cell? ⟨nb,2,none⟩=some (.int .i64 (Pro.rdI w nb 2))∧w.frozen? ⟨nb,1,none⟩=false∧w.frozen? ⟨nb,2,none⟩=false:=by
 obtain ⟨a,b,hn⟩:=hn
 exact ⟨hx.cell 0,hx.cell 1,hx.cell 2,Pro.rdI_same (hn.cell 1),Pro.rdI_same (hn.cell 2),hn.frozen 1,hn.frozen 2⟩
theorem blk_set1 {w:World} {nb:Nat} {T:TypeId} {u a b:Int} (h:Blk w nb #[.int .i64 u,.int .i64 a,.int .i64 b] T) (z:Int):Blk (w.setCell ⟨nb,1,none⟩ (.int .i64 z)) nb #[.int .i64 u,.int .i64 z,.int .i64 b] T:=h.set 1 _
theorem blk_set2 {w:World} {nb:Nat} {T:TypeId} {u a b:Int} (h:Blk w nb #[.int .i64 u,.int .i64 a,.int .i64 b] T) (z:Int):Blk (w.setCell ⟨nb,2,none⟩ (.int .i64 z)) nb #[.int .i64 u,.int .i64 a,.int .i64 z] T:=h.set 2 _
theorem set_fill {α:Type} {A:List α} {k j:Nat} (x y:α) (hl:A.length=j) (hj:j < k):(A++List.replicate (k - j) y).set j x=A++[x]++List.replicate (k - (j+1)) y:=by
 subst hl
 rw [show k - A.length=(k - (A.length+1))+1 by omega,List.replicate_succ,List.set_append_right _ _ (Nat.le_refl _),Nat.sub_self]
 simp
theorem get_fill {α:Type} {A:List α} {k j:Nat} (y:α) (hl:A.length=j) (hj:j < k):(A++List.replicate (k - j) y)[j]?=some y:=by
 subst hl
 rw [List.getElem?_append_right (Nat.le_refl _),Nat.sub_self,List.getElem?_replicate,if_pos (by omega)]
theorem info_node:(Tryz.prog.info? 237).map (fun i=>(i.zero,i.size,i.bytes))=some (some (.agg #[.int .i64 0,.int .i64 0,.int .i64 0]),3,24):=by kernel_rfl
theorem info_bool:(Tryz.prog.info? 4).map (fun i=>(i.zero,i.size,i.bytes))=some (some (.bool false),1,1):=by kernel_rfl
theorem core_heldMins (t:Int) (hsm:∀ g,c.mem g≤33554432) (st:Step w0 F0 (coreP K c::ls) w) :
 Calls Tryz.prog 92 #[.pointer (some ⟨K.b,0,none⟩),.int .i64 t,.func (.func 93) #[] #[]] w fun e w'=>∃ v,e=.returned v∧Step w0 F0 (coreP K c::rowP 4 1 v c.guards.length ((c.held t GuM.min).map Value.bool)::ls) w':=by
 have h12:=core_h12 st
 have h13:=core_h13 st
 obtain ⟨ga,gc,hgv⟩:=ownsRow_form (core_gu st)
 obtain ⟨ua,uc,huv⟩:=ownsRow_form (core_up st)
 obtain ⟨ga',gc',hgv',hgc,hgm⟩:=Pro.rows_form (rowsOf ecGu_len (core_gu st) rfl)
 have hin:=coreInv st
 obtain ⟨n,hn⟩:∃ n,n=c.guards.length:=⟨_,rfl⟩
 have hun:c.up.length=n:=by rw [hn,hin.gl,hin.ul]
 have hnm:n≤maxLen:=by rw [hn];omega
 unfold maxLen at hnm
 rw [hgv] at h12
 rw [huv,hun] at h13
 rw [←hn] at h12 ⊢
 have HN:=ζh hn
 have HGV:=ζh hgv
 have HUV:=ζh huv
 have HUN:=ζh hun
 have HSM:=ζh hsm
 have hn64:n≤64:=by rw [hn,hin.gl];exact hin.good.le
 have st1:=st.rowNil (T:=237) (sz:=3)
 have ST:=ζh st1
 clear hn hgv huv hun hgv' hgc hgm hin hsm st st1
 go_enter Tryz.func92,Tryz.ntmps92
 go_wp2_with fail
 go_loopw [7,19] (fun v i wr=>∃ k:Nat,k≤n∧i=.int .i64 k∧Step w0 F0 (coreP K c::rowP 237 3 v k (((c.nodes GuM.min).take k).flatMap Pro.ecNd)::ls) wr) (fun _ i _=>n - (intOf i).toNat)
 case atStart=>exact ⟨0,by omega,rfl,ST.out⟩
 case round =>
  obtain ⟨k,hk,rfl,hst⟩:=hrel
  obtain ⟨wo,rfl⟩:∃ wo:World,wo=wr:=⟨_,rfl⟩
  clear h12 h13 ST
  by_cases hlt:k < n
  · have hkI:(k:Int) < n:=by omega
    have hkN:0≤(k:Int):=by omega
    have hkg:k < c.guards.length:=by rw [←HN.out];exact hlt
    have hku:k < c.up.length:=by rw [HUN.out];exact hlt
    obtain ⟨x,hx⟩:∃ x,c.guards[k]?=some x:=⟨_,ζg hkg⟩
    obtain ⟨u,hu⟩:∃ u,c.up[k]?=some u:=⟨_,ζg hku⟩
    have HU:=ζh hu
    have hng:=nodes_get (own:=GuM.min) hkg
    rw [show c.up.getD k 0=u by simp [hu],show c.guards.getD k ⟨0,0,false⟩=x by simp [hx]] at hng
    have HNG:=ζh hng
    have hgr:=rowsOf ecGu_len (core_gu hst) rfl
    have hur:=ints_of_row (core_up hst)
    rw [HGV.out] at hgr
    rw [HUV.out] at hur
    obtain ⟨gb,goff,rfl,g0,g1,g2⟩:=gu_cells hgr hx
    obtain ⟨ub,uoff,rfl,u0⟩:=Tre.intsAt_get hur hu
    have HST:=ζh hst
    clear hng hgr hur hx hu hkg hku hst u0
    go_upto_region 5 with fail
    obtain ⟨wx,hnwx⟩:∃ wx,wx=wo.alloc (.cells #[.int .i64 x.min,.int .i64 x.low,.bool x.whole] 164):=⟨_,rfl⟩
    have stwx:=(HST.out).local (cs:=#[.int .i64 x.min,.int .i64 x.low,.bool x.whole]) (T:=164)
    rw [←hnwx] at stwx ⊢
    clear hnwx
    have h13:=core_h13 stwx
    rw [HUV.out,HUN.out] at h13
    have hur:=ints_of_row (core_up stwx)
    rw [HUV.out] at hur
    obtain ⟨ub',uoff',e',u0⟩:=Tre.intsAt_get hur HU.out
    obtain ⟨rfl,rfl⟩:ub=ub'∧uoff=uoff':=by
     injection e' with e'
     injection e' with e1 e2 _
     exact ⟨e1,e2⟩
    have STX:=ζh stwx
    clear stwx hur e' g0 g1 g2
    go_upto_region 6 with fail
    obtain ⟨wn,hnwn⟩:∃ wn,wn=wx.alloc (.cells #[.int .i64 u,.int .i64 0,.int .i64 0] 237):=⟨_,rfl⟩
    have stwn:=(STX.out).local (cs:=#[.int .i64 u,.int .i64 0,.int .i64 0]) (T:=237)
    rw [←hnwn] at stwn ⊢
    clear hnwn
    have h0:=core_h0 stwn
    have hli:=c_live k stwn
    have n0:=stwn.blk1
    have x0:=stwn.blk2
    have n00:=n0.cell 0
    have n01:=n0.cell 1
    have n02:=n0.cell 2
    simp only [ζa,ζb,ζc] at n00 n01 n02
    have x00:=x0.cell 0
    have x01:=x0.cell 1
    have x02:=x0.cell 2
    simp only [ζa,ζb,ζc] at x00 x01 x02
    have STN:=ζh stwn
    obtain ⟨L,hL⟩:∃ L,L=c.live (k:Int):=⟨_,rfl⟩
    rw [←hL] at hli
    have hng:=HNG.out
    rw [←hL] at hng
    have HNG2:=ζh hng
    have HLI:=ζh hli
    clear h13 u0 stwn hL hng hli HNG
    cases L with
    | false =>
      replace HNG2:=ζh (show (c.nodes GuM.min)[k]?=some ⟨u,0,0⟩ by have:=HNG2.out;simpa using this)
      go_wp2_with fail
      refine HLI.out.mono ?_
      rintro e w3 ⟨rfl,rfl⟩
      have STD:=STN.out.drop2.drop2
      clear STN STX
      have HR:=STD.row1
      go_wp2_with (at_builtin;refine wpList_app rfl _ _ 235 rfl 0 237 _ 3 24 Tryz.underlying235 info_node rfl (by decide) (by decide) u7 k _ rfl (HR.alloc _) ⟨wn.heap.size,0,none⟩ 1 [.int .i64 u,.int .i64 0,.int .i64 0] rfl rfl (World.news_of_block (cs:=#[.int .i64 u,.int .i64 0,.int .i64 0]) (t:=237) (fr:=(0,0)) (heap_alloc_new wn _)) (by simp [Value.oneCell']) (by omega) (Nat.zero_le _) ?_;intro g1 cap1 w9 o9 m9 hg9 hlt9)
      have ST9:=Step.appd STD o9 m9 hg9
      have e9:((c.nodes GuM.min).take k).flatMap Pro.ecNd++[.int .i64 u,.int .i64 0,.int .i64 0]=((c.nodes GuM.min).take (k+1)).flatMap Pro.ecNd:=by
       rw [Tre.take_succ_get HNG2.out,List.flatMap_append];rfl
      rw [e9] at ST9
      have HS9:=ζh ST9
      clear HR o9 m9 hg9 hlt9 e9 ST9
      go_wp2_with fail
      go_roundw
      case rel=>exact ⟨k+1,by omega,by go_num,HS9.out⟩
      case measure=>simp [intOf];omega
    | true =>
      replace HNG2:=ζh (show (c.nodes GuM.min)[k]?=some ⟨u,c.mem k,x.min⟩ by have:=HNG2.out;simpa using this)
      go_wp2_with fail
      refine HLI.out.mono ?_
      rintro e w3 ⟨rfl,rfl⟩
      have hme:=ζh (core_mem k STN.out.drew)
      have hfn:=fun w=>cmins_any x w
      unfold ecGu at hfn
      have HFN:=ζh hfn
      clear hfn
      have hxn:wo.heap.size≠wx.heap.size:=x0.ne n0 (by decide)
      clear n00 n01 n02 x00 x01 x02 h0
      go_wp2_with fail
      go_region_held3 (fun w'=>w'.cell? ⟨wo.heap.size,0,none⟩=some (.int .i64 x.min)∧w'.cell? ⟨wo.heap.size,1,none⟩=some (.int .i64 x.low)∧w'.cell? ⟨wo.heap.size,2,none⟩=some (.bool x.whole)∧w'.cell? ⟨wx.heap.size,1,none⟩=some (.int .i64 (Pro.rdI w' wx.heap.size 1))∧w'.cell? ⟨wx.heap.size,2,none⟩=some (.int .i64 (Pro.rdI w' wx.heap.size 2))∧w'.frozen? ⟨wx.heap.size,1,none⟩=false∧w'.frozen? ⟨wx.heap.size,2,none⟩=false)
       (first | exact lim3 x0 ⟨_,_,n0⟩ | exact lim3 q0 ⟨_,_,q1⟩ | exact lim3 r0 ⟨_,_,r1⟩ | exact lim3 (r0.setOther _ _ hxn) ⟨_,_,blk_set1 r1 _⟩ | exact lim3 ((r0.setOther _ _ hxn).setOther _ _ hxn) ⟨_,_,blk_set2 (blk_set1 r1 _) _⟩) (first
         | (go_at_call 158;refine hme.out.mono ?_;rintro e w4 ⟨rfl,st4⟩;have q0:=st4.blk2;have q1:=st4.blk1)
         | (go_at_call 93;refine (HFN.out _).mono ?_;rintro e w5 ⟨rfl,hm5⟩;have st5:=st4.still hm5;have r0:=st5.blk2;have r1:=st5.blk1))
      have st7:=(st5.set1 (j:=1) (v:=.int .i64 (c.mem k))).set1 (j:=2) (v:=.int .i64 x.min)
      obtain ⟨w7,hw7⟩:∃ w7,w7=(w5.setCell ⟨wx.heap.size,1,none⟩ (.int .i64 (c.mem k))).setCell ⟨wx.heap.size,2,none⟩ (.int .i64 x.min):=⟨_,rfl⟩
      rw [←hw7] at st7 ⊢
      have n7:=st7.blk1
      have n70:=n7.cell 0
      have n71:=n7.cell 1
      have n72:=n7.cell 2
      simp at n70 n71 n72
      have STD:=st7.drop2.drop2
      clear hw7 st7 n7 st4 st5 hm5 q0 q1 r0 r1 n0 x0 STN STX hme HFN HLI hxn
      try clear hHeld
      have HR:=STD.row1
      go_wp2_with (at_builtin;refine wpList_app rfl _ _ 235 rfl 0 237 _ 3 24 Tryz.underlying235 info_node rfl (by decide) (by decide) u7 k _ rfl (HR.alloc _) ⟨w7.heap.size,0,none⟩ 1 [.int .i64 u,.int .i64 (c.mem k),.int .i64 x.min] rfl rfl (World.news_of_block (cs:=#[.int .i64 u,.int .i64 (c.mem k),.int .i64 x.min]) (t:=237) (fr:=(0,0)) (heap_alloc_new w7 _)) (by simp [Value.oneCell']) (by omega) (Nat.zero_le _) ?_;intro g1 cap1 w9 o9 m9 hg9 hlt9)
      have ST9:=Step.appd STD o9 m9 hg9
      have e9:((c.nodes GuM.min).take k).flatMap Pro.ecNd++[.int .i64 u,.int .i64 (c.mem k),.int .i64 x.min]=((c.nodes GuM.min).take (k+1)).flatMap Pro.ecNd:=by
       rw [Tre.take_succ_get HNG2.out,List.flatMap_append];rfl
      rw [e9] at ST9
      have HS9:=ζh ST9
      clear HR o9 m9 hg9 hlt9 e9 ST9
      go_wp2_with fail
      go_roundw
      case rel=>exact ⟨k+1,by omega,by go_num,HS9.out⟩
      case measure=>simp [intOf];omega
  · obtain rfl:k=n:=by omega
    have htk:(c.nodes GuM.min).take k=c.nodes GuM.min:=List.take_of_length_le (by rw [nodes_len,←HN.out];omega)
    rw [htk] at hst
    obtain ⟨va,vc,rfl⟩:=ownsRow_form hst.row1
    have hnl:(c.nodes GuM.min).length=k:=by rw [nodes_len,←HN.out]
    have hrow:=rowsOf Pro.ecNd_len hst.row1 hnl.symm
    have hef:=Pro.preff_any (c.nodes GuM.min) _ t wo hrow (fun x hx=>by
     obtain ⟨j,hj,rfl⟩:=List.mem_iff_getElem.1 hx
     have hj':j < c.guards.length:=by rw [nodes_len] at hj;exact hj
     have:=nodes_get (own:=GuM.min) hj'
     rw [ζg hj] at this
     injection this with this
     rw [this]
     unfold ownN
     split
     · simp only;have:=HSM.out j;omega
     · simp only;omega)
    have HEF:=ζh hef
    have HNL:=ζh hnl
    have HST:=ζh hst
    clear hk hlt htk hnl hrow hef hst
    go_wp2_with fail
    refine HEF.out.mono ?_
    rintro e w1 ⟨u,rfl,hm1,hu1⟩
    have st1:=HST.out.still hm1
    obtain ⟨i1,hi1,hz1,hs1,hb1⟩:=info_parts info_bool
    have HI1:=ζh hi1
    have HZ1:=ζh hz1
    have HS1:=ζh hs1
    have HB1:=ζh hb1
    have HU1:=ζh hu1
    have ST1:=ζh st1
    clear hi1 hz1 hs1 hb1 hm1 hu1 st1 HST HEF
    go_wp2_with (at_make;go_loud (refine wpList_make_full _ rfl _ _ 170 rfl 0 4 i1 _ 1 Tryz.underlying170 HI1.out HZ1.out HS1.out .i64 .i64 k k k rfl rfl rfl rfl (by rw [HB1.out];omega) (by unfold maxLen;omega) (Nat.zero_le _) ?_;intro w4 o4 gr4;rw [Pol.made_one _ rfl] at o4))
    have hm4:Mod (fun _=>False) w1 w4:=(Mod.refl _ _).grown gr4 (fun k hk=>by cases hk)
    obtain ⟨g,hg⟩:∃ g,g=w1.heap.size:=⟨_,rfl⟩
    rw [←hg] at o4 ⊢
    have st4:Step w0 F0 (coreP K c::rowP 4 1 (.slice (some ⟨g,0,none⟩) k k) k (((c.held t GuM.min).take 0).map Value.bool++List.replicate (k - 0) (.bool false))::rowP 237 3 (.slice va k vc) k ((c.nodes GuM.min).flatMap Pro.ecNd)::ls) w4:=by
     refine (ST1.out.push (A:=rowP 4 1 (.slice (some ⟨g,0,none⟩) k k) k _) (F:=fun x=>(Value.slice (some ⟨g,0,none⟩) k k).ownBlock=some x) hm4 ⟨by simpa using o4,rfl⟩ (fun x hx=>?_)).swap
     have e:g=x:=(by simpa [Value.ownBlock] using hx)
     omega
    have M4:Mod (fun q=>g≤q) w1 w4:=hm4.mono (fun _ x=>x.elim)
    have HG:=ζh hg
    clear HI1 HZ1 HS1 HB1 o4 gr4 hm4 ST1 hg
    go_loopw [59] (fun i wr=>∃ j:Nat,j≤k∧i=.int .i64 j∧Step w0 F0 (coreP K c::rowP 4 1 (.slice (some ⟨g,0,none⟩) k k) k (((c.held t GuM.min).take j).map Value.bool++List.replicate (k - j) (.bool false))::rowP 237 3 (.slice va k vc) k ((c.nodes GuM.min).flatMap Pro.ecNd)::ls) wr∧Mod (fun q=>g≤q) w1 wr) (fun i _=>k - (intOf i).toNat)
    case atStart=>exact ⟨0,by omega,rfl,st4,M4⟩
    case round =>
     obtain ⟨j,hj,rfl,hst,hmr⟩:=hrel
     obtain ⟨wo,rfl⟩:∃ wo:World,wo=wr:=⟨_,rfl⟩
     clear st4 M4
     by_cases hlt:j < k
     · have hkI:(j:Int) < k:=by omega
       have hkN:0≤(j:Int):=by omega
       have hu:=HU1.out.keep hmr (fun b hb h=>by have:=HG.out;omega)
       have hhe:=Pro.prheld_any (c.nodes GuM.min) _ (effN (c.nodes GuM.min) t) u t j wo (rowsOf Pro.ecNd_len (hst.rowOf (List.mem_cons_of_mem _ (List.mem_cons_of_mem _ List.mem_cons_self))) HNL.out.symm) hu
       have htk:=held_take (t:=t) (own:=GuM.min) (c:=c) (k:=j) (by rw [←HN.out];exact hlt)
       obtain ⟨B,hB⟩:∃ B,B=heldN (c.nodes GuM.min) (effN (c.nodes GuM.min) t) t j:=⟨_,rfl⟩
       rw [←hB] at hhe htk
       have HHE:=ζh hhe
       have HTK:=ζh htk
       have HST:=ζh hst
       clear hu hhe htk hB hst
       go_wp2_with fail
       refine HHE.out.mono ?_
       rintro e w2 ⟨rfl,hm2⟩
       have st2:=HST.out.still hm2
       have hfr:=frozen_row' st2.row1 j
       have st3:=st2.rowSet j (.bool B)
       have hls:(((c.held t GuM.min).take j).map Value.bool).length=j:=by
        rw [List.length_map,List.length_take,held_len,←HN.out];omega
       have e3:(((c.held t GuM.min).take j).map Value.bool++List.replicate (k - j) (Value.bool false)).set j (Value.bool B)=((c.held t GuM.min).take (j+1)).map Value.bool++List.replicate (k - (j+1)) (.bool false):=by
        rw [set_fill _ _ hls hlt,HTK.out,List.map_append];rfl
       rw [e3] at st3
       have hcj:w2.cell? ⟨g,j,none⟩=some (.bool false):=by
        rw [st2.row1.cellAt j (by omega)];exact get_fill _ hls hlt
       have M3:Mod (fun q=>g≤q) w1 (w2.setCell ⟨g,j,none⟩ (.bool B)):=(hmr.trans (hm2.mono (fun _ x=>x.elim))).setCell (p:=⟨g,j,none⟩) (.inl (Nat.le_refl _)) _
       have HS3:=ζh st3
       have HM3:=ζh M3
       clear st2 st3 e3 hls hm2 hmr HST M3
       go_wp2_with fail
       go_roundw
       case rel=>exact ⟨j+1,by omega,by go_num,HS3.out,HM3.out⟩
       case measure=>simp [intOf];omega
     · obtain rfl:j=k:=by omega
       have e3:(c.held t GuM.min).take j=c.held t GuM.min:=List.take_of_length_le (by rw [held_len,←HN.out];omega)
       rw [e3,Nat.sub_self,List.replicate_zero,List.append_nil] at hst
       have HST:=ζh hst
       clear hj hlt e3 hst hmr
       go_wp2_with fail
       go_ret
       exact ⟨_,rfl,HST.out.drop3⟩
theorem core_heldLows (t:Int) (hsm:∀ g,c.mem g≤33554432) (st:Step w0 F0 (coreP K c::ls) w) :
 Calls Tryz.prog 92 #[.pointer (some ⟨K.b,0,none⟩),.int .i64 t,.func (.func 94) #[] #[]] w fun e w'=>∃ v,e=.returned v∧Step w0 F0 (coreP K c::rowP 4 1 v c.guards.length ((c.held t GuM.low).map Value.bool)::ls) w':=by
 have h12:=core_h12 st
 have h13:=core_h13 st
 obtain ⟨ga,gc,hgv⟩:=ownsRow_form (core_gu st)
 obtain ⟨ua,uc,huv⟩:=ownsRow_form (core_up st)
 obtain ⟨ga',gc',hgv',hgc,hgm⟩:=Pro.rows_form (rowsOf ecGu_len (core_gu st) rfl)
 have hin:=coreInv st
 obtain ⟨n,hn⟩:∃ n,n=c.guards.length:=⟨_,rfl⟩
 have hun:c.up.length=n:=by rw [hn,hin.gl,hin.ul]
 have hnm:n≤maxLen:=by rw [hn];omega
 unfold maxLen at hnm
 rw [hgv] at h12
 rw [huv,hun] at h13
 rw [←hn] at h12 ⊢
 have HN:=ζh hn
 have HGV:=ζh hgv
 have HUV:=ζh huv
 have HUN:=ζh hun
 have HSM:=ζh hsm
 have hn64:n≤64:=by rw [hn,hin.gl];exact hin.good.le
 have st1:=st.rowNil (T:=237) (sz:=3)
 have ST:=ζh st1
 clear hn hgv huv hun hgv' hgc hgm hin hsm st st1
 go_enter Tryz.func92,Tryz.ntmps92
 go_wp2_with fail
 go_loopw [7,19] (fun v i wr=>∃ k:Nat,k≤n∧i=.int .i64 k∧Step w0 F0 (coreP K c::rowP 237 3 v k (((c.nodes GuM.low).take k).flatMap Pro.ecNd)::ls) wr) (fun _ i _=>n - (intOf i).toNat)
 case atStart=>exact ⟨0,by omega,rfl,ST.out⟩
 case round =>
  obtain ⟨k,hk,rfl,hst⟩:=hrel
  obtain ⟨wo,rfl⟩:∃ wo:World,wo=wr:=⟨_,rfl⟩
  clear h12 h13 ST
  by_cases hlt:k < n
  · have hkI:(k:Int) < n:=by omega
    have hkN:0≤(k:Int):=by omega
    have hkg:k < c.guards.length:=by rw [←HN.out];exact hlt
    have hku:k < c.up.length:=by rw [HUN.out];exact hlt
    obtain ⟨x,hx⟩:∃ x,c.guards[k]?=some x:=⟨_,ζg hkg⟩
    obtain ⟨u,hu⟩:∃ u,c.up[k]?=some u:=⟨_,ζg hku⟩
    have HU:=ζh hu
    have hng:=nodes_get (own:=GuM.low) hkg
    rw [show c.up.getD k 0=u by simp [hu],show c.guards.getD k ⟨0,0,false⟩=x by simp [hx]] at hng
    have HNG:=ζh hng
    have hgr:=rowsOf ecGu_len (core_gu hst) rfl
    have hur:=ints_of_row (core_up hst)
    rw [HGV.out] at hgr
    rw [HUV.out] at hur
    obtain ⟨gb,goff,rfl,g0,g1,g2⟩:=gu_cells hgr hx
    obtain ⟨ub,uoff,rfl,u0⟩:=Tre.intsAt_get hur hu
    have HST:=ζh hst
    clear hng hgr hur hx hu hkg hku hst u0
    go_upto_region 5 with fail
    obtain ⟨wx,hnwx⟩:∃ wx,wx=wo.alloc (.cells #[.int .i64 x.min,.int .i64 x.low,.bool x.whole] 164):=⟨_,rfl⟩
    have stwx:=(HST.out).local (cs:=#[.int .i64 x.min,.int .i64 x.low,.bool x.whole]) (T:=164)
    rw [←hnwx] at stwx ⊢
    clear hnwx
    have h13:=core_h13 stwx
    rw [HUV.out,HUN.out] at h13
    have hur:=ints_of_row (core_up stwx)
    rw [HUV.out] at hur
    obtain ⟨ub',uoff',e',u0⟩:=Tre.intsAt_get hur HU.out
    obtain ⟨rfl,rfl⟩:ub=ub'∧uoff=uoff':=by
     injection e' with e'
     injection e' with e1 e2 _
     exact ⟨e1,e2⟩
    have STX:=ζh stwx
    clear stwx hur e' g0 g1 g2
    go_upto_region 6 with fail
    obtain ⟨wn,hnwn⟩:∃ wn,wn=wx.alloc (.cells #[.int .i64 u,.int .i64 0,.int .i64 0] 237):=⟨_,rfl⟩
    have stwn:=(STX.out).local (cs:=#[.int .i64 u,.int .i64 0,.int .i64 0]) (T:=237)
    rw [←hnwn] at stwn ⊢
    clear hnwn
    have h0:=core_h0 stwn
    have hli:=c_live k stwn
    have n0:=stwn.blk1
    have x0:=stwn.blk2
    have n00:=n0.cell 0
    have n01:=n0.cell 1
    have n02:=n0.cell 2
    simp only [ζa,ζb,ζc] at n00 n01 n02
    have x00:=x0.cell 0
    have x01:=x0.cell 1
    have x02:=x0.cell 2
    simp only [ζa,ζb,ζc] at x00 x01 x02
    have STN:=ζh stwn
    obtain ⟨L,hL⟩:∃ L,L=c.live (k:Int):=⟨_,rfl⟩
    rw [←hL] at hli
    have hng:=HNG.out
    rw [←hL] at hng
    have HNG2:=ζh hng
    have HLI:=ζh hli
    clear h13 u0 stwn hL hng hli HNG
    cases L with
    | false =>
      replace HNG2:=ζh (show (c.nodes GuM.low)[k]?=some ⟨u,0,0⟩ by have:=HNG2.out;simpa using this)
      go_wp2_with fail
      refine HLI.out.mono ?_
      rintro e w3 ⟨rfl,rfl⟩
      have STD:=STN.out.drop2.drop2
      clear STN STX
      have HR:=STD.row1
      go_wp2_with (at_builtin;refine wpList_app rfl _ _ 235 rfl 0 237 _ 3 24 Tryz.underlying235 info_node rfl (by decide) (by decide) u7 k _ rfl (HR.alloc _) ⟨wn.heap.size,0,none⟩ 1 [.int .i64 u,.int .i64 0,.int .i64 0] rfl rfl (World.news_of_block (cs:=#[.int .i64 u,.int .i64 0,.int .i64 0]) (t:=237) (fr:=(0,0)) (heap_alloc_new wn _)) (by simp [Value.oneCell']) (by omega) (Nat.zero_le _) ?_;intro g1 cap1 w9 o9 m9 hg9 hlt9)
      have ST9:=Step.appd STD o9 m9 hg9
      have e9:((c.nodes GuM.low).take k).flatMap Pro.ecNd++[.int .i64 u,.int .i64 0,.int .i64 0]=((c.nodes GuM.low).take (k+1)).flatMap Pro.ecNd:=by
       rw [Tre.take_succ_get HNG2.out,List.flatMap_append];rfl
      rw [e9] at ST9
      have HS9:=ζh ST9
      clear HR o9 m9 hg9 hlt9 e9 ST9
      go_wp2_with fail
      go_roundw
      case rel=>exact ⟨k+1,by omega,by go_num,HS9.out⟩
      case measure=>simp [intOf];omega
    | true =>
      replace HNG2:=ζh (show (c.nodes GuM.low)[k]?=some ⟨u,c.mem k,x.low⟩ by have:=HNG2.out;simpa using this)
      go_wp2_with fail
      refine HLI.out.mono ?_
      rintro e w3 ⟨rfl,rfl⟩
      have hme:=ζh (core_mem k STN.out.drew)
      have hfn:=fun w=>clows_any x w
      unfold ecGu at hfn
      have HFN:=ζh hfn
      clear hfn
      have hxn:wo.heap.size≠wx.heap.size:=x0.ne n0 (by decide)
      clear n00 n01 n02 x00 x01 x02 h0
      go_wp2_with fail
      go_region_held3 (fun w'=>w'.cell? ⟨wo.heap.size,0,none⟩=some (.int .i64 x.min)∧w'.cell? ⟨wo.heap.size,1,none⟩=some (.int .i64 x.low)∧w'.cell? ⟨wo.heap.size,2,none⟩=some (.bool x.whole)∧w'.cell? ⟨wx.heap.size,1,none⟩=some (.int .i64 (Pro.rdI w' wx.heap.size 1))∧w'.cell? ⟨wx.heap.size,2,none⟩=some (.int .i64 (Pro.rdI w' wx.heap.size 2))∧w'.frozen? ⟨wx.heap.size,1,none⟩=false∧w'.frozen? ⟨wx.heap.size,2,none⟩=false)
       (first | exact lim3 x0 ⟨_,_,n0⟩ | exact lim3 q0 ⟨_,_,q1⟩ | exact lim3 r0 ⟨_,_,r1⟩ | exact lim3 (r0.setOther _ _ hxn) ⟨_,_,blk_set1 r1 _⟩ | exact lim3 ((r0.setOther _ _ hxn).setOther _ _ hxn) ⟨_,_,blk_set2 (blk_set1 r1 _) _⟩) (first
         | (go_at_call 158;refine hme.out.mono ?_;rintro e w4 ⟨rfl,st4⟩;have q0:=st4.blk2;have q1:=st4.blk1)
         | (go_at_call 94;refine (HFN.out _).mono ?_;rintro e w5 ⟨rfl,hm5⟩;have st5:=st4.still hm5;have r0:=st5.blk2;have r1:=st5.blk1))
      have st7:=(st5.set1 (j:=1) (v:=.int .i64 (c.mem k))).set1 (j:=2) (v:=.int .i64 x.low)
      obtain ⟨w7,hw7⟩:∃ w7,w7=(w5.setCell ⟨wx.heap.size,1,none⟩ (.int .i64 (c.mem k))).setCell ⟨wx.heap.size,2,none⟩ (.int .i64 x.low):=⟨_,rfl⟩
      rw [←hw7] at st7 ⊢
      have n7:=st7.blk1
      have n70:=n7.cell 0
      have n71:=n7.cell 1
      have n72:=n7.cell 2
      simp at n70 n71 n72
      have STD:=st7.drop2.drop2
      clear hw7 st7 n7 st4 st5 hm5 q0 q1 r0 r1 n0 x0 STN STX hme HFN HLI hxn
      try clear hHeld
      have HR:=STD.row1
      go_wp2_with (at_builtin;refine wpList_app rfl _ _ 235 rfl 0 237 _ 3 24 Tryz.underlying235 info_node rfl (by decide) (by decide) u7 k _ rfl (HR.alloc _) ⟨w7.heap.size,0,none⟩ 1 [.int .i64 u,.int .i64 (c.mem k),.int .i64 x.low] rfl rfl (World.news_of_block (cs:=#[.int .i64 u,.int .i64 (c.mem k),.int .i64 x.low]) (t:=237) (fr:=(0,0)) (heap_alloc_new w7 _)) (by simp [Value.oneCell']) (by omega) (Nat.zero_le _) ?_;intro g1 cap1 w9 o9 m9 hg9 hlt9)
      have ST9:=Step.appd STD o9 m9 hg9
      have e9:((c.nodes GuM.low).take k).flatMap Pro.ecNd++[.int .i64 u,.int .i64 (c.mem k),.int .i64 x.low]=((c.nodes GuM.low).take (k+1)).flatMap Pro.ecNd:=by
       rw [Tre.take_succ_get HNG2.out,List.flatMap_append];rfl
      rw [e9] at ST9
      have HS9:=ζh ST9
      clear HR o9 m9 hg9 hlt9 e9 ST9
      go_wp2_with fail
      go_roundw
      case rel=>exact ⟨k+1,by omega,by go_num,HS9.out⟩
      case measure=>simp [intOf];omega
  · obtain rfl:k=n:=by omega
    have htk:(c.nodes GuM.low).take k=c.nodes GuM.low:=List.take_of_length_le (by rw [nodes_len,←HN.out];omega)
    rw [htk] at hst
    obtain ⟨va,vc,rfl⟩:=ownsRow_form hst.row1
    have hnl:(c.nodes GuM.low).length=k:=by rw [nodes_len,←HN.out]
    have hrow:=rowsOf Pro.ecNd_len hst.row1 hnl.symm
    have hef:=Pro.preff_any (c.nodes GuM.low) _ t wo hrow (fun x hx=>by
     obtain ⟨j,hj,rfl⟩:=List.mem_iff_getElem.1 hx
     have hj':j < c.guards.length:=by rw [nodes_len] at hj;exact hj
     have:=nodes_get (own:=GuM.low) hj'
     rw [ζg hj] at this
     injection this with this
     rw [this]
     unfold ownN
     split
     · simp only;have:=HSM.out j;omega
     · simp only;omega)
    have HEF:=ζh hef
    have HNL:=ζh hnl
    have HST:=ζh hst
    clear hk hlt htk hnl hrow hef hst
    go_wp2_with fail
    refine HEF.out.mono ?_
    rintro e w1 ⟨u,rfl,hm1,hu1⟩
    have st1:=HST.out.still hm1
    obtain ⟨i1,hi1,hz1,hs1,hb1⟩:=info_parts info_bool
    have HI1:=ζh hi1
    have HZ1:=ζh hz1
    have HS1:=ζh hs1
    have HB1:=ζh hb1
    have HU1:=ζh hu1
    have ST1:=ζh st1
    clear hi1 hz1 hs1 hb1 hm1 hu1 st1 HST HEF
    go_wp2_with (at_make;go_loud (refine wpList_make_full _ rfl _ _ 170 rfl 0 4 i1 _ 1 Tryz.underlying170 HI1.out HZ1.out HS1.out .i64 .i64 k k k rfl rfl rfl rfl (by rw [HB1.out];omega) (by unfold maxLen;omega) (Nat.zero_le _) ?_;intro w4 o4 gr4;rw [Pol.made_one _ rfl] at o4))
    have hm4:Mod (fun _=>False) w1 w4:=(Mod.refl _ _).grown gr4 (fun k hk=>by cases hk)
    obtain ⟨g,hg⟩:∃ g,g=w1.heap.size:=⟨_,rfl⟩
    rw [←hg] at o4 ⊢
    have st4:Step w0 F0 (coreP K c::rowP 4 1 (.slice (some ⟨g,0,none⟩) k k) k (((c.held t GuM.low).take 0).map Value.bool++List.replicate (k - 0) (.bool false))::rowP 237 3 (.slice va k vc) k ((c.nodes GuM.low).flatMap Pro.ecNd)::ls) w4:=by
     refine (ST1.out.push (A:=rowP 4 1 (.slice (some ⟨g,0,none⟩) k k) k _) (F:=fun x=>(Value.slice (some ⟨g,0,none⟩) k k).ownBlock=some x) hm4 ⟨by simpa using o4,rfl⟩ (fun x hx=>?_)).swap
     have e:g=x:=(by simpa [Value.ownBlock] using hx)
     omega
    have M4:Mod (fun q=>g≤q) w1 w4:=hm4.mono (fun _ x=>x.elim)
    have HG:=ζh hg
    clear HI1 HZ1 HS1 HB1 o4 gr4 hm4 ST1 hg
    go_loopw [59] (fun i wr=>∃ j:Nat,j≤k∧i=.int .i64 j∧Step w0 F0 (coreP K c::rowP 4 1 (.slice (some ⟨g,0,none⟩) k k) k (((c.held t GuM.low).take j).map Value.bool++List.replicate (k - j) (.bool false))::rowP 237 3 (.slice va k vc) k ((c.nodes GuM.low).flatMap Pro.ecNd)::ls) wr∧Mod (fun q=>g≤q) w1 wr) (fun i _=>k - (intOf i).toNat)
    case atStart=>exact ⟨0,by omega,rfl,st4,M4⟩
    case round =>
     obtain ⟨j,hj,rfl,hst,hmr⟩:=hrel
     obtain ⟨wo,rfl⟩:∃ wo:World,wo=wr:=⟨_,rfl⟩
     clear st4 M4
     by_cases hlt:j < k
     · have hkI:(j:Int) < k:=by omega
       have hkN:0≤(j:Int):=by omega
       have hu:=HU1.out.keep hmr (fun b hb h=>by have:=HG.out;omega)
       have hhe:=Pro.prheld_any (c.nodes GuM.low) _ (effN (c.nodes GuM.low) t) u t j wo (rowsOf Pro.ecNd_len (hst.rowOf (List.mem_cons_of_mem _ (List.mem_cons_of_mem _ List.mem_cons_self))) HNL.out.symm) hu
       have htk:=held_take (t:=t) (own:=GuM.low) (c:=c) (k:=j) (by rw [←HN.out];exact hlt)
       obtain ⟨B,hB⟩:∃ B,B=heldN (c.nodes GuM.low) (effN (c.nodes GuM.low) t) t j:=⟨_,rfl⟩
       rw [←hB] at hhe htk
       have HHE:=ζh hhe
       have HTK:=ζh htk
       have HST:=ζh hst
       clear hu hhe htk hB hst
       go_wp2_with fail
       refine HHE.out.mono ?_
       rintro e w2 ⟨rfl,hm2⟩
       have st2:=HST.out.still hm2
       have hfr:=frozen_row' st2.row1 j
       have st3:=st2.rowSet j (.bool B)
       have hls:(((c.held t GuM.low).take j).map Value.bool).length=j:=by
        rw [List.length_map,List.length_take,held_len,←HN.out];omega
       have e3:(((c.held t GuM.low).take j).map Value.bool++List.replicate (k - j) (Value.bool false)).set j (Value.bool B)=((c.held t GuM.low).take (j+1)).map Value.bool++List.replicate (k - (j+1)) (.bool false):=by
        rw [set_fill _ _ hls hlt,HTK.out,List.map_append];rfl
       rw [e3] at st3
       have hcj:w2.cell? ⟨g,j,none⟩=some (.bool false):=by
        rw [st2.row1.cellAt j (by omega)];exact get_fill _ hls hlt
       have M3:Mod (fun q=>g≤q) w1 (w2.setCell ⟨g,j,none⟩ (.bool B)):=(hmr.trans (hm2.mono (fun _ x=>x.elim))).setCell (p:=⟨g,j,none⟩) (.inl (Nat.le_refl _)) _
       have HS3:=ζh st3
       have HM3:=ζh M3
       clear st2 st3 e3 hls hm2 hmr HST M3
       go_wp2_with fail
       go_roundw
       case rel=>exact ⟨j+1,by omega,by go_num,HS3.out,HM3.out⟩
       case measure=>simp [intOf];omega
     · obtain rfl:j=k:=by omega
       have e3:(c.held t GuM.low).take j=c.held t GuM.low:=List.take_of_length_le (by rw [held_len,←HN.out];omega)
       rw [e3,Nat.sub_self,List.replicate_zero,List.append_nil] at hst
       have HST:=ζh hst
       clear hj hlt e3 hst hmr
       go_wp2_with fail
       go_ret
       exact ⟨_,rfl,HST.out.drop3⟩
end

section
open Go.RowKit Go.Shelf Go.ChangeShapes Go.WideShapes
attribute [local go_sem] Oper.semAt_some
variable {w0 w:World} {F0:Nat→Prop} {A:Part} {K:CK} {c:CoM} {ls:List Part}
theorem row_few {w:World} {base T sz n:Nat} {v:Value} {xs:List Value} (h:w.ownsRow base T sz v n xs):n≤maxLen:=by
 rcases id h.2 with ⟨_,h0⟩ | ⟨g,cap,cur,_,_,_,hc,hm,_⟩
 · rw [h0];exact Nat.zero_le _
 · omega
theorem row_cell {w:World} {base T n:Nat} {v:Value} {xs:List Value} {k:Nat} {x:Value} (h:w.ownsRow base T 1 v n xs) (hk:k < n) (hx:xs[k]?=some x):∃ g c,v=.slice (some ⟨g,0,none⟩) n c∧w.cell? ⟨g,k,none⟩=some x:=by
 rcases id h.2 with ⟨rfl,h0⟩ | ⟨g,cap,cur,rfl,_⟩
 · omega
 · refine ⟨g,cap,rfl,?_⟩
   rw [h.cellAt k (by omega),hx]
theorem ev2_any (M L:List Bool) (mv lv:Value) (n mb lb:Nat) (g:Int) (w:World) (hM:w.ownsRow 0 4 1 mv n (M.map Value.bool)) (hL:w.ownsRow 0 4 1 lv n (L.map Value.bool)) (hm:Blk w mb #[mv] 170) (hl:Blk w lb #[lv] 170) (hg:0≤g∧g < n) :
 Calls Tryz.prog 168 #[.int .i64 g,.pointer (some ⟨mb,0,none⟩),.pointer (some ⟨lb,0,none⟩)] w fun e w'=>e=.returned (.bool (CoM.heldB M g||CoM.heldB L g))∧w=w':=by
 obtain ⟨k,rfl⟩:∃ k:Nat,g=k:=⟨g.toNat,by omega⟩
 have hMn:M.length=n:=by have:=hM.1;simpa using this
 have hLn:L.length=n:=by have:=hL.1;simpa using this
 obtain ⟨x,hx⟩:∃ x,M[k]?=some x:=⟨_,ζg (by omega)⟩
 obtain ⟨y,hy⟩:∃ y,L[k]?=some y:=⟨_,ζg (by omega)⟩
 obtain ⟨g1,c1,rfl,e1⟩:=row_cell (k:=k) (x:=.bool x) hM (by omega) (by rw [List.getElem?_map,hx];rfl)
 obtain ⟨g2,c2,rfl,e2⟩:=row_cell (k:=k) (x:=.bool y) hL (by omega) (by rw [List.getElem?_map,hy];rfl)
 have ex:CoM.heldB M (k:Int)=x:=by unfold CoM.heldB;simp [hx]
 have ey:CoM.heldB L (k:Int)=y:=by unfold CoM.heldB;simp [hy]
 rw [ex,ey]
 have b1:=hm.cell 0
 have b2:=hl.cell 0
 simp only [ζa,ζb] at b1 b2
 have i0:(0:Int)≤(k:Int):=by omega
 have i1:(k:Int) < (n:Int):=by omega
 clear hM hL hm hl hg hMn hLn hx hy ex ey
 cases x
 all_goals
  go_enter Tryz.func168,Tryz.ntmps168
  go_wp2_with fail
  go_ret
  exact ⟨rfl,rfl⟩
theorem ev3_any (M:List Bool) (mv:Value) (n mb:Nat) (g:Int) (w:World) (hM:w.ownsRow 0 4 1 mv n (M.map Value.bool)) (hm:Blk w mb #[mv] 170) (hg:0≤g∧g < n) :
 Calls Tryz.prog 169 #[.int .i64 g,.pointer (some ⟨mb,0,none⟩)] w fun e w'=>e=.returned (.bool (CoM.heldB M g))∧w=w':=by
 obtain ⟨k,rfl⟩:∃ k:Nat,g=k:=⟨g.toNat,by omega⟩
 have hMn:M.length=n:=by have:=hM.1;simpa using this
 obtain ⟨x,hx⟩:∃ x,M[k]?=some x:=⟨_,ζg (by omega)⟩
 obtain ⟨g1,c1,rfl,e1⟩:=row_cell (k:=k) (x:=.bool x) hM (by omega) (by rw [List.getElem?_map,hx];rfl)
 have ex:CoM.heldB M (k:Int)=x:=by unfold CoM.heldB;simp [hx]
 rw [ex]
 have b1:=hm.cell 0
 simp only [ζa,ζb] at b1
 have i0:(0:Int)≤(k:Int):=by omega
 have i1:(k:Int) < (n:Int):=by omega
 clear hM hm hg hMn hx ex
 go_enter Tryz.func169,Tryz.ntmps169
 go_wp2_with fail
 go_ret
 exact ⟨rfl,rfl⟩
theorem page_owner (c:CoM) (hin:c.Inv) (id:Int):0≤(c.page id).owner∧(c.page id).owner < c.tree.length:=by
 unfold CoM.page Pag.pageT
 cases hx:getA id c.pages.pages with
 | none=>have:=hin.good.pos;exact ⟨by decide,by simp [Pag.PG.zero];omega⟩
 | some p=>exact hin.own _ (Pag.getA_mem hx)
theorem pass_skip {c:CoM} {h:Int→Bool} {id:Int} {r:List Int} (hh:h (c.page id).owner=true):c.pass h (id::r)=c.pass h r:=by rw [CoM.pass.eq_2,if_pos hh]
theorem pass_none {c:CoM} {h:Int→Bool} {id:Int} {r:List Int} (hh:h (c.page id).owner=false) (ho:c.out id=none):c.pass h (id::r)=c.pass h r:=by rw [CoM.pass.eq_2,if_neg (by rw [hh];decide),ho]
theorem pass_some {c c':CoM} {h:Int→Bool} {id:Int} {r:List Int} (hh:h (c.page id).owner=false) (ho:c.out id=some c'):c.pass h (id::r)=some c':=by rw [CoM.pass.eq_2,if_neg (by rw [hh];decide),ho]
theorem core_pass (h:Int→Bool) (fn:Nat) (lb:Array Value) (L:List Int) (ov:Value) (n ob cb:Nat) (st:Step w0 F0 (coreP K c::ls) w) (hob:blkP ob #[ov] 30∈ls) (hcb:blkP cb #[.pointer (some ⟨K.b,0,none⟩)] 51∈ls)
 (hor:rowP 3 1 ov n (L.map encI)∈ls) (hn:n=L.length) (henter:∀ (args:Array Value) (w':World),(callFunc fn args).run Tryz.prog w'=.ok (.enter fn args) w') (hfn:∀ W,Step w0 F0 (coreP K c::ls) W→∀ g:Int,0≤g∧g < c.tree.length→Calls Tryz.prog fn (#[.int .i64 g]++lb) W fun e W'=>e=.returned (.bool (h g))∧W=W') :
 Calls Tryz.prog 166 #[.func (.func fn) #[] lb,.pointer (some ⟨ob,0,none⟩),.pointer (some ⟨cb,0,none⟩)] w fun e w'=>e=.returned (.bool (c.pass h L).isSome)∧Step w0 F0 (coreP K ((c.pass h L).getD c)::ls) w':=by
 subst hn
 have hrow:=st.rowOf (List.mem_cons_of_mem _ hor)
 obtain ⟨oa,oc,rfl⟩:=ownsRow_form hrow
 have hb1:=(st.blk (List.mem_cons_of_mem _ hob)).cell 0
 simp only [ζa,ζb] at hb1
 have HFN:=ζh hfn
 have ST:=ζh st
 have HOB:=ζh hob
 have HCB:=ζh hcb
 have HOR:=ζh hor
 obtain ⟨R,hR⟩:∃ R,R=c.pass h L:=⟨_,rfl⟩
 rw [←hR]
 have HR:=ζh hR
 have hll:L.length≤maxLen:=row_few hrow
 unfold maxLen at hll
 clear hfn st hob hcb hor hR hrow
 go_enter Tryz.func166,Tryz.ntmps166
 go_wp2_with fail
 go_loopw [11] (fun i wr=>∃ k:Nat,k≤L.length∧i=.int .i64 k∧Hid (R=c.pass h (L.drop k))∧Step w0 F0 (coreP K c::ls) wr) (fun i _=>L.length - (intOf i).toNat)
 case atStart=>exact ⟨0,by omega,rfl,HR,ST.out⟩
 case round =>
  obtain ⟨k,hk,rfl,HRK,hst⟩:=hrel
  obtain ⟨wo,rfl⟩:∃ wo:World,wo=wr:=⟨_,rfl⟩
  clear hb1 ST
  by_cases hlt:k < L.length
  · have hkI:(k:Int) < L.length:=by omega
    have hkN:0≤(k:Int):=by omega
    obtain ⟨id,hid⟩:∃ id,L[k]?=some id:=⟨_,ζg hlt⟩
    obtain ⟨ob',oo,e1,hcell⟩:=row_cell (k:=k) (x:=encI id) (hst.rowOf (List.mem_cons_of_mem _ HOR.out)) hlt (by rw [List.getElem?_map,hid];rfl)
    injection e1 with e1 _ e3
    subst e1 e3
    have hdr:L.drop k=id::L.drop (k+1):=by rw [List.drop_eq_getElem_cons hlt];congr 1;have:=ζg hlt;rw [hid] at this;injection this with this;exact this.symm
    have HRK':=HRK.out
    rw [hdr] at HRK'
    have HRD:=ζh HRK'
    unfold encI at hcell
    have hb2:=(hst.blk (List.mem_cons_of_mem _ HCB.out)).cell 0
    simp only [ζa,ζb] at hb2
    have h11:=core_h10 hst
    have hpg:=c_page id hst
    obtain ⟨p,hp⟩:∃ p,p=c.page id:=⟨_,rfl⟩
    have how:=page_owner c (coreInv hst) id
    rw [←hp] at hpg how
    unfold Pag.PG.val Pag.PG.cells at hpg
    have HPG:=ζh hpg
    have HP:=ζh hp
    have HOW:=ζh how
    clear hid hdr HRK' HRK hst hpg hp how
    go_wp2_with fail
    refine HPG.out.mono ?_
    rintro e w1 ⟨rfl,st1⟩
    go_upto_region 5 with fail
    obtain ⟨wn,hnwn⟩:∃ wn,wn=w1.alloc (.cells #[.int .i64 p.file,.int .i64 p.index,.int .i64 p.place,.int .i64 p.at_,.int .i64 p.owner,.int .i64 p.refs,.int .i64 0,.bool false,.bool p.dirty] 198):=⟨_,rfl⟩
    have stwn:=(st1).local (cs:=#[.int .i64 p.file,.int .i64 p.index,.int .i64 p.place,.int .i64 p.at_,.int .i64 p.owner,.int .i64 p.refs,.int .i64 0,.bool false,.bool p.dirty]) (T:=198)
    rw [←hnwn] at stwn ⊢
    clear hnwn
    have hb:=stwn.blk1
    have b4:=hb.cell 4
    have b2:=(stwn.drop2.blk (List.mem_cons_of_mem _ HCB.out)).cell 0
    simp only [ζa,ζb,ζc] at b4 b2
    have hfn:=HFN.out wn stwn.drop2 p.owner HOW.out
    have hou:=core_out id stwn.drop2
    have HFW:=ζh hfn
    have HOU:=ζh hou
    have STN:=ζh stwn.drop2
    have HPP:=HP.out
    clear st1 stwn hb hfn hou HFN HPG
    cases hh:h p.owner with
    | true =>
      rw [hh] at HFW
      have hn:=pass_skip (h:=h) (r:=L.drop (k+1)) (by rw [←HPP];exact hh)
      rw [←HRD.out] at hn
      have HRN:=ζh hn
      clear hh hn HPP
      go_wp2_with fail
      refine HFW.out.mono ?_
      rintro e w2 ⟨rfl,rfl⟩
      go_wp2_with fail
      go_roundw
      case rel=>exact ⟨k+1,by omega,by go_num,HRN,STN.out⟩
      case measure=>simp [intOf];omega
    | false =>
      rw [hh] at HFW
      cases ho:c.out id with
      | none =>
        rw [ho] at HOU
        have hn:=pass_none (h:=h) (r:=L.drop (k+1)) (by rw [←HPP];exact hh) ho
        rw [←HRD.out] at hn
        have HRN:=ζh hn
        clear hh hn ho HPP
        go_wp2_with fail
        refine HFW.out.mono ?_
        rintro e w2 ⟨rfl,rfl⟩
        go_wp2_with fail
        refine HOU.out.mono ?_
        rintro e w3 ⟨rfl,st3⟩
        simp only [Option.isSome_none,Option.getD_none] at st3 ⊢
        have HS3:=ζh st3
        clear st3
        go_wp2_with fail
        go_roundw
        case rel=>exact ⟨k+1,by omega,by go_num,HRN,HS3.out⟩
        case measure=>simp [intOf];omega
      | some c' =>
        rw [ho] at HOU
        have hn:=pass_some (h:=h) (r:=L.drop (k+1)) (by rw [←HPP];exact hh) ho
        rw [←HRD.out] at hn
        have HRN:=ζh hn
        clear hh hn ho HPP
        go_wp2_with fail
        refine HFW.out.mono ?_
        rintro e w2 ⟨rfl,rfl⟩
        go_wp2_with fail
        refine HOU.out.mono ?_
        rintro e w3 ⟨rfl,st3⟩
        simp only [Option.isSome_some,Option.getD_some] at st3 ⊢
        have HS3:=ζh st3
        clear st3
        go_wp2_with fail
        go_ret
        rw [HRN.out]
        exact ⟨rfl,HS3.out⟩
  · obtain rfl:k=L.length:=by omega
    have HRK':=HRK.out
    rw [List.drop_length] at HRK'
    have hrn:R=none:=HRK'
    have HRN:=ζh hrn
    have HST:=ζh hst
    clear HRK' hrn hst
    go_wp2_with fail
    go_ret
    rw [HRN.out]
    exact ⟨rfl,HST.out⟩
end
end Go.Proofs.YtkfoeonggmlebaaGreatDoor
