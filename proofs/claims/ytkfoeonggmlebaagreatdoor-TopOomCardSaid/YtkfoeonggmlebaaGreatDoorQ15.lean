/-
  Contracts of the program's functions, and plain facts, towards the laws of millpondtop. No condition beyond those that each theorem bears.
-/
import Derived.Maps.OwnIn
import Derived.Test.YtkfoeonggmlebaaGreatDoorQ01
import Derived.Test.YtkfoeonggmlebaaGreatDoorQ14
import Derived.Test.YtkfoeonggmlebaaGreatDoorQAA
set_option maxRecDepth 100000
set_option maxHeartbeats 4000000
namespace Go.Proofs.YtkfoeonggmlebaaGreatDoor
namespace Tre
open Go.RowKit Go.Shelf
attribute [local go_sem] Oper.semAt_some
theorem info_int:(Tryz.prog.info? 3).map (fun i=>(i.zero,i.size,i.bytes))=some (some (.int .i64 0),1,8):=by kernel_rfl
theorem wpListIn_app {P:Program} {F:Fence} {nF:Nat} {ops:Array Oper} {rest:List Oper} {o:Oper} {a:Act} {Q:Exit→Act→World→Prop} {w:World} (hgd:o.guard=none) (s x:Operand) (t:TypeId) (ho:o.op=.call { callee:=.builtin .append,args:=#[s,x],argTypes:=#[t,t] })
 (base:Nat) (e:TypeId) (z:Value) (size bytes:Nat) (ht:P.underlying t=some (.slice e)) (hi:(P.info? e).map (fun i=>(i.zero,i.size,i.bytes))=some (some z,size,bytes))
 (hzs:z.cells.size=size) (hsz:0 < size) (hby:bytes≤1000)
 (v:Value) (n:Nat) (xs:List Value) (hs:a.eval s=v) (hown:w.ownsRow base e size v n xs)
 (ad:Addr) (c:Nat) (news:List Value) (hx:a.eval x=.slice (some ad) 1 c) (hl:news.length=size) (hnews:∀ j u,news[j]?=some u→w.cell? (ad.add j)=some u) (h1:∀ u∈news,u.oneCell'=true)
 (hn:n≤1000000000) (hbase:base≤w.heap.size)
 (h:∀ g cap w',w'.ownsRow base e size (.slice (some ⟨g,0,none⟩) (n+1) cap) (n+1) (xs++news)→Mod (fun k=>some k=v.ownBlock) w w'→(v.ownBlock=some g∨g=w.heap.size)→g < w'.heap.size →
   wpListIn F nF P ops Q rest (a.put o.dst (.slice (some ⟨g,0,none⟩) (n+1) cap)) w'):wpListIn F nF P ops Q (o::rest) a w:=by
 obtain ⟨i,hi1,hz,h2,h3⟩:=info_parts hi
 refine wpListIn_append_own_at _ hgd s x t ho base e i z size bytes ht hi1 hz h2 h3 hzs hsz v n xs hs hown ad 1 c news hx (by omega) hnews h1 (by unfold maxLen;omega) ?_ hbase ?_
 · have:(n+1) * bytes≤(1000000000+1) * 1000:=Nat.mul_le_mul (by omega) hby
   omega
 · intro v' w' h4 h5 _ h6
   rcases id h4.2 with ⟨_,h0⟩ | ⟨g',cap,cur,rfl,_,hh,_⟩
   · omega
   · refine h g' cap w' h4 (Mod.ofGrown h5) (h6.imp (fun e=>?_) (fun e=>?_)) (Array.getElem?_eq_some_iff.1 hh).1
     · rw [←e];rfl
     · injection e
theorem ints_of_row {w:World} {base:Nat} {v:Value} {xs:List Int} (h:w.ownsRow base 3 1 v xs.length (xs.map encI)):IntsAt w v xs:=by
 rcases id h.2 with ⟨rfl,h0⟩ | ⟨g,cap,cur,rfl,_,hg,hc,hm,hs,ht⟩
 · exact ⟨none,0,by rw [h0],by omega,by unfold maxLen;omega,fun j hj=>by omega⟩
 · refine ⟨_,cap,rfl,hc,hm,fun j hj=>⟨g,0,rfl,?_⟩⟩
   rw [Nat.zero_add,h.cellAt j (by omega),List.getElem?_map,List.getD_eq_getElem?_getD,ζg hj]
   rfl
theorem appendSeq_any (gf:Nat) (lb:Array Value) (eg:∀ args w,(callFunc gf args).run Tryz.prog w=.ok (.enter gf args) w) (gb:Nat) (xs:List Int) (w:World)
 (hseq:SeqC (P:=Tryz.prog) gf lb encI gb (fun i=>w.heap.size≤i) xs w) (hgb:gb < w.heap.size) (hxl:xs.length≤1000) :
 Calls Tryz.prog 137 #[.slice none 0 0,.func (.func gf) #[] lb] w fun e w'=>∃ v,e=.returned v∧Mod (fun i=>i=gb) w w'∧w'.ownsRow w.heap.size 3 1 v xs.length (xs.map encI):=by
 refine (callsIn_wide (n:=0)).1 ?_
 refine callsIn_of_wp_marks Tryz.func137 rfl trivial ?_ rfl
 simp only [Tryz.ntmps137,List.size_toArray,List.length_cons,List.length_nil,Nat.reduceAdd,Nat.reduceSub,Array.replicate_succ,Array.replicate_zero,List.push_toArray,List.append_toArray,List.nil_append,List.cons_append]
 gi_wp2
 obtain ⟨w1,hw1⟩:∃ w1,w1=w.alloc (.cells #[.slice none 0 0] 30):=⟨_,rfl⟩
 have b1:Blk w1 w.heap.size #[.slice none 0 0] 30:=by rw [hw1];exact Blk.new w _ _
 have m1:Mod (fun _=>False) w w1:=by rw [hw1];exact Mod.alloc' _ _ _
 have s1:w1.heap.size=w.heap.size+1:=by rw [hw1];simp
 rw [←hw1]
 have hq1:=hseq.at m1
 clear hseq hw1
 refine wp_range_cap (gf:=gf) (lb:=lb) rfl eg hq1 rfl (by omega) (fun i hi=>by omega)
  (fun pre W=>∃ v,Blk W w.heap.size #[v] 30∧W.ownsRow w.heap.size 3 1 v pre.length (pre.map encI)∧Mod (fun i=>i=gb) w W∧(∀ g,v.ownBlock=some g→w1.heap.size+2≤g)) ?hJ ?h0 (fun x=>{ tmps:=#[.slice none 0 0,.func (.func gf) #[] lb,.pointer (some ⟨w.heap.size,0,none⟩),undef,.slice none 0 0,.int .i64 x,.func (.func gf) #[] lb,.int .i64 x,undef,undef,undef,undef,undef],defers:=[] }) ?assign ?body ?done
 case hJ =>
  rintro pre A B ⟨v,h1,h2,h3,h4⟩ hm
  have:=h1.lt
  exact ⟨v,h1.keep hm (by omega),ownsRow_keep h2 hm (fun g hg=>by have:=h4 g hg;omega),h3.trans' hm (fun i hi h=>by omega),h4⟩
 case h0=>exact ⟨_,b1,⟨rfl,.inl ⟨rfl,rfl⟩⟩,m1.mono (fun _ x=>x.elim),fun g hg=>by cases hg⟩
 case assign =>
  intro l x W K hK
  clear s1
  gi_wp2
  simpa [encI] using hK
 case body =>
  rintro l pre x W ⟨v,h1,h2,h3,h4⟩ hlen hsz
  have hc:=h1.cell 0
  simp only [ζa,ζb] at hc
  have hf:=h1.frozen 0
  have z1:=ζh s1
  have hs3:=h3.size
  have hlt:=h1.lt
  have hx1:pre.length≤1000:=by omega
  have hL:=ζh hlen
  clear s1 hlen
  gi_wp2_with (gi_at_builtin;refine wpListIn_app rfl _ _ 30 rfl w.heap.size 3 (.int .i64 0) 1 8 Tryz.underlying30 info_int rfl (by decide) (by decide) v pre.length _ rfl (h2.alloc _) ⟨W.heap.size,0,none⟩ 1 [.int .i64 x] rfl rfl (cell_one_new _ _ _) (by simp [Value.oneCell']) (by omega) (by simp;omega) ?_;intro g cap w2 o2 m2 hg hlt2;have hB2:Blk w2 w.heap.size #[v] 30:=(h1.alloc _).keep m2 (fun e=>ownsRow_ne_blk h2 h1 (by decide) _ e.symm rfl);have he2:=hB2.cell 0;simp only [ζa,ζb] at he2;have hf2:=hB2.frozen 0)
  have s1:=z1.out
  have hb:=hB2.set 0 (.slice (some ⟨g,0,none⟩) (pre.length+1) cap)
  have o3:=ownsRow_keep o2 (mod_setCell w2 w.heap.size 0 (.slice (some ⟨g,0,none⟩) (pre.length+1) cap)) (ownsRow_ne_blk o2 hB2 (by decide))
  have m3:Mod (fun k=>some k=v.ownBlock) W w2:=(Mod.alloc' _ _ _).trans m2
  have m4:=mod_setCell w2 w.heap.size 0 (.slice (some ⟨g,0,none⟩) (pre.length+1) cap)
  have hge:w1.heap.size+2≤g:=by
   rcases hg with hg | hg
   · exact h4 g hg
   · rw [hg];simp;omega
  have hz:=m3.size
  refine ⟨⟨_,hb,o3,(h3.trans' m3 (fun i hi e=>by have:=h4 i e.symm;omega)).trans' m4 (fun i hi e=>by omega),fun g' e=>?_⟩,(m3.mono (S':=fun i=>w.heap.size≤i∧¬i=w1.heap.size∧¬i=w1.heap.size+1) (fun i e=>by have:=h4 i e.symm;omega)).trans' m4 (fun i hi e=>by omega)⟩
  injection e with e
  simp only at e
  omega
 case done =>
  rintro W ⟨v,h1,h2,h3,h4⟩ hK
  have hc:=h1.cell 0
  simp only [ζa,ζb] at hc
  obtain ⟨a,c,rfl⟩:=ownsRow_form h2
  clear s1
  gi_wp2
  refine ⟨by simp,.inl ⟨_,_,rfl,run_takeDeferred hK,?_⟩⟩
  exact ⟨_,results_tmp rfl _ _ _,_,rfl,h3.putObj (.inr (by have:=m1.size;omega)) _,ownsRow_keep h2 (mod_putObj _ _ _) (fun g hg=>by have:=h4 g hg;omega)⟩
theorem collect_any (gf:Nat) (lb:Array Value) (eg:∀ args w,(callFunc gf args).run Tryz.prog w=.ok (.enter gf args) w) (gb:Nat) (xs:List Int) (w:World)
 (hseq:SeqC (P:=Tryz.prog) gf lb encI gb (fun i=>w.heap.size≤i) xs w) (hgb:gb < w.heap.size) (hxl:xs.length≤1000) :
 Calls Tryz.prog 77 #[.func (.func gf) #[] lb] w fun e w'=>∃ v,e=.returned v∧Mod (fun i=>i=gb) w w'∧w'.ownsRow w.heap.size 3 1 v xs.length (xs.map encI):=by
 go_enter Tryz.func77,Tryz.ntmps77
 go_wp2_with fail
 refine (appendSeq_any gf lb eg gb xs _ hseq hgb hxl).mono ?_
 rintro e w1 ⟨v,rfl,hm,ho⟩
 obtain ⟨a,c,rfl⟩:=ownsRow_form ho
 go_wp2_with fail
 go_ret
 exact ⟨_,rfl,hm,ho⟩
theorem ownChain_any (b g c:Nat) (l:List Grp) (n:Int) (w:World) (h:TreeAt w b g c l) :
 Calls Tryz.prog 131 #[.pointer (some ⟨b,0,none⟩),.int .i64 n] w fun e w'=>∃ v,e=.returned v∧Mod (fun _=>False) w w'∧w'.ownsRow w.heap.size 3 1 v (chainL l n).length ((chainL l n).map encI):=by
 have hle:=chain_le h.good n
 have hbl:=h.blk.lt
 have hgl:=h.glt
 go_enter Tryz.func131,Tryz.ntmps131
 go_wp2_with fail
 refine (up_any b n _).mono ?_
 rintro e w1 ⟨rfl,hw1⟩
 have b2:=Blk.new w #[.pointer (some ⟨b,0,none⟩)] 70
 have m2:=Mod.alloc' (fun _=>False) w (.cells #[.pointer (some ⟨b,0,none⟩)] 70)
 have b3:=Blk.new (w.alloc (.cells #[.pointer (some ⟨b,0,none⟩)] 70)) #[.int .i64 n] 3
 have m3:=Mod.alloc' (fun _=>False) (w.alloc (.cells #[.pointer (some ⟨b,0,none⟩)] 70)) (.cells #[.int .i64 n] 3)
 rw [←hw1] at b3 m3
 rw [World.size_alloc] at b3
 have hB2:=b2.keep m3 (fun x=>x)
 have hm1:=m2.trans m3
 have hsz:w1.heap.size=w.heap.size+2:=by rw [hw1];simp
 have hT:=h.keepN hm1
 clear b2 m2 m3 hw1
 have hb3:=ζh hsz
 clear hsz
 go_wp2_with fail
 refine (collect_any _ _ (enters_of Tryz.func237 (by kernel_rfl) rfl) (w.heap.size+1) (chainL l n) w1 (up1_seq b g c l n w.heap.size (w.heap.size+1) _ w1 hT hB2 b3 (by have:=hb3.out;refine ⟨?_,?_,?_,?_⟩<;>omega)) (by have:=hb3.out;omega) (by omega)).mono ?_
 rintro e w2 ⟨v,rfl,hm,ho⟩
 obtain ⟨a,c',rfl⟩:=ownsRow_form ho
 go_wp2_with fail
 go_ret
 exact ⟨_,rfl,hm1.trans' hm (fun i hi e=>by have:=hb3.out;omega),ownsRow_base ho (by have:=hb3.out;omega)⟩
theorem chain_any (b g c:Nat) (l:List Grp) (n:Int) (w:World) (h:TreeAt w b g c l) :
 Calls Tryz.prog 131 #[.pointer (some ⟨b,0,none⟩),.int .i64 n] w fun e w'=>∃ v,e=.returned v∧Mod (fun _=>False) w w'∧IntsAt w' v (chainL l n) :=
 (ownChain_any b g c l n w h).mono fun _ _ ⟨v,h1,h2,h3⟩=>⟨v,h1,h2,ints_of_row h3⟩
end Tre

namespace Tre
open Go.RowKit Go.Shelf
theorem intsAt_get {w:World} {a:Option Addr} {k c:Nat} {ns:List Int} (h:IntsAt w (.slice a k c) ns) {j:Nat} {n:Int} (hj:ns[j]?=some n):∃ b off,a=some ⟨b,off,none⟩∧w.cell? ⟨b,off+j,none⟩=some (.int .i64 n):=by
 obtain ⟨a',cap,h1,h2,h3,h4⟩:=h
 injection h1 with e1 e2 e3
 subst e1
 have hlt:=(ζi.1 hj).1
 obtain ⟨b,off,h5,h6⟩:=h4 j hlt
 refine ⟨b,off,h5,?_⟩
 rw [h6,List.getD_eq_getElem?_getD,hj]
 rfl
theorem take_succ_get {α:Type} {l:List α} {k:Nat} {x:α} (h:l[k]?=some x):l.take (k+1)=l.take k++[x]:=by
 rw [List.take_add_one,h];rfl
def indexL (ns:List Int) (n:Int):Int:=if n∈ns then (ns.idxOf n:Int) else -1
theorem indexL_at {ns:List Int} {n:Int} {k:Nat} (h:n∉ns.take k) (hk:ns[k]?=some n):indexL ns n=k:=by
 unfold indexL
 rw [if_pos (ζm hk)]
 have hlt:=(ζi.1 hk).1
 have e:ns=ns.take k++(n::ns.drop (k+1)):=by
  have h1:=(ζi.1 hk).2
  rw [←h1,←List.drop_eq_getElem_cons hlt,List.take_append_drop]
 rw [e,List.idxOf_append,if_neg h,List.idxOf_cons_self,List.length_take]
 omega
theorem indexL_nonneg (ns:List Int) (n:Int):decide (0≤indexL ns n)=decide (n∈ns):=by
 unfold indexL
 by_cases h:n∈ns
 · simp [h]
 · simp [h]
theorem index_any (ns:List Int) (v:Value) (n:Int) (w:World) (h:IntsAt w v ns) :
 Calls Tryz.prog 204 #[v,.int .i64 n] w fun e w'=>e=.returned (.int .i64 (indexL ns n))∧w=w':=by
 obtain ⟨a,cap,rfl,hcap,hmax,_⟩:=id h
 unfold maxLen at hmax
 obtain ⟨r,hr⟩:∃ r,r=indexL ns n:=⟨_,rfl⟩
 rw [←hr]
 have HR:=ζh hr
 clear hr
 go_enter Tryz.func204,Tryz.ntmps204
 go_wp2_with fail
 go_loop [8] (fun i=>∃ k:Nat,k≤ns.length∧i=.int .i64 k∧n∉ns.take k) (fun i=>ns.length - (intOf i).toNat)
 case atStart=>exact ⟨0,by omega,rfl,by simp⟩
 case round =>
  obtain ⟨k,hk,rfl,hn⟩:=hrel
  by_cases hlt:k < ns.length
  · obtain ⟨x,hx⟩:∃ x,ns[k]?=some x:=⟨_,ζg hlt⟩
    obtain ⟨b,off,rfl,hc0⟩:=intsAt_get h hx
    by_cases hxn:n=x
    · have hd:(n==x)=true:=by rw [beq_iff_eq];exact hxn
      subst hxn
      obtain rfl:r=k:=HR.out.trans (indexL_at hn hx)
      clear hn hx h
      go_wp2_with fail
      go_ret
      exact ⟨rfl,rfl⟩
    · have hd:(n==x)=false:=by rw [beq_eq_false_iff_ne];exact hxn
      have hn1:n∉ns.take (k+1):=by
       rw [take_succ_get hx]
       simp only [List.mem_append,List.mem_singleton,not_or]
       exact ⟨hn,hxn⟩
      have HN:=ζh hn1
      have HH:=ζh h
      clear hn hn1 hx hxn h
      go_wp2_with fail
      go_round
      case rel=>exact ⟨k+1,by omega,by go_num,HN.out⟩
      case measure=>simp [intOf];omega
  · obtain rfl:k=ns.length:=by omega
    rw [List.take_length] at hn
    obtain rfl:r=-1:=by rw [HR.out];unfold indexL;rw [if_neg hn]
    clear hn h
    go_wp2_with fail
    go_ret
    exact ⟨rfl,rfl⟩
theorem contains_any (ns:List Int) (v:Value) (n:Int) (w:World) (h:IntsAt w v ns) :
 Calls Tryz.prog 156 #[v,.int .i64 n] w fun e w'=>e=.returned (.bool (decide (n∈ns)))∧w=w':=by
 obtain ⟨a,cap,rfl,_⟩:=id h
 obtain ⟨r,hr⟩:∃ r,r=decide (n∈ns):=⟨_,rfl⟩
 rw [←hr]
 rw [←indexL_nonneg] at hr
 have HR:=ζh hr
 clear hr
 go_enter Tryz.func156,Tryz.ntmps156
 go_wp2_with fail
 refine (index_any ns _ n _ h).mono ?_
 rintro e w1 ⟨rfl,rfl⟩
 clear h
 go_wp2_with fail
 go_ret
 rw [HR.out]
 exact ⟨rfl,rfl⟩
theorem below1_any (b g c:Nat) (l:List Grp) (n x:Int) (tb gb:Nat) (w:World) (h:TreeAt w b g c l)
 (htb:Blk w tb #[.pointer (some ⟨b,0,none⟩)] 70) (hgb:Blk w gb #[.int .i64 n] 3) :
 Calls Tryz.prog 155 #[.int .i64 x,.pointer (some ⟨tb,0,none⟩),.pointer (some ⟨gb,0,none⟩)] w fun e w'=>e=.returned (.bool (decide (n∈chainL l x)))∧Mod (fun _=>False) w w':=by
 have ct:=htb.cell 0
 have cg:=hgb.cell 0
 simp only [ζa,ζb] at ct cg
 go_enter Tryz.func155,Tryz.ntmps155
 go_wp2_with fail
 go_region_held3 (fun w'=>w'.cell? ⟨tb,0,none⟩=some (.pointer (some ⟨b,0,none⟩))∧w'.cell? ⟨gb,0,none⟩=some (.int .i64 n)) (first | exact ⟨ct,cg⟩ | exact ⟨q1,q2⟩) (first | (go_at_call 131;refine (chain_any b g c l x _ (h.keepN (Mod.refl _ _).drew)).mono ?_;rintro e w2 ⟨v,rfl,hm2',hi⟩;have hm2:Mod (fun _=>False) w w2:=(Mod.refl _ _).drew.trans hm2';have q1:=hm2.keeps ct (fun x=>x);have q2:=hm2.keeps cg (fun x=>x)) | (go_at_call 156;refine (contains_any _ _ n _ hi).mono ?_;rintro e w3 ⟨rfl,rfl⟩))
 go_wp2_with fail
 go_ret
 exact ⟨rfl,hm2⟩
end Tre

namespace Tre
open Go.RowKit Go.Shelf
def thoseK (l:List Grp) (p:Int→Bool) (k:Nat):List Int:=((List.range k).map (fun (i:Nat)=>(i:Int))).filter (fun i=>liveB l i&&p i)
theorem thoseK_all (l:List Grp) (p:Int→Bool):thoseK l p l.length=thoseL l p:=rfl
theorem thoseK_succ (l:List Grp) (p:Int→Bool) (k:Nat):thoseK l p (k+1)=thoseK l p k++(if liveB l k&&p k then [(k:Int)] else []):=by
 unfold thoseK
 rw [List.range_succ,List.map_append,List.filter_append]
 congr 1
 simp only [List.map_cons,List.map_nil,List.filter_cons,List.filter_nil]
theorem thoseK_le (l:List Grp) (p:Int→Bool) (k:Nat):(thoseK l p k).length≤k:=by
 unfold thoseK
 exact Nat.le_trans (List.length_filter_le _ _) (by simp)
theorem thoseBelow_any (b g c:Nat) (l:List Grp) (n:Int) (tb gb:Nat) (w:World) (h:TreeAt w b g c l)
 (htb:Blk w tb #[.pointer (some ⟨b,0,none⟩)] 70) (hgb:Blk w gb #[.int .i64 n] 3) :
 Calls Tryz.prog 154 #[.pointer (some ⟨b,0,none⟩),.func (.func 155) #[] #[.pointer (some ⟨tb,0,none⟩),.pointer (some ⟨gb,0,none⟩)]] w fun e w' =>
  ∃ v,e=.returned v∧Mod (fun _=>False) w w'∧w'.ownsRow w.heap.size 3 1 v (thoseL l (fun x=>decide (n∈chainL l x))).length ((thoseL l (fun x=>decide (n∈chainL l x))).map encI):=by
 have hb:=h.head
 have hl64:=h.good.le
 go_enter Tryz.func154,Tryz.ntmps154
 go_wp2_with fail
 obtain ⟨wo,rfl⟩:∃ wo:World,wo=w:=⟨_,rfl⟩
 go_loopw [5,12] (fun v i wr=>∃ k:Nat,k≤l.length∧i=.int .i64 k∧wr.ownsRow wo.heap.size 3 1 v (thoseK l (fun x=>decide (n∈chainL l x)) k).length ((thoseK l (fun x=>decide (n∈chainL l x)) k).map encI)∧Mod (fun _=>False) wo wr) (fun _ i _=>l.length - (intOf i).toNat)
 case atStart=>exact ⟨0,by omega,rfl,⟨rfl,.inl ⟨rfl,rfl⟩⟩,Mod.refl _ _⟩
 case round =>
  obtain ⟨k,hk,rfl,hown,hmr⟩:=hrel
  by_cases hlt:k < l.length
  · obtain ⟨x,hx⟩:∃ x,l[k]?=some x:=⟨_,ζg hlt⟩
    have hb2:=(h.keepN hmr).head
    obtain ⟨_,c1⟩:=(h.keepN hmr).cells hx
    have hsucc:=thoseK_succ l (fun x=>decide (n∈chainL l x)) k
    rw [live_of hx] at hsucc
    have hkle:=thoseK_le l (fun x=>decide (n∈chainL l x)) k
    have hkI:(k:Int) < l.length:=by omega
    have hkN:0≤(k:Int):=by omega
    cases hxl:x.live with
    | false =>
      rw [hxl] at c1 hsucc
      rw [Bool.false_and,if_neg (by decide),List.append_nil] at hsucc
      rw [←hsucc] at hown
      clear hsucc hx hxl hb
      go_wp2_with fail
      go_roundw
      case rel=>exact ⟨k+1,by omega,by go_num,hown,hmr⟩
      case measure=>simp [intOf];omega
    | true =>
      rw [hxl] at c1 hsucc
      rw [Bool.true_and] at hsucc
      have HS:=ζh hsucc
      clear hsucc hx hxl hb
      have hcall:=below1_any b g c l n k tb gb _ (h.keepN hmr) (htb.keep hmr (fun x=>x)) (hgb.keep hmr (fun x=>x))
      obtain ⟨r,hr⟩:∃ r,r=(fun x=>decide (n∈chainL l x)) (k:Int):=⟨_,rfl⟩
      dsimp only at hr
      rw [←hr] at hcall
      have HR:=ζh hr
      clear hr
      cases r with
      | false =>
        have hnext:thoseK l (fun x=>decide (n∈chainL l x)) (k+1)=thoseK l (fun x=>decide (n∈chainL l x)) k:=by rw [HS.out,←HR.out];simp
        rw [←hnext] at hown
        clear hnext
        go_wp2_with fail
        refine hcall.mono ?_
        clear hcall
        rintro e w2 ⟨rfl,hm2⟩
        go_wp2_with fail
        go_roundw
        case rel=>exact ⟨k+1,by omega,by go_num,ownsRow_keep hown hm2 (fun _ _ x=>x),hmr.trans hm2⟩
        case measure=>simp [intOf];omega
      | true =>
        have hnext:thoseK l (fun x=>decide (n∈chainL l x)) (k+1)=thoseK l (fun x=>decide (n∈chainL l x)) k++[(k:Int)]:=by rw [HS.out,←HR.out];simp
        have HN:=ζh hnext
        clear hnext
        go_wp2_with fail
        refine hcall.mono ?_
        clear hcall
        rintro e w2 ⟨rfl,hm2⟩
        have hown2:=ownsRow_keep hown hm2 (fun _ _ x=>x)
        have hs1:=hmr.size
        have hs2:=hm2.size
        go_wp2_with (at_builtin;refine wpList_app rfl _ _ 30 rfl wo.heap.size 3 (.int .i64 0) 1 8 Tryz.underlying30 info_int rfl (by decide) (by decide) _ _ _ rfl (hown2.alloc _) ⟨w2.heap.size,0,none⟩ 1 [.int .i64 k] rfl rfl (cell_one_new _ _ _) (by simp [Value.oneCell']) (by omega) (by simp;omega) ?_;intro g1 cap1 w3 o3 m3 hg3 hlt3)
        have o4:w3.ownsRow wo.heap.size 3 1 (.slice (some ⟨g1,0,none⟩) ((thoseK l (fun x=>decide (n∈chainL l x)) k).length+1) cap1) (thoseK l (fun x=>decide (n∈chainL l x)) (k+1)).length ((thoseK l (fun x=>decide (n∈chainL l x)) (k+1)).map encI):=by
         rw [HN.out,List.map_append,List.length_append];exact o3
        have m4:Mod (fun _=>False) wo w3:=((hmr.trans hm2).alloc _).trans' m3 (fun q hq e=>by have:=ownsRow_ge hown q e.symm;omega)
        go_roundw
        case rel=>exact ⟨k+1,by omega,by go_num,o4,m4⟩
        case measure=>simp [intOf];omega
  · obtain rfl:k=l.length:=by omega
    rw [thoseK_all] at hown
    obtain ⟨a,c',rfl⟩:=ownsRow_form hown
    clear hb
    go_wp2_with fail
    go_ret
    exact ⟨_,rfl,hmr,hown⟩
theorem ownBelow_any (b g c:Nat) (l:List Grp) (n:Int) (w:World) (h:TreeAt w b g c l) :
 Calls Tryz.prog 90 #[.pointer (some ⟨b,0,none⟩),.int .i64 n] w fun e w'=>∃ v,e=.returned v∧Mod (fun _=>False) w w'∧w'.ownsRow w.heap.size 3 1 v (if liveB l n=true then thoseL l (fun x=>decide (n∈chainL l x)) else []).length ((if liveB l n=true then thoseL l (fun x=>decide (n∈chainL l x)) else []).map encI):=by
 have b2:=Blk.new w #[.pointer (some ⟨b,0,none⟩)] 70
 have m2:=Mod.alloc' (fun _=>False) w (.cells #[.pointer (some ⟨b,0,none⟩)] 70)
 have b3:=Blk.new (w.alloc (.cells #[.pointer (some ⟨b,0,none⟩)] 70)) #[.int .i64 n] 3
 have m3:=Mod.alloc' (fun _=>False) (w.alloc (.cells #[.pointer (some ⟨b,0,none⟩)] 70)) (.cells #[.int .i64 n] 3)
 rw [World.size_alloc] at b3
 have hB2:=b2.keep m3 (fun x=>x)
 have hm1:=m2.trans m3
 have hT:=h.keepN hm1
 clear b2 m2 m3
 obtain ⟨xs,hxs⟩:∃ xs,xs=if liveB l n=true then thoseL l (fun x=>decide (n∈chainL l x)) else []:=⟨_,rfl⟩
 rw [←hxs]
 go_enter Tryz.func90,Tryz.ntmps90
 go_wp2_with fail
 refine (live_any b g c l n _ hT).mono ?_
 cases hl:liveB l n with
 | false =>
   rw [hl,if_neg (by decide)] at hxs
   subst hxs
   clear hl
   rintro e w2 ⟨rfl,rfl⟩
   go_wp2_with fail
   go_ret
   exact ⟨_,rfl,hm1,⟨rfl,.inl ⟨rfl,rfl⟩⟩⟩
 | true =>
   rw [hl,if_pos rfl] at hxs
   subst hxs
   clear hl
   rintro e w2 ⟨rfl,rfl⟩
   go_wp2_with fail
   refine (thoseBelow_any b g c l n w.heap.size (w.heap.size+1) _ hT hB2 b3).mono ?_
   rintro e w3 ⟨v,rfl,hm3,ho⟩
   obtain ⟨a,c',rfl⟩:=ownsRow_form ho
   go_wp2_with fail
   go_ret
   exact ⟨_,rfl,hm1.trans hm3,ownsRow_base ho (by simp;omega)⟩
theorem below_any (b g c:Nat) (l:List Grp) (n:Int) (w:World) (h:TreeAt w b g c l) :
 Calls Tryz.prog 90 #[.pointer (some ⟨b,0,none⟩),.int .i64 n] w fun e w'=>∃ v,e=.returned v∧Mod (fun _=>False) w w'∧IntsAt w' v (belowL l n) :=
 (ownBelow_any b g c l n w h).mono fun _ _ ⟨v,h1,h2,h3⟩=>⟨v,h1,h2,ints_of_row h3⟩
end Tre

namespace Tre
open Go.RowKit Go.Shelf
theorem info_group:(Tryz.prog.info? 95).map (fun i=>(i.zero,i.size,i.bytes))=some (some (.agg #[.int .i64 0,.bool false]),2,16):=by kernel_rfl
theorem owns_of_blk {w:World} {g n size T:Nat} {cs:Array Value} (h:Blk w g cs T) (hn:cs.size=n * size) (hm:n≤maxLen):w.ownsRow g T size (.slice (some ⟨g,0,none⟩) n n) n cs.toList:=by
 refine ⟨by simp [hn],.inr ⟨g,n,cs,rfl,Nat.le_refl _,h,Nat.le_refl _,hm,hn,?_⟩⟩
 exact List.take_of_length_le (by simp [hn])
theorem flat_set {α:Type} {ec:α→List Value} {sz:Nat} (hlen:∀ x,(ec x).length=sz) (v:Value) (x':α):∀ (l:List α) (j i:Nat) (x:α),i < sz→l[j]?=some x→ec x'=(ec x).set i v→(l.flatMap ec).set (j * sz+i) v=(l.set j x').flatMap ec:=by
 intro l
 induction l with
 | nil=>intro j i x _ hx;simp at hx
 | cons y l ih =>
   intro j i x hi hx he
   rw [List.flatMap_cons]
   cases j with
   | zero =>
     simp only [ζb,Option.some.injEq] at hx
     subst hx
     rw [Nat.zero_mul,Nat.zero_add,List.set_append_left _ _ (by rw [hlen];exact hi),List.set_cons_zero,List.flatMap_cons,he]
   | succ j =>
     simp only [ζc] at hx
     rw [Nat.succ_mul,List.set_append_right _ _ (by rw [hlen];omega),hlen,show j * sz+sz+i - sz=j * sz+i from by omega,ih j i x hi hx he,List.set_cons_succ,List.flatMap_cons]
theorem new_any (w:World):Calls Tryz.prog 25 #[] w fun e w'=>∃ b g c,e=.returned (.pointer (some ⟨b,0,none⟩))∧Mod (fun _=>False) w w'∧TreeAt w' b g c newT∧w.heap.size≤b∧w.heap.size≤g:=by
 go_enter Tryz.func25,Tryz.ntmps25
 go_wp2_with fail
 go_ret
 have b2:=Blk.new w #[.int .i64 (-1),.bool true] 95
 have hm2:=Mod.alloc' (fun _=>False) w (.cells #[.int .i64 (-1),.bool true] 95)
 have b3:=Blk.new (w.alloc (.cells #[.int .i64 (-1),.bool true] 95)) #[.slice (some ⟨w.heap.size,0,none⟩) 1 1] 98
 have hm3:=Mod.alloc' (fun _=>False) (w.alloc (.cells #[.int .i64 (-1),.bool true] 95)) (.cells #[.slice (some ⟨w.heap.size,0,none⟩) 1 1] 98)
 have b4:=b2.keep hm3 (fun x=>x)
 rw [World.size_alloc] at b3
 refine ⟨_,w.heap.size,1,rfl,hm2.trans hm3,⟨b3,ownsRow_base (owns_of_blk (n:=1) (size:=2) b4 rfl (by unfold maxLen;omega)) (Nat.zero_le _),newT_good⟩,by omega,Nat.le_refl _⟩
theorem add_any (b g c:Nat) (l:List Grp) (p:Int) (w:World) (h:TreeAt w b g c l) :
 Calls Tryz.prog 80 #[.pointer (some ⟨b,0,none⟩),.int .i64 p] w fun e w' =>
  ∃ g' c',e=.returned (.tuple #[.int .i64 (addG l p),.int .i64 (addE l p)])∧Mod (fun i=>i=b∨i=g) w w'∧TreeAt w' b g' c' (addS l p)∧(g'=g∨w.heap.size≤g'):=by
 cases hl:liveB l p with
 | false =>
   have e1:addE l p=2:=by unfold addE;rw [hl];rfl
   have e2:addS l p=l:=by unfold addS;rw [e1];rfl
   have e3:addG l p=-1:=by unfold addG;rw [e1];rfl
   rw [e1,e2,e3]
   clear e1 e2 e3
   go_enter Tryz.func80,Tryz.ntmps80
   go_wp2_with fail
   refine (live_any b g c l p _ h).mono ?_
   rw [hl]
   clear hl
   rintro e w1 ⟨rfl,rfl⟩
   go_wp2_with fail
   go_ret2
   exact ⟨g,c,rfl,Mod.refl _ _,h,.inl rfl⟩
 | true =>
   by_cases hd:7≤depthL l p
   · have e1:addE l p=21:=by unfold addE;rw [hl,if_pos rfl,if_pos hd]
     have e2:addS l p=l:=by unfold addS;rw [e1];rfl
     have e3:addG l p=-1:=by unfold addG;rw [e1];rfl
     rw [e1,e2,e3]
     have hd':decide (7≤depthL l p)=true:=by simp [hd]
     clear e1 e2 e3
     go_enter Tryz.func80,Tryz.ntmps80
     go_wp2_with fail
     refine (live_any b g c l p _ h).mono ?_
     rw [hl]
     clear hl
     rintro e w1 ⟨rfl,rfl⟩
     go_wp2_with fail
     refine (depth_any b g c l p _ h).mono ?_
     rintro e w2 ⟨rfl,hm2⟩
     go_wp2_with fail
     go_ret2
     exact ⟨g,c,rfl,hm2.mono (fun _ x=>x.elim),h.keepN hm2,.inl rfl⟩
   · have hd':decide (7≤depthL l p)=false:=by simp;omega
     by_cases hn:64≤l.length
     · have e1:addE l p=3:=by unfold addE;rw [hl,if_pos rfl,if_neg hd,if_pos hn]
       have e2:addS l p=l:=by unfold addS;rw [e1];rfl
       have e3:addG l p=-1:=by unfold addG;rw [e1];rfl
       rw [e1,e2,e3]
       have hn':decide (64≤(l.length:Int))=true:=by simp;omega
       clear e1 e2 e3 hd hn
       go_enter Tryz.func80,Tryz.ntmps80
       go_wp2_with fail
       refine (live_any b g c l p _ h).mono ?_
       rw [hl]
       clear hl
       rintro e w1 ⟨rfl,rfl⟩
       go_wp2_with fail
       refine (depth_any b g c l p _ h).mono ?_
       rintro e w2 ⟨rfl,hm2⟩
       have hb:=(h.keepN hm2).head
       go_wp2_with fail
       go_ret2
       exact ⟨g,c,rfl,hm2.mono (fun _ x=>x.elim),h.keepN hm2,.inl rfl⟩
     · have e1:addE l p=0:=by unfold addE;rw [hl,if_pos rfl,if_neg hd,if_neg hn]
       have e2:addS l p=l++[⟨p,true⟩]:=by unfold addS;rw [e1];rfl
       have e3:addG l p=l.length:=by unfold addG;rw [e1];rfl
       have hgood:=addS_good h.good p
       rw [e1,e2,e3]
       rw [e2] at hgood
       have hn':decide (64≤(l.length:Int))=false:=by simp;omega
       have hlen:=h.good.le
       clear e1 e2 e3 hd hn
       go_enter Tryz.func80,Tryz.ntmps80
       go_wp2_with fail
       refine (live_any b g c l p _ h).mono ?_
       rw [hl]
       clear hl
       rintro e w1 ⟨rfl,rfl⟩
       go_wp2_with fail
       refine (depth_any b g c l p _ h).mono ?_
       rintro e w2 ⟨rfl,hm2⟩
       have hh:=h.keepN hm2
       have hb:=hh.head
       go_wp2_with (at_builtin;refine wpList_app rfl _ _ 96 rfl 0 95 _ 2 16 Tryz.underlying96 info_group rfl (by decide) (by decide) _ _ _ rfl (hh.row.alloc _) ⟨w2.heap.size,0,none⟩ 1 [.int .i64 p,.bool true] rfl rfl (World.news_of_block (cs:=#[.int .i64 p,.bool true]) (t:=95) (fr:=(0,0)) (heap_alloc_new w2 _)) (by simp [Value.oneCell']) (by omega) (Nat.zero_le _) ?_;intro g1 cap1 w3 o3 m3 hg3 hlt3;have m4:Mod (fun k=>some k=(Value.slice (some ⟨g,0,none⟩) l.length c).ownBlock) w2 w3:=(Mod.alloc' _ _ _).trans m3;have hB3:=hh.blk.keep m4 (fun e=>ownsRow_ne_blk hh.row hh.blk (by decide) _ e.symm rfl);have hd3:=hB3.cell 0;simp only [ζa,ζb] at hd3;have hf3:=hB3.frozen 0;have hset:=hB3.set 0 (.slice (some ⟨g1,0,none⟩) (l.length+1) cap1);have hs3:=hset.cell 0;simp at hs3)
       go_ret2
       have hg3':g1=g∨w2.heap.size+1=g1:=by
        rcases hg3 with hg3 | hg3
        · injection hg3 with hg3;exact .inl hg3.symm
        · rw [hg3];simp
       have hs2:=hm2.size
       have o5:=ownsRow_keep o3 (mod_setCell w3 b 0 (.slice (some ⟨g1,0,none⟩) (l.length+1) cap1)) (ownsRow_ne_blk o3 hB3 (by decide))
       refine ⟨g1,cap1,rfl,?_,⟨?_,?_,hgood⟩,by omega⟩
       · exact ((hm2.mono (fun _ x=>x.elim)).trans (m4.mono (fun i e=>by injection e with e;exact .inr e))).trans ((mod_setCell _ _ _ _).mono (fun i e=>.inl e))
       · rw [List.length_append];exact hset
       · rw [List.length_append,List.flatMap_append];exact o5
end Tre

namespace Vic
open Go.Proofs.YtkfoeonggmlebaaGreatDoor.Tre
open Go.RowKit
structure Prc where
 group:Int
 size:Int
 live:Bool
def ecP (p:Prc):List Value:=[.int .i64 p.group,.int .i64 p.size,.bool p.live]
theorem ecP_len (p:Prc):(ecP p).length=3:=rfl
def okP (ins:List Int) (m:Int) (p:Prc):Bool:=p.live&&decide (m < p.size)&&decide (p.group∈ins)
def stepP (ins:List Int) (k:Nat) (s:Int × Int) (p:Prc):Int × Int:=if okP ins s.2 p=true then ((k:Int),p.size) else s
def pickK (ps:List Prc) (ins:List Int):Nat→Int × Int
 | 0=>(-1,0)
 | k+1=>match ps[k]? with
   | some p=>stepP ins k (pickK ps ins k) p
   | none=>pickK ps ins k
theorem pickK_succ {ps:List Prc} {ins:List Int} {k:Nat} {p:Prc} (h:ps[k]?=some p):pickK ps ins (k+1)=stepP ins k (pickK ps ins k) p:=by
 rw [pickK.eq_2,h]
def PickOk (ps:List Prc) (ins:List Int) (k:Nat) (s:Int × Int):Prop :=
 (s.1=-1∧s.2=0)∨∃ (j:Nat) (p:Prc),s.1=j∧j < k∧ps[j]?=some p∧p.live=true∧p.group∈ins∧p.size=s.2∧0 < s.2
theorem pick_ok (ps:List Prc) (ins:List Int):∀ k,PickOk ps ins k (pickK ps ins k):=by
 intro k
 induction k with
 | zero=>exact .inl ⟨rfl,rfl⟩
 | succ k ih =>
   have hw:PickOk ps ins (k+1) (pickK ps ins k):=by
    rcases ih with h | ⟨j,p,h1,h2,h3⟩
    · exact .inl h
    · exact .inr ⟨j,p,h1,by omega,h3⟩
   rw [pickK.eq_2]
   cases hp:ps[k]? with
   | none=>exact hw
   | some p =>
     show PickOk ps ins (k+1) (stepP ins k (pickK ps ins k) p)
     unfold stepP
     split
     next ho =>
      unfold okP at ho
      simp only [Bool.and_eq_true,decide_eq_true_eq] at ho
      have h0:0≤(pickK ps ins k).2:=by
       rcases ih with h | ⟨_,_,_,_,_,_,_,_,h⟩<;>omega
      exact .inr ⟨k,p,rfl,by omega,hp,ho.1.1,ho.2,rfl,by simp only;omega⟩
     next=>exact hw
def isW (wh:List Bool) (g:Int):Bool:=decide (0≤g)&&decide (g < wh.length)&&wh.getD g.toNat false
def wholeD (cs:List Int) (wh:List Bool):Nat→Int
 | 0=>-1
 | k+1=>match cs[k]? with
   | some g=>if isW wh g=true then g else wholeD cs wh k
   | none=>wholeD cs wh k
theorem wholeD_succ {cs:List Int} {wh:List Bool} {k:Nat} {g:Int} (h:cs[k]?=some g):wholeD cs wh (k+1)=if isW wh g=true then g else wholeD cs wh k:=by
 rw [wholeD.eq_2,h]
def wholeL (cs:List Int) (t:Int) (wh:List Bool):Int:=wholeD cs wh (indexL cs t+1).toNat
def doomK (ps:List Prc) (ins:List Int):Nat→List Int
 | 0=>[]
 | k+1=>match ps[k]? with
   | some p=>if (p.live&&decide (p.group∈ins))=true then doomK ps ins k++[(k:Int)] else doomK ps ins k
   | none=>doomK ps ins k
theorem doomK_succ {ps:List Prc} {ins:List Int} {k:Nat} {p:Prc} (h:ps[k]?=some p):doomK ps ins (k+1)=if (p.live&&decide (p.group∈ins))=true then doomK ps ins k++[(k:Int)] else doomK ps ins k:=by
 rw [doomK.eq_2,h]
theorem doomK_le (ps:List Prc) (ins:List Int):∀ k,(doomK ps ins k).length≤k:=by
 intro k
 induction k with
 | zero=>exact Nat.le_refl _
 | succ k ih =>
   rw [doomK.eq_2]
   cases ps[k]? with
   | none=>exact Nat.le_succ_of_le ih
   | some p =>
     show (if _ then _ else _:List Int).length≤_
     split
     · rw [List.length_append,List.length_singleton];omega
     · omega
def grpOf (ps:List Prc) (v:Int):Int:=((ps[v.toNat]?).map (·.group)).getD 0
def vicL (L:List Grp) (ps:List Prc) (t:Int):Int:=(pickK ps (belowL L t) ps.length).1
def atOnce (L:List Grp) (ps:List Prc) (t:Int) (wh:List Bool):Int:=wholeL (chainL L (grpOf ps (vicL L ps t))) t wh
def doomL (L:List Grp) (ps:List Prc) (t:Int) (wh:List Bool):List Int :=
 if vicL L ps t < 0 then [] else if atOnce L ps t wh < 0 then [vicL L ps t] else doomK ps (belowL L (atOnce L ps t wh)) ps.length
theorem grpOf_at {ps:List Prc} {j:Nat} {p:Prc} (h:ps[j]?=some p):grpOf ps (j:Int)=p.group:=by
 unfold grpOf
 rw [Int.toNat_natCast,h]
 rfl
end Vic
end Go.Proofs.YtkfoeonggmlebaaGreatDoor
