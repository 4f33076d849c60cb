/-
  Contracts of the program's functions, and plain facts, towards the laws of millpondtop. No condition beyond those that each theorem bears.
-/
import Derived.Test.YtkfoeonggmlebaaGreatDoorQ22
import Derived.Test.YtkfoeonggmlebaaGreatDoorQ25
import Derived.Test.YtkfoeonggmlebaaGreatDoorQ32
import Derived.Test.YtkfoeonggmlebaaGreatDoorQ33
import Derived.Test.YtkfoeonggmlebaaGreatDoorQ34
import Derived.Test.YtkfoeonggmlebaaGreatDoorQ39
import Derived.Test.YtkfoeonggmlebaaGreatDoorQ41
import Derived.Test.YtkfoeonggmlebaaGreatDoorQAA
set_option maxRecDepth 100000
set_option maxHeartbeats 4000000
namespace Go.Proofs.YtkfoeonggmlebaaGreatDoor
section
open Go.RowKit Go.Shelf Go.ChangeShapes Go.WideShapes
attribute [local go_sem] Oper.semAt_some
structure VK where
 vb:Nat
 co:CK
 pv:Value
 sbs:List Nat
def spP (b:Nat) (p:Int × Option SpM):Part:=match p.2 with
 | some s=>spaceP b s
 | none=>nilP
def spV (b:Nat) (p:Int × Option SpM):Value:=match p.2 with
 | some _=>.pointer (some ⟨b,0,none⟩)
 | none=>.pointer none
def spL (bs:List Nat) (ps:List (Int × Option SpM)):List Part:=List.zipWith spP bs ps
def prC (bs:List Nat) (ps:List (Int × Option SpM)):List Value:=(List.zipWith (fun b p=>[Value.int .i64 p.1,spV b p]) bs ps).flatten
abbrev VL (K:VK) (v:VmM):List Part:=[coreP K.co v.core,blkP K.vb #[.pointer (some ⟨K.co.b,0,none⟩),K.pv] 55,rowP 68 2 K.pv v.procs.length (prC K.sbs v.procs),sepP (spL K.sbs v.procs)]
structure VOk (N:Nat) (K:VK) (v:VmM):Prop where
 len:K.sbs.length=v.procs.length
 few:v.procs.length≤64
 core:CSmall N v.core
 regs:∀ p∈v.procs,∀ s,p.2=some s→s.regs.length≤N
variable {w0 w:World} {F0:Nat→Prop} {A B C P:Part} {ls ps L:List Part} {K:VK} {v:VmM} {N:Nat}
theorem Sep.unset {w:World}:∀ {l:List Part} {F:Nat→Prop} {P:Part} (i:Nat),Sep l w F→l[i]?=some P→Sep (P::l.set i nilP) w F
 | [],_,_,i,_,hi=>by simp at hi
 | B::l,F,P,0,⟨F1,F2,h1,h2,h3,h4⟩,hi=>by
   simp at hi;subst hi
   exact ⟨F1,F2,h1,⟨fun _=>False,F2,rfl,h2,fun _ x=>x.elim,fun x=>by simp⟩,h3,h4⟩
 | B::l,F,P,i+1,⟨F1,F2,h1,h2,h3,h4⟩,hi=>by
   simp at hi
   obtain ⟨F3,F4,g1,g2,g3,g4⟩:=h2.unset i hi
   refine ⟨F3,fun x=>F1 x∨F4 x,g1,⟨F1,F4,h1,g2,fun x hx h=>h3 x hx ((g4 x).2 (.inr h)),fun x=>Iff.rfl⟩,fun x hx hc=>?_,fun x=>?_⟩
   · rcases hc with h | h
     · exact h3 x h ((g4 x).2 (.inl hx))
     · exact g3 x hx h
   · have e:=h4 x
     have e':=g4 x
     grind
theorem Step.pullAt (j i:Nat) (st:Step w0 F0 ps w) (hj:ps[j]?=some (sepP L)) (hi:L[i]?=some P):Step w0 F0 (P::ps.set j (sepP (L.set i nilP))) w:=by
 obtain ⟨F,h,hg,hF⟩:=st.sep
 refine ⟨st.mod,st.tab,F,?_,hg,hF⟩
 obtain ⟨F1,F2,h1,h2,h3,h4⟩:=h.unset j hj
 obtain ⟨F3,F4,g1,g2,g3,g4⟩:=Sep.unset i h1 hi
 have hs:Sep (sepP (L.set i nilP)::ps.set j nilP) w (fun x=>F4 x∨F2 x):=⟨F4,F2,g2,h2,fun x hx=>h3 x ((g4 x).2 (.inr hx)),fun x=>Iff.rfl⟩
 have hlt:j < ps.length:=(ζi.1 hj).1
 have hs2:=hs.settle j (by rw [List.getElem?_set_self hlt])
 rw [List.set_set] at hs2
 refine ⟨F3,fun x=>F4 x∨F2 x,g1,hs2,fun x hx hc=>?_,fun x=>?_⟩
 · rcases hc with h | h
   · exact g3 x hx h
   · exact h3 x ((g4 x).2 (.inl hx)) h
 · have e:=h4 x
   have e':=g4 x
   grind
theorem Step.pushAt (j i:Nat) (st:Step w0 F0 (P::ps) w) (hj:ps[j]?=some (sepP L)) (hi:L[i]?=some nilP):Step w0 F0 (ps.set j (sepP (L.set i P))) w:=by
 obtain ⟨F,⟨F1,F2,h1,h2,h3,h4⟩,hg,hF⟩:=st.sep
 refine ⟨st.mod,st.tab,F,?_,hg,hF⟩
 obtain ⟨F3,F4,g1,g2,g3,g4⟩:=h2.unset j hj
 have hs:Sep (P::L) w (fun x=>F1 x∨F3 x):=⟨F1,F3,h1,g1,fun x hx h=>h3 x hx ((g4 x).2 (.inl h)),fun x=>Iff.rfl⟩
 have hs2:=hs.settle i hi
 have hlt:j < ps.length:=(ζi.1 hj).1
 have ht:Sep (sepP (L.set i P)::ps.set j nilP) w F:=by
  refine ⟨fun x=>F1 x∨F3 x,F4,hs2,g2,fun x hx hc=>?_,fun x=>?_⟩
  · rcases hx with h | h
    · exact h3 x h ((g4 x).2 (.inr hc))
    · exact g3 x h hc
  · have e:=h4 x
    have e':=g4 x
    grind
 have:=ht.settle j (by rw [List.getElem?_set_self hlt])
 rwa [List.set_set] at this
theorem spL_get {bs:List Nat} {l:List (Int × Option SpM)} {i b:Nat} {p:Int × Option SpM} (hb:bs[i]?=some b) (hp:l[i]?=some p):(spL bs l)[i]?=some (spP b p):=by
 unfold spL;rw [List.getElem?_zipWith,hb,hp]
theorem spL_set {bs:List Nat} {l:List (Int × Option SpM)} {i b:Nat} (p:Int × Option SpM) (hb:bs[i]?=some b):(spL bs l).set i (spP b p)=spL bs (l.set i p):=by
 unfold spL
 apply List.ext_getElem?
 intro j
 rw [List.getElem?_set,List.getElem?_zipWith,List.getElem?_zipWith,List.getElem?_set]
 by_cases hj:i=j
 · subst hj
   rw [if_pos rfl,if_pos rfl,hb,List.length_zipWith]
   by_cases hl:i < l.length
   · have hlb:=(ζi.1 hb).1
     rw [if_pos (by omega),if_pos hl]
   · rw [if_neg (by omega),if_neg hl]
 · rw [if_neg hj,if_neg hj]
theorem prC_len {bs:List Nat} {l:List (Int × Option SpM)} (h:bs.length=l.length):(prC bs l).length=l.length * 2:=by
 unfold prC
 induction l generalizing bs with
 | nil=>cases bs with
   | nil=>rfl
   | cons _ _=>cases h
 | cons p l ih =>
   cases bs with
   | nil=>cases h
   | cons b bs =>
     simp only [List.length_cons] at h
     rw [List.zipWith_cons_cons,List.flatten_cons,List.length_append,ih (by omega)]
     simp only [List.length_cons,List.length_nil]
     omega
theorem prC_get {bs:List Nat} {l:List (Int × Option SpM)} {i b:Nat} {p:Int × Option SpM} (hb:bs[i]?=some b) (hp:l[i]?=some p):(prC bs l)[i * 2]?=some (.int .i64 p.1)∧(prC bs l)[i * 2+1]?=some (spV b p):=by
 unfold prC
 induction l generalizing bs i with
 | nil=>simp at hp
 | cons q l ih =>
   cases bs with
   | nil=>simp at hb
   | cons c bs =>
     rw [List.zipWith_cons_cons,List.flatten_cons]
     cases i with
     | zero =>
       simp at hb hp
       subst hb hp
       exact ⟨rfl,rfl⟩
     | succ i =>
       simp only [ζc] at hb hp
       obtain ⟨h1,h2⟩:=ih hb hp
       have e1:(i+1) * 2=i * 2+2:=by omega
       have e2:(i+1) * 2+1=i * 2+1+2:=by omega
       constructor
       · rw [e1,List.getElem?_append_right (by simp)];exact h1
       · rw [e2,List.getElem?_append_right (by simp)];exact h2
theorem prC_set {bs:List Nat} {l:List (Int × Option SpM)} {i b:Nat} (p:Int × Option SpM) (hb:bs[i]?=some b) (hl:i < l.length):((prC bs l).set (i * 2) (.int .i64 p.1)).set (i * 2+1) (spV b p)=prC bs (l.set i p):=by
 unfold prC
 induction l generalizing bs i with
 | nil=>simp at hl
 | cons q l ih =>
   cases bs with
   | nil=>simp at hb
   | cons c bs =>
     cases i with
     | zero =>
       simp at hb
       subst hb
       rfl
     | succ i =>
       simp only [ζc] at hb
       have h1:=ih hb (by simpa using hl)
       rw [List.zipWith_cons_cons,List.flatten_cons,List.set_cons_succ,List.zipWith_cons_cons,List.flatten_cons,←h1]
       have e1:(i+1) * 2=i * 2+1+1:=by omega
       have e2:(i+1) * 2+1=i * 2+1+1+1:=by omega
       rw [e2,e1]
       rfl
structure VmAt (w:World) (K:VK) (v:VmM):Prop where
 c0:w.cell? ⟨K.vb,0,none⟩=some (.pointer (some ⟨K.co.b,0,none⟩))
 c1:w.cell? ⟨K.vb,1,none⟩=some K.pv
 f1:w.frozen? ⟨K.vb,1,none⟩=false
 row:w.ownsRow 0 68 2 K.pv v.procs.length (prC K.sbs v.procs)
theorem vmAt (st:Step w0 F0 (VL K v++ls) w):VmAt w K v:=by
 have hb:Blk w K.vb #[.pointer (some ⟨K.co.b,0,none⟩),K.pv] 55:=st.blk (by simp)
 exact ⟨hb.cell 0,hb.cell 1,hb.frozen 1,st.rowOf (by simp)⟩
theorem vm_form (h:VmAt w K v):∃ a c,K.pv=.slice a v.procs.length c:=ownsRow_form h.row
theorem vm_cells (h:VmAt w K v) (hk:K.sbs.length=v.procs.length) {i:Nat} {p:Int × Option SpM} (hp:v.procs[i]?=some p):∃ g c b,K.pv=.slice (some ⟨g,0,none⟩) v.procs.length c∧K.sbs[i]?=some b ∧
 w.cell? ⟨g,i * 2,none⟩=some (.int .i64 p.1)∧w.cell? ⟨g,i * 2+1,none⟩=some (spV b p):=by
 have hlt:=(ζi.1 hp).1
 obtain ⟨b,hb⟩:∃ b,K.sbs[i]?=some b:=⟨_,ζg (by omega)⟩
 have hl:=prC_len hk
 obtain ⟨e1,e2⟩:=prC_get hb hp
 rcases id h.row.2 with ⟨_,h0⟩ | ⟨g,cap,cur,hv,_⟩
 · omega
 · refine ⟨g,cap,b,hv,hb,?_,?_⟩
   · have hr:=h.row
     rw [hv] at hr
     exact (hr.cellAt (i * 2) (by omega)).trans e1
   · have hr:=h.row
     rw [hv] at hr
     exact (hr.cellAt (i * 2+1) (by omega)).trans e2
end

section
open Go.RowKit Go.Shelf Go.ChangeShapes Go.WideShapes
attribute [local go_sem] Oper.semAt_some
variable {w0 w:World} {F0:Nat→Prop} {A B C P:Part} {ls ps L:List Part} {K:VK} {v:VmM} {N:Nat} {c:CoM} {CKK:CK}
theorem Sep.perm {w:World} {l l':List Part} (hp:l.Perm l'):∀ {F:Nat→Prop},Sep l w F→Sep l' w F:=by
 induction hp with
 | nil=>exact fun h=>h
 | cons A _ ih=>exact fun ⟨F1,F2,h1,h2,h3,h4⟩=>⟨F1,F2,h1,ih h2,h3,h4⟩
 | swap A B l =>
   rintro F ⟨F1,F2,h1,⟨F3,F4,h5,h6,h7,h8⟩,h3,h4⟩
   refine ⟨F3,fun x=>F1 x∨F4 x,h5,⟨F1,F4,h1,h6,fun x hx h=>h3 x hx ((h8 x).2 (.inr h)),fun x=>Iff.rfl⟩,?_,?_⟩
   · rintro x hx (h | h)
     · exact h3 x h ((h8 x).2 (.inl hx))
     · exact h7 x hx h
   · intro x
     have e:=h4 x
     have e':=h8 x
     grind
 | trans _ _ ih1 ih2=>exact fun h=>ih2 (ih1 h)
theorem Step.perm {l l':List Part} (st:Step w0 F0 l w) (hp:l.Perm l'):Step w0 F0 l' w:=by
 obtain ⟨F,h,hg,hF⟩:=st.sep
 exact ⟨st.mod,st.tab,F,h.perm hp,hg,hF⟩
theorem Step.back (n:Nat) (st:Step w0 F0 (A::ps) w):Step w0 F0 (ps.take n++A::ps.drop n) w:=by
 refine st.perm ?_
 conv=>lhs;rw [←List.take_append_drop n ps]
 exact (List.perm_middle).symm
theorem Step.front (n:Nat) (st:Step w0 F0 ps w) (h:ps[n]?=some A):Step w0 F0 (A::ps.eraseIdx n) w:=by
 refine st.perm ?_
 obtain ⟨hl,he⟩:=ζi.1 h
 rw [List.eraseIdx_eq_take_drop_succ]
 conv=>lhs;rw [←List.take_append_drop n ps,List.drop_eq_getElem_cons hl,he]
 exact List.perm_middle
theorem set_same {α:Type} {l:List α} {i:Nat} {x:α} (h:l[i]?=some x):l.set i x=l:=by
 apply List.ext_getElem?
 intro j
 rw [List.getElem?_set]
 split
 · subst_vars
   rw [if_pos (ζi.1 h).1,h]
 · rfl
theorem prC_sp {bs:List Nat} {l:List (Int × Option SpM)} {i b:Nat} {g:Int} {o o':Option SpM} (hb:bs[i]?=some b) (hp:l[i]?=some (g,o)):(prC bs l).set (i * 2+1) (spV b (g,o'))=prC bs (l.set i (g,o')):=by
 rw [←prC_set (g,o') hb (ζi.1 hp).1,set_same (prC_get hb hp).1]
theorem Step.rowSetAt (i:Nat) {T:TypeId} {sz n g cap j:Nat} {u:Value} {xs:List Value} (st:Step w0 F0 ps w) (hi:ps[i]?=some (rowP T sz (.slice (some ⟨g,0,none⟩) n cap) n xs)) :
 Step w0 F0 (ps.set i (rowP T sz (.slice (some ⟨g,0,none⟩) n cap) n (xs.set j u))) (w.setCell ⟨g,j,none⟩ u):=by
 obtain ⟨F1,⟨h1,rfl⟩,hu⟩:=Step.updAt i st hi
 exact hu _ (rowP T sz (.slice (some ⟨g,0,none⟩) n cap) n (xs.set j u)) _ ((mod_setCell w g j u).mono (fun x hx=>by rw [hx];rfl)) ⟨ownsRow_put' h1 j u,rfl⟩ (fun x hx=>.inl hx)
theorem vm_space_some {i b:Nat} {g:Int} {o:Option SpM} (hp:v.procs[i]?=some (g,o)) (hb:K.sbs[i]?=some b) (hk:K.sbs.length=v.procs.length) (st:Step w0 F0 (VL K v++ls) w) :
 Calls Tryz.prog 23 #[.pointer (some ⟨K.vb,0,none⟩),.int .i64 i] w fun e w'=>e=.returned (spV b (g,o))∧w=w':=by
 have h:=vmAt st
 obtain ⟨ga,gc,b',hpv,hb',e0,e1⟩:=vm_cells h hk hp
 rw [hb] at hb'
 injection hb' with hb'
 subst hb'
 have c1:=h.c1
 rw [hpv] at c1
 have hlt:=(ζi.1 hp).1
 have d0:decide ((i:Int) < 0)=false:=decide_eq_false (by omega)
 have i0:(0:Int)≤i:=by omega
 have i1:(i:Int) < v.procs.length:=by omega
 have d1:decide ((v.procs.length:Int)≤(i:Int))=false:=decide_eq_false (by omega)
 obtain ⟨n,hn⟩:∃ n,n=v.procs.length:=⟨_,rfl⟩
 rw [←hn] at c1 i1 d1
 clear st h hpv hp hb hk hlt hn
 go_enter Tryz.func23,Tryz.ntmps23
 go_wp2_with fail
 go_ret
 exact ⟨rfl,rfl⟩
theorem vm_space_none {pid:Int} (hp:pid < 0∨(v.procs.length:Int)≤pid) (st:Step w0 F0 (VL K v++ls) w) :
 Calls Tryz.prog 23 #[.pointer (some ⟨K.vb,0,none⟩),.int .i64 pid] w fun e w'=>e=.returned (.pointer none)∧w=w':=by
 have h:=vmAt st
 obtain ⟨a,c,hpv⟩:=vm_form h
 have c1:=h.c1
 rw [hpv] at c1
 obtain ⟨n,hn⟩:∃ n,n=v.procs.length:=⟨_,rfl⟩
 rw [←hn] at c1 hp
 clear h hpv st hn
 by_cases h0:pid < 0
 · have d0:decide (pid < 0)=true:=decide_eq_true h0
   clear h0 hp
   go_enter Tryz.func23,Tryz.ntmps23
   go_wp2_with fail
   go_ret
   exact ⟨rfl,rfl⟩
 · have d0:decide (pid < 0)=false:=decide_eq_false h0
   have d1:decide ((n:Int)≤pid)=true:=decide_eq_true (by omega)
   clear h0 hp
   go_enter Tryz.func23,Tryz.ntmps23
   go_wp2_with fail
   go_ret
   exact ⟨rfl,rfl⟩
theorem vm_letGo (ids:List Int) (iv pv:Value) (vb:Nat) (st:Step w0 F0 (coreP CKK c::blkP vb #[.pointer (some ⟨CKK.b,0,none⟩),pv] 55::ls) w) (hv:rowP 3 1 iv ids.length (ids.map encI)∈ls) :
 Calls Tryz.prog 64 #[.pointer (some ⟨vb,0,none⟩),iv] w fun e w'=>e=.returned (.tuple #[])∧Step w0 F0 (coreP CKK (VmM.letGo c ids)::blkP vb #[.pointer (some ⟨CKK.b,0,none⟩),pv] 55::ls) w':=by
 have hrow:=st.rowOf (List.mem_cons_of_mem _ (List.mem_cons_of_mem _ hv))
 obtain ⟨a,cc,rfl⟩:=ownsRow_form hrow
 obtain ⟨n,hn⟩:∃ n,n=ids.length:=⟨_,rfl⟩
 rw [←hn] at hv ⊢
 have hmax:(n:Int)≤9223372036854775807:=by
  rcases id hrow.2 with ⟨_,h0⟩ | ⟨g,cap,cur,hv,_,_,h1,h2,_⟩
  · omega
  · unfold maxLen at h2;omega
 have HN:=ζh hn
 have HV:=ζh hv
 have ST:=ζh st
 clear hrow hn hv st
 go_enter Tryz.func64,Tryz.ntmps64
 go_wp2_with fail
 go_loopw [8] (fun i wr=>∃ k:Nat,k≤n∧i=.int .i64 k∧Hid (Step w0 F0 (coreP CKK (VmM.letGo c (ids.take k))::blkP vb #[.pointer (some ⟨CKK.b,0,none⟩),pv] 55::ls) wr)) (fun i _=>n - (intOf i).toNat)
 case atStart=>exact ⟨0,by omega,rfl,ζh ST.out⟩
 case round =>
  obtain ⟨k,hk,rfl,HS⟩:=hrel
  obtain ⟨wo,rfl⟩:∃ wo:World,wo=wr:=⟨_,rfl⟩
  by_cases hlt:k < n
  · have hkI:(k:Int) < n:=by omega
    have hkN:0≤(k:Int):=by omega
    obtain ⟨x,hx⟩:∃ x,ids[k]?=some x:=⟨_,ζg (by have:=HN.out;omega)⟩
    have hrow:=HS.out.rowOf (List.mem_cons_of_mem _ (List.mem_cons_of_mem _ HV.out))
    obtain ⟨g,rfl,hcell⟩:∃ g,a=some ⟨g,0,none⟩∧wo.cell? ⟨g,k,none⟩=some (.int .i64 x):=by
     rcases id hrow.2 with ⟨_,h0⟩ | ⟨g,cap,cur,hv,_⟩
     · omega
     · injection hv with hv
       subst hv
       refine ⟨g,rfl,?_⟩
       have:=hrow.cellAt k (by simp;have:=HN.out;omega)
       rw [this,List.getElem?_map,hx]
       rfl
    have hb:=HS.out.blk1
    have c0:=hb.cell 0
    simp only [ζa,ζb] at c0
    have hrf:=core_refer x (-1) (by omega) HS.out
    have hts:ids.take (k+1)=ids.take k++[x]:=by rw [List.take_add_one,hx];rfl
    have hst:(VmM.letGo c (ids.take k)).refer x (-1)=VmM.letGo c (ids.take (k+1)):=by
     rw [hts];unfold VmM.letGo;rw [List.foldl_append];rfl
    rw [hst] at hrf
    have HRF:=ζh hrf
    clear hx hrow hb hrf hts hst HS
    go_wp2_with fail
    refine HRF.out.mono ?_
    rintro e w3 ⟨⟨y,rfl⟩,st4⟩
    have ST4:=ζh st4
    clear st4 HRF c0 hcell
    go_wp2_with fail
    go_roundw
    case rel=>exact ⟨k+1,by omega,by go_num,ST4⟩
    case measure=>simp [intOf];omega
  · obtain rfl:k=n:=by omega
    have hst:=HS.out
    rw [List.take_of_length_le (by have:=HN.out;omega)] at hst
    have HF:=ζh hst
    clear hst HS
    go_wp2_with fail
    go_end0
    exact ⟨rfl,HF.out⟩
end

section
open Go.RowKit Go.Shelf Go.ChangeShapes Go.WideShapes
attribute [local go_sem] Oper.semAt_some
variable {w0 w:World} {F0:Nat→Prop} {A B C P:Part} {ls ps L:List Part} {K:VK} {v:VmM} {N:Nat} {c:CoM} {CKK:CK}
theorem space_nat {i:Nat} {g:Int} {o:Option SpM} (hp:v.procs[i]?=some (g,o)):v.space (i:Int)=o:=by
 unfold VmM.space
 rw [if_pos (by omega),Int.toNat_natCast,hp]
 rfl
theorem group_nat {i:Nat} {g:Int} {o:Option SpM} (hp:v.procs[i]?=some (g,o)):v.group (i:Int)=g:=by
 unfold VmM.group
 rw [Int.toNat_natCast,List.getD_eq_getElem?_getD,hp]
 rfl
theorem exit_nat {i:Nat} {g:Int} {s:SpM} (hp:v.procs[i]?=some (g,some s)):v.exit i=⟨VmM.letGo v.core (s.ids 0 65536),v.procs.set i (g,none)⟩:=by
 unfold VmM.exit
 rw [space_nat hp]
 unfold VmM.setSp
 simp only [Int.toNat_natCast]
 congr 1
 rw [show VmM.group ({ v with core:=VmM.letGo v.core (s.ids 0 65536) }:VmM) i=v.group i from rfl,group_nat hp]
theorem procs_cells {bs:List Nat} {l:List (Int × Option SpM)} {pv:Value} {vb cb i b:Nat} {g:Int} {o:Option SpM} (st:Step w0 F0 (A::blkP vb #[.pointer (some ⟨cb,0,none⟩),pv] 55::rowP 68 2 pv l.length (prC bs l)::ls) w)
 (hp:l[i]?=some (g,o)) (hb:bs[i]?=some b) (hk:bs.length=l.length):∃ ga gc,pv=.slice (some ⟨ga,0,none⟩) l.length gc∧w.cell? ⟨vb,0,none⟩=some (.pointer (some ⟨cb,0,none⟩))∧w.cell? ⟨vb,1,none⟩=some pv∧w.frozen? ⟨vb,1,none⟩=false ∧
   w.cell? ⟨ga,i * 2,none⟩=some (.int .i64 g)∧w.cell? ⟨ga,i * 2+1,none⟩=some (spV b (g,o))∧w.frozen? ⟨ga,i * 2,none⟩=false∧w.frozen? ⟨ga,i * 2+1,none⟩=false:=by
 have hbk:=st.blk1
 have hr:=st.rowOf (T:=68) (sz:=2) (v:=pv) (n:=l.length) (xs:=prC bs l) (by simp)
 have hlt:=(ζi.1 hp).1
 have hl:=prC_len hk
 obtain ⟨e1,e2⟩:=prC_get hb hp
 rcases id hr.2 with ⟨_,h0⟩ | ⟨ga,cap,cur,rfl,_⟩
 · omega
 · exact ⟨ga,cap,rfl,hbk.cell 0,hbk.cell 1,hbk.frozen 1,(hr.cellAt (i * 2) (by omega)).trans e1,(hr.cellAt (i * 2+1) (by omega)).trans e2,frozen_row' hr _,frozen_row' hr _⟩
theorem vm_exit {i b:Nat} {g:Int} {s:SpM} (hp:v.procs[i]?=some (g,some s)) (hb:K.sbs[i]?=some b) (hk:K.sbs.length=v.procs.length) (hreg:s.regs.length≤100000) (st:Step w0 F0 (VL K v++ls) w) :
 Calls Tryz.prog 58 #[.pointer (some ⟨K.vb,0,none⟩),.int .i64 i] w fun e w'=>e=.returned (.tuple #[])∧Step w0 F0 (VL K (v.exit i)++ls) w':=by
 have hlt:=(ζi.1 hp).1
 obtain ⟨ga,gc,hpv,c0,c1,f1,e0,e1,-,-⟩:=procs_cells st hp hb hk
 have stA:=st.pullAt 3 i rfl (spL_get hb hp)
 have hcut:=sp_cut 0 65536 hreg stA
 rw [exit_nat hp]
 rw [hpv] at c1
 obtain ⟨n,hn⟩:∃ n,n=v.procs.length:=⟨_,rfl⟩
 have i0:(0:Int)≤i:=by omega
 have i1:(i:Int) < n:=by omega
 rw [←hn] at c1
 unfold spV at e1
 simp only at e1
 have HC:=ζh hcut
 have HN:=ζh hn
 have HPV:=ζh hpv
 have HP:=ζh hp
 have HB:=ζh hb
 have HK:=ζh hk
 clear hcut stA hpv hp hb hk st hreg hlt hn
 go_enter Tryz.func58,Tryz.ntmps58
 go_wp2_with fail
 refine HC.out.mono ?_
 rintro e w1 ⟨iv,rfl,st1⟩
 have st2:=Step.back 4 (Step.drop st1)
 have hlg:=vm_letGo (s.ids 0 65536) iv K.pv K.vb st2 (by simp)
 obtain ⟨ia,ic,rfl⟩:=ownsRow_form (Step.row1 st1)
 have HLG:=ζh hlg
 clear st1 st2 hlg c0 c1 f1 e0 e1 HC
 go_wp2_with fail
 refine HLG.out.mono ?_
 rintro e w2 ⟨rfl,st3⟩
 obtain ⟨ga',gc',hpv',c0,c1,f1,e0,e1,f2,f3⟩:=procs_cells st3 HP.out HB.out HK.out
 have hx:=hpv'.symm.trans HPV.out
 injection hx with hx1 hx2 hx3
 injection hx1 with hx1
 injection hx1 with hx1
 subst hx1 hx3
 rw [HPV.out,←HN.out] at c1
 unfold spV at e1
 simp only at e1
 have st4:=Step.drop (Step.front 4 st3 rfl)
 have st5:Step w0 F0 ([coreP K.co (VmM.letGo v.core (s.ids 0 65536)),blkP K.vb #[.pointer (some ⟨K.co.b,0,none⟩),.slice (some ⟨ga',0,none⟩) v.procs.length gc'] 55,rowP 68 2 (.slice (some ⟨ga',0,none⟩) v.procs.length gc') v.procs.length (prC K.sbs v.procs),sepP ((spL K.sbs v.procs).set i nilP)]++ls) w2:=by
  rw [←HPV.out];exact st4
 have st6:=st5.rowSetAt 2 (j:=i * 2+1) (u:=.pointer none) rfl
 have hset:(prC K.sbs v.procs).set (i * 2+1) (.pointer none)=prC K.sbs (v.procs.set i (g,none)):=prC_sp (o':=none) HB.out HP.out
 have hsp:(spL K.sbs v.procs).set i nilP=spL K.sbs (v.procs.set i (g,none)):=spL_set (g,none) HB.out
 have ST7:Hid (Step w0 F0 (VL K ⟨VmM.letGo v.core (s.ids 0 65536),v.procs.set i (g,none)⟩++ls) (w2.setCell ⟨ga',i * 2+1,none⟩ (.pointer none))):=by
  refine ζh ?_
  show Step w0 F0 ([coreP K.co _,blkP K.vb #[_,K.pv] _,rowP _ 2 K.pv (v.procs.set i (g,none)).length (prC K.sbs (v.procs.set i (g,none))),sepP (spL K.sbs (v.procs.set i (g,none)))]++ls) _
  rw [←hset,←hsp,List.length_set,HPV.out]
  exact st6
 clear st3 st4 st5 st6 hset hsp hpv' hx2 HLG
 go_wp2_with fail
 go_end0
 exact ⟨rfl,ST7.out⟩
end

section
open Go.RowKit Go.Shelf Go.ChangeShapes Go.WideShapes
attribute [local go_sem] Oper.semAt_some
variable {w0 w:World} {F0:Nat→Prop} {A B C P:Part} {ls ps L:List Part} {K:VK} {v:VmM} {N:Nat} {c:CoM} {CKK:CK}
theorem info_vprc:(Tryz.prog.info? 37).map (fun i=>(i.zero,i.size,i.bytes))=some (some (.agg #[.int .i64 0,.int .i64 0,.bool false]),3,24):=by kernel_rfl
theorem vm_procs (hk:K.sbs.length=v.procs.length) (hfew:v.procs.length≤64) (st:Step w0 F0 (VL K v++ls) w) :
 Calls Tryz.prog 13 #[.pointer (some ⟨K.vb,0,none⟩)] w fun e w'=>∃ pv,e=.returned pv∧Step w0 F0 (coreP K.co v.core::rowP 37 3 pv v.procs.length (v.prcs.flatMap Vic.ecP)::(VL K v).tail++ls) w':=by
 have h:=vmAt st
 obtain ⟨pa,pc,hpv⟩:=vm_form h
 have c1:=h.c1
 rw [hpv] at c1
 obtain ⟨n,hn⟩:∃ n,n=v.procs.length:=⟨_,rfl⟩
 have hn64:n≤64:=by omega
 rw [←hn] at c1 ⊢
 have st1:=Step.rowNil (T:=37) (sz:=3) st
 have HN:=ζh hn
 have HPV:=ζh hpv
 have HK:=ζh hk
 have ST:=ζh st1
 clear h hpv hn hk hfew st st1
 go_enter Tryz.func13,Tryz.ntmps13
 go_wp2_with fail
 go_loopw [3,12] (fun l i wr=>∃ k:Nat,k≤n∧i=.int .i64 k∧Hid (Step w0 F0 (coreP K.co v.core::rowP 37 3 l k ((v.prcs.take k).flatMap Vic.ecP)::(VL K v).tail++ls) wr)) (fun _ i _=>n - (intOf i).toNat)
 case atStart=>exact ⟨0,by omega,rfl,ζh ST.out⟩
 case round =>
  obtain ⟨k,hk,rfl,HS⟩:=hrel
  obtain ⟨wo,rfl⟩:∃ wo:World,wo=wr:=⟨_,rfl⟩
  clear c1 ST
  by_cases hlt:k < n
  · have hkI:(k:Int) < n:=by omega
    have hkN:0≤(k:Int):=by omega
    obtain ⟨⟨g,o⟩,hp⟩:∃ p,v.procs[k]?=some p:=⟨_,ζg (by have:=HN.out;omega)⟩
    have hlk:=HK.out
    obtain ⟨b,hb⟩:∃ b,K.sbs[k]?=some b:=⟨_,ζg (by have:=HN.out;omega)⟩
    obtain ⟨ga,gc,hpv',c0,c1,f1,e0,e1,-,-⟩:=procs_cells (Step.drop2 HS.out) hp hb hlk
    have hx:=hpv'.symm.trans HPV.out
    injection hx with hx1 hx2 hx3
    subst hx1 hx3
    have hwk:v.prcs[k]?=some (VmM.prc (g,o)):=by unfold VmM.prcs;rw [List.getElem?_map,hp];rfl
    have HWK:=ζh hwk
    have HP:=ζh hp
    have HB:=ζh hb
    clear hpv' c0 f1 hx2 hlk hwk hp hb c1
    cases o with
    | none =>
      unfold spV at e1
      simp only at e1
      go_upto_region 5 with fail
      obtain ⟨wx,hnwx⟩:∃ wx,wx=wo.alloc (.cells #[.int .i64 g,.pointer none] 68):=⟨_,rfl⟩
      have stwx:=(HS.out).local (cs:=#[.int .i64 g,.pointer none]) (T:=68)
      rw [←hnwx] at stwx ⊢
      clear hnwx
      have hbx:=stwx.blk1
      have hbx0:=hbx.cell 0
      have hbx1:=hbx.cell 1
      simp only [ζa,ζb,ζc] at hbx0 hbx1
      have STX:=ζh stwx.drop2
      clear stwx hbx e0 e1
      go_upto_region 6 with fail
      obtain ⟨wy,hnwy⟩:∃ wy,wy=wx.alloc (.cells #[.int .i64 g,.int .i64 0,.bool false] 37):=⟨_,rfl⟩
      have stwy:=(STX.out).local (cs:=#[.int .i64 g,.int .i64 0,.bool false]) (T:=37)
      rw [←hnwy] at stwy ⊢
      clear hnwy
      have hby:=stwy.blk1
      have hby0:=hby.cell 0
      have hby1:=hby.cell 1
      have hby2:=hby.cell 2
      simp only [ζa,ζb,ζc] at hby0 hby1 hby2
      have STZ:=ζh stwy.drop2
      obtain ⟨wz,hwz⟩:∃ wz,wz=wy:=⟨_,rfl⟩
      rw [←hwz] at STZ hby0 hby1 hby2 ⊢
      have HR:=ζh (Step.row1 STZ.out)
      clear stwy hby hbx0 hbx1 hwz
      go_wp2_with (at_builtin;go_loud (refine wpList_app rfl _ _ 34 rfl 0 37 _ 3 24 Tryz.underlying34 info_vprc rfl (by decide) (by decide) u3 k _ rfl (HR.out.alloc _) ⟨wz.heap.size,0,none⟩ 1 [.int .i64 g,.int .i64 0,.bool false] rfl rfl (World.news_of_block (cs:=#[.int .i64 g,.int .i64 0,.bool false]) (t:=37) (fr:=(0,0)) (heap_alloc_new wz _)) (by simp [Value.oneCell']) (by omega) (Nat.zero_le _) ?_;intro g1 cap1 w9 o9 m9 hg9 hlt9))
      have ST9:=Step.appd STZ.out o9 m9 hg9
      have e9:(v.prcs.take k).flatMap Vic.ecP++[.int .i64 g,.int .i64 0,.bool false]=(v.prcs.take (k+1)).flatMap Vic.ecP:=by
       rw [Tre.take_succ_get HWK.out,List.flatMap_append];rfl
      rw [e9] at ST9
      have HS9:=ζh ST9
      clear o9 m9 hg9 hlt9 e9 ST9
      go_wp2_with fail
      go_roundw
      case rel=>exact ⟨k+1,by omega,by go_num,HS9⟩
      case measure=>simp [intOf];omega
    | some s =>
      unfold spV at e1
      simp only at e1
      go_upto_region 5 with fail
      obtain ⟨wx,hnwx⟩:∃ wx,wx=wo.alloc (.cells #[.int .i64 g,.pointer (some ⟨b,0,none⟩)] 68):=⟨_,rfl⟩
      have stwx:=(HS.out).local (cs:=#[.int .i64 g,.pointer (some ⟨b,0,none⟩)]) (T:=68)
      rw [←hnwx] at stwx ⊢
      clear hnwx
      have hbx:=stwx.blk1
      have hbx0:=hbx.cell 0
      have hbx1:=hbx.cell 1
      simp only [ζa,ζb,ζc] at hbx0 hbx1
      have STX:=ζh stwx
      clear stwx hbx e0 e1
      go_upto_region 6 with fail
      obtain ⟨wy,hnwy⟩:∃ wy,wy=wx.alloc (.cells #[.int .i64 g,.int .i64 0,.bool true] 37):=⟨_,rfl⟩
      have stwy:=(STX.out).local (cs:=#[.int .i64 g,.int .i64 0,.bool true]) (T:=37)
      rw [←hnwy] at stwy ⊢
      clear hnwy
      have hby:=stwy.blk1
      have hbx:=stwy.blk2
      have hby2:=hby.cell 2
      simp only [ζa,ζb,ζc] at hby2
      have hbx1:=hbx.cell 1
      simp only [ζa,ζb,ζc] at hbx1
      have hsz:=sp_size (Step.pullAt 6 k stwy rfl (spL_get HB.out HP.out))
      have HSZ:=ζh hsz
      have STY:=ζh stwy
      clear stwy hby hbx hbx0 hsz
      go_wp2_with fail
      refine HSZ.out.mono ?_
      rintro e w5 ⟨rfl,hm5⟩
      have st5:=STY.out.still hm5
      have hb5:=st5.blk1
      have hb51:=hb5.cell 1
      simp only [ζa,ζb,ζc] at hb51
      have f5:=hb5.frozen 1
      have st6:=Step.set1 (j:=1) (v:=.int .i64 s.tab.length) st5
      have hb6:=st6.blk1
      have HY:=ζh hb6
      have ST6:=ζh st6.drop3.drop2
      clear st5 hb5 st6 hb6 hm5 hby2 hbx1 HSZ
      go_upto_region 8 with fail
      obtain ⟨wz,hwz⟩:∃ wz,wz=w5.setCell ⟨wx.heap.size,1,none⟩ (.int .i64 s.tab.length):=⟨_,rfl⟩
      rw [←hwz] at ST6 HY ⊢
      have STZ:=ζh ST6.out
      have hby:=HY.out
      have z0:wz.cell? ⟨wx.heap.size,0,none⟩=some (.int .i64 g):=hby.cell 0
      have z1:wz.cell? ⟨wx.heap.size,1,none⟩=some (.int .i64 s.tab.length):=hby.cell 1
      have z2:wz.cell? ⟨wx.heap.size,2,none⟩=some (.bool true):=hby.cell 2
      have HR:=ζh (Step.row1 STZ.out)
      clear hby hwz hb51 f5
      go_wp2_with (at_builtin;go_loud (refine wpList_app rfl _ _ 34 rfl 0 37 _ 3 24 Tryz.underlying34 info_vprc rfl (by decide) (by decide) u3 k _ rfl (HR.out.alloc _) ⟨wz.heap.size,0,none⟩ 1 [.int .i64 g,.int .i64 s.tab.length,.bool true] rfl rfl (World.news_of_block (cs:=#[.int .i64 g,.int .i64 s.tab.length,.bool true]) (t:=37) (fr:=(0,0)) (heap_alloc_new wz _)) (by simp [Value.oneCell']) (by omega) (Nat.zero_le _) ?_;intro g1 cap1 w9 o9 m9 hg9 hlt9))
      have ST9:=Step.appd STZ.out o9 m9 hg9
      have e9:(v.prcs.take k).flatMap Vic.ecP++[.int .i64 g,.int .i64 s.tab.length,.bool true]=(v.prcs.take (k+1)).flatMap Vic.ecP:=by
       rw [Tre.take_succ_get HWK.out,List.flatMap_append];rfl
      rw [e9] at ST9
      have HS9:=ζh ST9
      clear o9 m9 hg9 hlt9 e9 ST9
      go_wp2_with fail
      go_roundw
      case rel=>exact ⟨k+1,by omega,by go_num,HS9⟩
      case measure=>simp [intOf];omega
  · obtain rfl:k=n:=by omega
    have hst:=HS.out
    rw [List.take_of_length_le (by unfold VmM.prcs;rw [List.length_map];have:=HN.out;omega)] at hst
    have HF:=ζh hst
    clear hst HS
    go_wp2_with fail
    go_ret
    exact ⟨_,rfl,HF.out⟩
end
end Go.Proofs.YtkfoeonggmlebaaGreatDoor
