/-
  Contracts of the program's functions, and plain facts, towards the laws of millpondtop. No condition beyond those that each theorem bears.
-/
import Derived.RangeFuncNested
import Derived.RangeFuncBound
import Derived.RangeFuncCalls
import Derived.RangeFuncLeaves
import Derived.Test.YtkfoeonggmlebaaGreatDoorQ01
import Derived.Test.YtkfoeonggmlebaaGreatDoorQAA
set_option maxRecDepth 100000
set_option maxHeartbeats 4000000
namespace Go.Proofs.YtkfoeonggmlebaaGreatDoor
section
open Go.RowKit
theorem mod_putObj (w:World) (l:Nat) (o:Obj):Mod (fun i=>i=l) w (w.putObj l o) :=
 ⟨rfl,rfl,rfl,by simp,fun k _ hk=>World.putObj_heap_other hk⟩
theorem Mod.putObj {S:Nat→Prop} {a w:World} (h:Mod S a w) {l:Nat} (hl:S l∨a.heap.size≤l) (o:Obj):Mod S a (w.putObj l o) :=
 h.trans' (mod_putObj w l o) (fun i hi e=>by
  subst e
  rcases hl with h | h
  · exact h
  · omega)
variable {P:Program}
def SeqC {α:Type} (gf:Nat) (lb:Array Value) (enc:α→Value) (gb:Nat) (S:Nat→Prop) (xs:List α) (w:World):Prop :=
 ∀ (l:Nat) (J:List α→World→Prop) (W:World),Mod (fun _=>False) w W→(∀ pre A B,J pre A→Mod (fun i=>i=gb) A B→J pre B) →
  (∀ pre x A,J pre A→pre.length < xs.length→YieldAt Fence.wide 0 P l #[enc x] A fun e B=>e=.returned (.bool true)∧J (pre++[x]) B∧Mod S A B) →
  J [] W→CallsIn Fence.wide 0 P gf (#[.func (.yield l) #[] #[]]++lb) W fun e B=>(∃ v,e=.returned v)∧J xs B
theorem wp_range_cap {α:Type} {g:Operand} {ps:Array Tmp} {assign body:Code} {Q:Exit→Act→World→Prop} {a:Act} {w:World}
 {gf:Nat} {lb:Array Value} (hg:a.eval g=.func (.func gf) #[] lb) (eg:∀ args w,(callFunc gf args).run P w=.ok (.enter gf args) w)
 {enc:α→Value} {gb:Nat} {S:Nat→Prop} {xs:List α} (hseq:SeqC (P:=P) gf lb enc gb S xs w) (hps:ps.size=1) (hgb:gb < w.heap.size) (hS:∀ i,w.heap.size≤i→S i)
 (J:List α→World→Prop) (hJ:∀ pre A B,J pre A→Mod (fun i=>i=gb∨w.heap.size≤i∧i < w.heap.size+2) A B→J pre B) (h0:J [] w) (a₁:α→Act)
 (hassign:∀ (l:Nat) (x:α) (W:World) (K:Act→World→Prop),K (a₁ x) W →
   assign.wpIn (Fence.wide.inRound l) 0 P (Exit.then K (fun _ _ _=>False)) { tmps:=(ps.zip #[enc x]).foldl (fun t (p,v)=>t.setIfInBounds p v) a.tmps,defers:=[] } W)
 (hbody:∀ (l:Nat) (pre:List α) (x:α) (W:World),J pre W→pre.length < xs.length→w.heap.size+2≤W.heap.size →
   body.wpIn (Fence.wide.inRound l) 0 P (fun e _ B=>e=.normal∧J (pre++[x]) B∧Mod (fun i=>S i∧i≠w.heap.size∧i≠w.heap.size+1) W B) (a₁ x) W)
 (hdone:∀ (W:World),J xs W→W.heap[w.heap.size]?=some (.deferred (some []))→Q .normal { a with defers:={ target:=.collected w.heap.size,args:=#[] }::a.defers } W) :
 (Code.rangeFunc g ps assign body).wpIn Fence.wide 0 P Q a w:=by
 refine wpIn_rangeFunc ?_
 intro fn hfn
 obtain ⟨rec,hrec⟩:∃ rec:LoopState→Option Code→Loop,rec=fun st pe=>{ state:=st,pending:=pe,fn,tmps:=a.tmps,params:=ps,assign,body,defers:=w.heap.size }:=⟨_,rfl⟩
 obtain ⟨W1,hW1⟩:∃ W1,(w.alloc (.deferred (some []))).alloc (.loop (rec .ready none))=W1:=⟨_,rfl⟩
 have m1:Mod (fun _=>False) w W1:=by rw [←hW1];exact ((Mod.refl _ w).alloc _).alloc _
 have hL1:W1.heap[w.heap.size+1]?=some (.loop (rec .ready none)):=by
  rw [←hW1]
  have:=World.alloc_heap_new (w.alloc (.deferred (some []))) (.loop (rec .ready none))
  rwa [World.size_alloc] at this
 have hK1:W1.heap[w.heap.size]?=some (.deferred (some [])):=by
  rw [←hW1]
  exact (Below.heap_alloc _ _ _ (by simp)).trans (World.alloc_heap_new w _)
 refine ⟨w.heap.size+1,[{ target:=.collected w.heap.size,args:=#[] }],W1,{ target:=.fn (.func gf) lb,args:=#[.func (.yield (w.heap.size+1)) #[] #[]] },W1,gf,
  #[.func (.yield (w.heap.size+1)) #[] #[]]++lb,W1,?_,?_,?_,?_,?_,?_⟩
 · rw [←hW1,hrec];exact run_enterLoop_outer _ _ _ _ _
 · simp only [resolve,hg]
   simp [go_sem]
 · intro f' _;trivial
 · simp [invoke,go_sem,eg]
 · intro h;simp [Fence.wide] at h
 · refine (hseq (w.heap.size+1) (fun pre W=>J pre W∧W.heap[w.heap.size+1]?=some (.loop (rec .ready none))∧W.heap[w.heap.size]?=some (.deferred (some []))) W1 m1 ?_ ?_ ?_).mono ?_
   · rintro pre A B ⟨h1,h2,h3⟩ hm
     have s2:=(Array.getElem?_eq_some_iff.1 h2).1
     have s3:=(Array.getElem?_eq_some_iff.1 h3).1
     exact ⟨hJ pre A B h1 (hm.mono (fun i e=>.inl e)),by rw [hm.block _ s2 (by omega)];exact h2,by rw [hm.block _ s3 (by omega)];exact h3⟩
   · rintro pre x A ⟨h1,h2,h3⟩ hlen
     have s2:=(Array.getElem?_eq_some_iff.1 h2).1
     have hy:=run_yield (P:=P) (args:=#[enc x]) h2 (by rw [hrec];exact hps.symm)
     rw [hrec] at hy
     refine ⟨fn,_,assign,body,hy,roundIn_of_wpIn trivial (hassign _ x A _ ⟨_,run_beginRound h2 (by rw [hrec]),?_⟩)⟩
     have m2:=mod_putObj A (w.heap.size+1) (.loop { rec .ready none with state:=.busy })
     have hl2:(A.putObj (w.heap.size+1) (.loop { rec .ready none with state:=.busy })).heap[w.heap.size+1]?=some (.loop { rec .ready none with state:=.busy }):=World.putObj_heap_same s2
     have hk2:(A.putObj (w.heap.size+1) (.loop { rec .ready none with state:=.busy })).heap[w.heap.size]?=some (.deferred (some [])):=(World.putObj_heap_other (by omega)).trans h3
     generalize A.putObj (w.heap.size+1) (.loop { rec .ready none with state:=.busy })=A2 at *
     have s4:=(Array.getElem?_eq_some_iff.1 hl2).1
     refine wpIn_mono (hbody _ pre x A2 (hJ pre A A2 h1 (m2.mono (fun i e=>.inr (by omega)))) hlen (by omega)) ?_
     rintro e a3 B ⟨rfl,hj3,m3⟩
     have hl3:B.heap[w.heap.size+1]?=some (.loop { rec .ready none with state:=.busy }):=by rw [m3.block _ s4 (fun h=>h.2.2 rfl)];exact hl2
     have hk3:B.heap[w.heap.size]?=some (.deferred (some [])):=by rw [m3.block _ (by omega) (fun h=>h.2.1 rfl)];exact hk2
     have hend:=run_endRound (P:=P) none hl3
     rw [hrec] at hend
     refine ⟨_,_,hend,rfl,⟨hJ _ B _ hj3 ((mod_putObj B _ _).mono (fun i e=>.inr (by omega))),?_,?_⟩,?_⟩
     · rw [hrec]
       exact World.putObj_heap_same (Array.getElem?_eq_some_iff.1 hl3).1
     · exact (World.putObj_heap_other (by omega)).trans hk3
     · exact ((m2.mono (fun i e=>hS i (by omega))).trans (m3.mono (fun i h=>h.1))).putObj (.inl (hS _ (by omega))) _
   · exact ⟨hJ _ w W1 h0 (m1.mono (fun _ x=>x.elim)),hL1,hK1⟩
   · rintro e W2 ⟨⟨v,rfl⟩,hj,hl,hk⟩
     have hend:=run_endLoop (P:=P) hl (by rw [hrec];simp)
     rw [hrec] at hend
     refine ⟨none,_,hend,hdone _ (hJ _ W2 _ hj ((mod_putObj W2 _ _).mono (fun i e=>.inr (by omega)))) ?_⟩
     exact (World.putObj_heap_other (by omega)).trans hk
theorem SeqC.at {α:Type} {gf:Nat} {lb:Array Value} {enc:α→Value} {gb:Nat} {S:Nat→Prop} {xs:List α} {w w':World} (h:SeqC (P:=P) gf lb enc gb S xs w) (hm:Mod (fun _=>False) w w'):SeqC (P:=P) gf lb enc gb S xs w' :=
 fun l J W hW=>h l J W (hm.trans hW)
theorem SeqC.mono {α:Type} {gf:Nat} {lb:Array Value} {enc:α→Value} {gb:Nat} {S S':Nat→Prop} {xs:List α} {w:World} (h:SeqC (P:=P) gf lb enc gb S xs w) (hs:∀ i,S' i→S i):SeqC (P:=P) gf lb enc gb S' xs w :=
 fun l J W hW hJ hY h0=>h l J W hW hJ (fun pre x A hj hlt=>by
  obtain ⟨fn,tmps,asg,bo,hy,hR⟩:=hY pre x A hj hlt
  exact ⟨fn,tmps,asg,bo,hy,hR.mono (fun e B ⟨h1,h2,h3⟩=>⟨h1,h2,h3.mono hs⟩)⟩) h0
end

section
open Go.RowKit
variable {P:Program}
def SeqX {α:Type} (gf:Nat) (lb:Array Value) (enc:α→Value) (gb:Nat) (S:Nat→Prop) (xs:List α) (w:World):Prop :=
 ∀ (l:Nat) (J:List α→World→Prop) (Jx:World→Prop) (W:World),Mod (fun _=>False) w W→(∀ pre A B,J pre A→Mod (fun i=>i=gb) A B→J pre B)→(∀ A B,Jx A→Mod (fun i=>i=gb) A B→Jx B) →
  (∀ pre x A,J pre A→xs[pre.length]?=some x→pre=xs.take pre.length→YieldAt Fence.wide 0 P l #[enc x] A fun e B=>(e=.returned (.bool true)∧J (pre++[x]) B∧Mod S A B)∨(e=.returned (.bool false)∧Jx B)) →
  J [] W→CallsIn Fence.wide 0 P gf (#[.func (.yield l) #[] #[]]++lb) W fun e B=>(∃ v,e=.returned v)∧(J xs B∨Jx B)
def leaves:Exit→Option Code
 | .ret=>some .ret
 | .exit id=>some (.exit id)
 | _=>none
theorem SeqX.at {α:Type} {gf:Nat} {lb:Array Value} {enc:α→Value} {gb:Nat} {S:Nat→Prop} {xs:List α} {w w':World} (h:SeqX (P:=P) gf lb enc gb S xs w) (hm:Mod (fun _=>False) w w'):SeqX (P:=P) gf lb enc gb S xs w' :=
 fun l J Jx W hW=>h l J Jx W (hm.trans hW)
theorem wp_range_x {α:Type} {g:Operand} {ps:Array Tmp} {assign body:Code} {Q:Exit→Act→World→Prop} {a:Act} {w:World}
 {gf:Nat} {lb:Array Value} (hg:a.eval g=.func (.func gf) #[] lb) (eg:∀ args w,(callFunc gf args).run P w=.ok (.enter gf args) w)
 {enc:α→Value} {gb:Nat} {S:Nat→Prop} {xs:List α} (hseq:SeqX (P:=P) gf lb enc gb S xs w) (hps:ps.size=1) (hgb:gb < w.heap.size) (hS:∀ i,w.heap.size≤i→S i)
 (J:List α→World→Prop) (Ix:Code→World→Prop) (hJ:∀ pre A B,J pre A→Mod (fun i=>i=gb∨w.heap.size≤i∧i < w.heap.size+2) A B→J pre B) (hIx:∀ c A B,Ix c A→Mod (fun i=>i=gb∨w.heap.size≤i∧i < w.heap.size+2) A B→Ix c B) (h0:J [] w) (a₁:α→Act)
 (hassign:∀ (l:Nat) (x:α) (W:World) (K:Act→World→Prop),K (a₁ x) W →
   assign.wpIn (Fence.wide.inRound l) 0 P (Exit.then K (fun _ _ _=>False)) { tmps:=(ps.zip #[enc x]).foldl (fun t (p,v)=>t.setIfInBounds p v) a.tmps,defers:=[] } W)
 (hbody:∀ (l:Nat) (pre:List α) (x:α) (W:World),J pre W→xs[pre.length]?=some x→pre=xs.take pre.length→w.heap.size+2≤W.heap.size →
   body.wpIn (Fence.wide.inRound l) 0 P (fun e _ B=>(e=.normal∧J (pre++[x]) B∧Mod (fun i=>S i∧i≠w.heap.size∧i≠w.heap.size+1) W B)∨(∃ c,leaves e=some c∧Ix c B∧Mod (fun i=>i≠w.heap.size∧i≠w.heap.size+1) W B)) (a₁ x) W)
 (hdone:∀ (W:World),J xs W→W.heap[w.heap.size]?=some (.deferred (some []))→Q .normal { a with defers:={ target:=.collected w.heap.size,args:=#[] }::a.defers } W)
 (hstop:∀ (c:Code) (W:World),Ix c W→W.heap[w.heap.size]?=some (.deferred (some []))→c.wpIn Fence.wide 0 P Q { a with defers:={ target:=.collected w.heap.size,args:=#[] }::a.defers } W) :
 (Code.rangeFunc g ps assign body).wpIn Fence.wide 0 P Q a w:=by
 refine wpIn_rangeFunc ?_
 intro fn hfn
 obtain ⟨rec,hrec⟩:∃ rec:LoopState→Option Code→Loop,rec=fun st pe=>{ state:=st,pending:=pe,fn,tmps:=a.tmps,params:=ps,assign,body,defers:=w.heap.size }:=⟨_,rfl⟩
 obtain ⟨W1,hW1⟩:∃ W1,(w.alloc (.deferred (some []))).alloc (.loop (rec .ready none))=W1:=⟨_,rfl⟩
 have m1:Mod (fun _=>False) w W1:=by rw [←hW1];exact ((Mod.refl _ w).alloc _).alloc _
 have hL1:W1.heap[w.heap.size+1]?=some (.loop (rec .ready none)):=by
  rw [←hW1]
  have:=World.alloc_heap_new (w.alloc (.deferred (some []))) (.loop (rec .ready none))
  rwa [World.size_alloc] at this
 have hK1:W1.heap[w.heap.size]?=some (.deferred (some [])):=by
  rw [←hW1]
  exact (Below.heap_alloc _ _ _ (by simp)).trans (World.alloc_heap_new w _)
 refine ⟨w.heap.size+1,[{ target:=.collected w.heap.size,args:=#[] }],W1,{ target:=.fn (.func gf) lb,args:=#[.func (.yield (w.heap.size+1)) #[] #[]] },W1,gf,
  #[.func (.yield (w.heap.size+1)) #[] #[]]++lb,W1,?_,?_,?_,?_,?_,?_⟩
 · rw [←hW1,hrec];exact run_enterLoop_outer _ _ _ _ _
 · simp only [resolve,hg]
   simp [go_sem]
 · intro f' _;trivial
 · simp [invoke,go_sem,eg]
 · intro h;simp [Fence.wide] at h
 · refine (hseq (w.heap.size+1) (fun pre W=>J pre W∧W.heap[w.heap.size+1]?=some (.loop (rec .ready none))∧W.heap[w.heap.size]?=some (.deferred (some [])))
    (fun W=>∃ c,Ix c W∧W.heap[w.heap.size+1]?=some (.loop (rec .done (some c)))∧W.heap[w.heap.size]?=some (.deferred (some []))) W1 m1 ?_ ?_ ?_ ?_).mono ?_
   · rintro pre A B ⟨h1,h2,h3⟩ hm
     have s2:=(Array.getElem?_eq_some_iff.1 h2).1
     have s3:=(Array.getElem?_eq_some_iff.1 h3).1
     exact ⟨hJ pre A B h1 (hm.mono (fun i e=>.inl e)),by rw [hm.block _ s2 (by omega)];exact h2,by rw [hm.block _ s3 (by omega)];exact h3⟩
   · rintro A B ⟨c,h1,h2,h3⟩ hm
     have s2:=(Array.getElem?_eq_some_iff.1 h2).1
     have s3:=(Array.getElem?_eq_some_iff.1 h3).1
     exact ⟨c,hIx c A B h1 (hm.mono (fun i e=>.inl e)),by rw [hm.block _ s2 (by omega)];exact h2,by rw [hm.block _ s3 (by omega)];exact h3⟩
   · rintro pre x A ⟨h1,h2,h3⟩ hlen hpre
     have s2:=(Array.getElem?_eq_some_iff.1 h2).1
     have hy:=run_yield (P:=P) (args:=#[enc x]) h2 (by rw [hrec];exact hps.symm)
     rw [hrec] at hy
     refine ⟨fn,_,assign,body,hy,roundIn_of_wpIn trivial (hassign _ x A _ ⟨_,run_beginRound h2 (by rw [hrec]),?_⟩)⟩
     have m2:=mod_putObj A (w.heap.size+1) (.loop { rec .ready none with state:=.busy })
     have hl2:(A.putObj (w.heap.size+1) (.loop { rec .ready none with state:=.busy })).heap[w.heap.size+1]?=some (.loop { rec .ready none with state:=.busy }):=World.putObj_heap_same s2
     have hk2:(A.putObj (w.heap.size+1) (.loop { rec .ready none with state:=.busy })).heap[w.heap.size]?=some (.deferred (some [])):=(World.putObj_heap_other (by omega)).trans h3
     generalize A.putObj (w.heap.size+1) (.loop { rec .ready none with state:=.busy })=A2 at *
     have s4:=(Array.getElem?_eq_some_iff.1 hl2).1
     have fin:∀ (jump:Option Code) (W3:World),Mod (fun i=>i≠w.heap.size∧i≠w.heap.size+1) A2 W3 →
      (Instr.endRound (w.heap.size+1) jump).run P W3=.ok (.bool jump.isNone) (W3.putObj (w.heap.size+1) (.loop (rec (if jump.isNone then .ready else .done) jump))) ∧
      (W3.putObj (w.heap.size+1) (.loop (rec (if jump.isNone then .ready else .done) jump))).heap[w.heap.size+1]?=some (.loop (rec (if jump.isNone then .ready else .done) jump)) ∧
      (W3.putObj (w.heap.size+1) (.loop (rec (if jump.isNone then .ready else .done) jump))).heap[w.heap.size]?=some (.deferred (some [])):=fun jump W3 hm3=>by
      have hl3:W3.heap[w.heap.size+1]?=some (.loop { rec .ready none with state:=.busy }):=by rw [hm3.block _ s4 (fun h=>h.2 rfl)];exact hl2
      have hk3:W3.heap[w.heap.size]?=some (.deferred (some [])):=by rw [hm3.block _ (by omega) (fun h=>h.1 rfl)];exact hk2
      have:=run_endRound (P:=P) jump hl3
      rw [hrec] at this ⊢
      exact ⟨this,World.putObj_heap_same (Array.getElem?_eq_some_iff.1 hl3).1,(World.putObj_heap_other (by omega)).trans hk3⟩
     refine wpIn_mono (hbody _ pre x A2 (hJ pre A A2 h1 (m2.mono (fun i e=>.inr (by omega)))) hlen hpre (by omega)) ?_
     rintro e a3 B (⟨rfl,hj3,m3⟩ | ⟨c,hc,hi3,m3⟩)
     · obtain ⟨hend,hl4,hk4⟩:=fin none B (m3.mono (fun i h=>h.2))
       refine ⟨_,_,hend,.inl ⟨rfl,⟨hJ _ B _ hj3 ((mod_putObj B _ _).mono (fun i e=>.inr (by omega))),hl4,hk4⟩,?_⟩⟩
       exact ((m2.mono (fun i e=>hS i (by omega))).trans (m3.mono (fun i h=>h.1))).putObj (.inl (hS _ (by omega))) _
     · obtain ⟨hend,hl4,hk4⟩:=fin (some c) B m3
       cases e with
       | ret =>
         obtain rfl:Code.ret=c:=by injection hc
         exact ⟨_,_,hend,.inr ⟨rfl,_,hIx _ B _ hi3 ((mod_putObj B _ _).mono (fun i e=>.inr (by omega))),hl4,hk4⟩⟩
       | exit id =>
         obtain rfl:Code.exit id=c:=by injection hc
         exact ⟨_,_,hend,.inr ⟨rfl,_,hIx _ B _ hi3 ((mod_putObj B _ _).mono (fun i e=>.inr (by omega))),hl4,hk4⟩⟩
       | normal=>cases hc
       | goto t=>cases hc
       | panic ch=>cases hc
       | outgrown=>cases hc
   · exact ⟨hJ _ w W1 h0 (m1.mono (fun _ x=>x.elim)),hL1,hK1⟩
   · rintro e W2 ⟨⟨v,rfl⟩,⟨hj,hl,hk⟩ | ⟨c,hj,hl,hk⟩⟩
     · have hend:=run_endLoop (P:=P) hl (by rw [hrec];simp)
       rw [hrec] at hend
       refine ⟨none,_,hend,hdone _ (hJ _ W2 _ hj ((mod_putObj W2 _ _).mono (fun i e=>.inr (by omega)))) ?_⟩
       exact (World.putObj_heap_other (by omega)).trans hk
     · have hend:=run_endLoop (P:=P) hl (by rw [hrec];simp)
       rw [hrec] at hend
       refine ⟨some c,_,hend,hstop _ _ (hIx _ W2 _ hj ((mod_putObj W2 _ _).mono (fun i e=>.inr (by omega)))) ?_⟩
       exact (World.putObj_heap_other (by omega)).trans hk
end

section
open Go.RowKit
variable {P:Program}
def SeqN {α:Type} (gf:Nat) (ba lb:Array Value) (enc:α→Value) (S:Nat→Prop) (xs:List α) (w:World):Prop :=
 ∀ (l:Nat) (J:List α→World→Prop) (Jx:World→Prop) (W:World),Mod (fun _=>False) w W→(∀ pre A B,J pre A→Mod (fun _=>False) A B→J pre B)→(∀ A B,Jx A→Mod (fun _=>False) A B→Jx B) →
  (∀ pre x A,J pre A→xs[pre.length]?=some x→pre=xs.take pre.length→YieldAt Fence.wide 0 P l #[enc x] A fun e B=>(e=.returned (.bool true)∧J (pre++[x]) B∧Mod S A B)∨(e=.returned (.bool false)∧Jx B)) →
  J [] W→CallsIn Fence.wide 0 P gf (ba++#[.func (.yield l) #[] #[]]++lb) W fun e B=>(∃ v,e=.returned v)∧(J xs B∨Jx B)
theorem SeqN.at {α:Type} {gf:Nat} {ba lb:Array Value} {enc:α→Value} {S:Nat→Prop} {xs:List α} {w w':World} (h:SeqN (P:=P) gf ba lb enc S xs w) (hm:Mod (fun _=>False) w w'):SeqN (P:=P) gf ba lb enc S xs w' :=
 fun l J Jx W hW=>h l J Jx W (hm.trans hW)
theorem wp_range_n {α:Type} {g:Operand} {ps:Array Tmp} {assign body:Code} {Q:Exit→Act→World→Prop} {a:Act} {w:World}
 {gf:Nat} {ba lb:Array Value} (hg:a.eval g=.func (.func gf) ba lb) (eg:∀ args w,(callFunc gf args).run P w=.ok (.enter gf args) w)
 {enc:α→Value} {S:Nat→Prop} {xs:List α} (hseq:SeqN (P:=P) gf ba lb enc S xs w) (hps:ps.size=1) (hS:∀ i,w.heap.size≤i→S i)
 (J:List α→World→Prop) (Ix:Code→World→Prop) (hJ:∀ pre A B,J pre A→Mod (fun i=>w.heap.size≤i∧i < w.heap.size+2) A B→J pre B) (hIx:∀ c A B,Ix c A→Mod (fun i=>w.heap.size≤i∧i < w.heap.size+2) A B→Ix c B) (h0:J [] w) (a₁:α→Act)
 (hassign:∀ (l:Nat) (x:α) (W:World) (K:Act→World→Prop),K (a₁ x) W →
   assign.wpIn (Fence.wide.inRound l) 0 P (Exit.then K (fun _ _ _=>False)) { tmps:=(ps.zip #[enc x]).foldl (fun t (p,v)=>t.setIfInBounds p v) a.tmps,defers:=[] } W)
 (hbody:∀ (l:Nat) (pre:List α) (x:α) (W:World),J pre W→xs[pre.length]?=some x→pre=xs.take pre.length→w.heap.size+2≤W.heap.size →
   body.wpIn (Fence.wide.inRound l) 0 P (fun e _ B=>(e=.normal∧J (pre++[x]) B∧Mod (fun i=>S i∧i≠w.heap.size∧i≠w.heap.size+1) W B)∨(∃ c,leaves e=some c∧Ix c B∧Mod (fun i=>i≠w.heap.size∧i≠w.heap.size+1) W B)) (a₁ x) W)
 (hdone:∀ (W:World),J xs W→W.heap[w.heap.size]?=some (.deferred (some []))→Q .normal { a with defers:={ target:=.collected w.heap.size,args:=#[] }::a.defers } W)
 (hstop:∀ (c:Code) (W:World),Ix c W→W.heap[w.heap.size]?=some (.deferred (some []))→c.wpIn Fence.wide 0 P Q { a with defers:={ target:=.collected w.heap.size,args:=#[] }::a.defers } W) :
 (Code.rangeFunc g ps assign body).wpIn Fence.wide 0 P Q a w:=by
 refine wpIn_rangeFunc ?_
 intro fn hfn
 obtain ⟨rec,hrec⟩:∃ rec:LoopState→Option Code→Loop,rec=fun st pe=>{ state:=st,pending:=pe,fn,tmps:=a.tmps,params:=ps,assign,body,defers:=w.heap.size }:=⟨_,rfl⟩
 obtain ⟨W1,hW1⟩:∃ W1,(w.alloc (.deferred (some []))).alloc (.loop (rec .ready none))=W1:=⟨_,rfl⟩
 have m1:Mod (fun _=>False) w W1:=by rw [←hW1];exact ((Mod.refl _ w).alloc _).alloc _
 have hL1:W1.heap[w.heap.size+1]?=some (.loop (rec .ready none)):=by
  rw [←hW1]
  have:=World.alloc_heap_new (w.alloc (.deferred (some []))) (.loop (rec .ready none))
  rwa [World.size_alloc] at this
 have hK1:W1.heap[w.heap.size]?=some (.deferred (some [])):=by
  rw [←hW1]
  exact (Below.heap_alloc _ _ _ (by simp)).trans (World.alloc_heap_new w _)
 refine ⟨w.heap.size+1,[{ target:=.collected w.heap.size,args:=#[] }],W1,{ target:=.fn (.func gf) lb,args:=ba++#[.func (.yield (w.heap.size+1)) #[] #[]] },W1,gf,
  ba++#[.func (.yield (w.heap.size+1)) #[] #[]]++lb,W1,?_,?_,?_,?_,?_,?_⟩
 · rw [←hW1,hrec];exact run_enterLoop_outer _ _ _ _ _
 · simp only [resolve,hg]
   simp [go_sem]
 · intro f' _;trivial
 · simp [invoke,go_sem,eg]
 · intro h;simp [Fence.wide] at h
 · refine (hseq (w.heap.size+1) (fun pre W=>J pre W∧W.heap[w.heap.size+1]?=some (.loop (rec .ready none))∧W.heap[w.heap.size]?=some (.deferred (some [])))
    (fun W=>∃ c,Ix c W∧W.heap[w.heap.size+1]?=some (.loop (rec .done (some c)))∧W.heap[w.heap.size]?=some (.deferred (some []))) W1 m1 ?_ ?_ ?_ ?_).mono ?_
   · rintro pre A B ⟨h1,h2,h3⟩ hm
     have s2:=(Array.getElem?_eq_some_iff.1 h2).1
     have s3:=(Array.getElem?_eq_some_iff.1 h3).1
     exact ⟨hJ pre A B h1 (hm.mono (fun i e=>e.elim)),by rw [hm.block _ s2 (fun x=>x)];exact h2,by rw [hm.block _ s3 (fun x=>x)];exact h3⟩
   · rintro A B ⟨c,h1,h2,h3⟩ hm
     have s2:=(Array.getElem?_eq_some_iff.1 h2).1
     have s3:=(Array.getElem?_eq_some_iff.1 h3).1
     exact ⟨c,hIx c A B h1 (hm.mono (fun i e=>e.elim)),by rw [hm.block _ s2 (fun x=>x)];exact h2,by rw [hm.block _ s3 (fun x=>x)];exact h3⟩
   · rintro pre x A ⟨h1,h2,h3⟩ hlen hpre
     have s2:=(Array.getElem?_eq_some_iff.1 h2).1
     have hy:=run_yield (P:=P) (args:=#[enc x]) h2 (by rw [hrec];exact hps.symm)
     rw [hrec] at hy
     refine ⟨fn,_,assign,body,hy,roundIn_of_wpIn trivial (hassign _ x A _ ⟨_,run_beginRound h2 (by rw [hrec]),?_⟩)⟩
     have m2:=mod_putObj A (w.heap.size+1) (.loop { rec .ready none with state:=.busy })
     have hl2:(A.putObj (w.heap.size+1) (.loop { rec .ready none with state:=.busy })).heap[w.heap.size+1]?=some (.loop { rec .ready none with state:=.busy }):=World.putObj_heap_same s2
     have hk2:(A.putObj (w.heap.size+1) (.loop { rec .ready none with state:=.busy })).heap[w.heap.size]?=some (.deferred (some [])):=(World.putObj_heap_other (by omega)).trans h3
     generalize A.putObj (w.heap.size+1) (.loop { rec .ready none with state:=.busy })=A2 at *
     have s4:=(Array.getElem?_eq_some_iff.1 hl2).1
     have fin:∀ (jump:Option Code) (W3:World),Mod (fun i=>i≠w.heap.size∧i≠w.heap.size+1) A2 W3 →
      (Instr.endRound (w.heap.size+1) jump).run P W3=.ok (.bool jump.isNone) (W3.putObj (w.heap.size+1) (.loop (rec (if jump.isNone then .ready else .done) jump))) ∧
      (W3.putObj (w.heap.size+1) (.loop (rec (if jump.isNone then .ready else .done) jump))).heap[w.heap.size+1]?=some (.loop (rec (if jump.isNone then .ready else .done) jump)) ∧
      (W3.putObj (w.heap.size+1) (.loop (rec (if jump.isNone then .ready else .done) jump))).heap[w.heap.size]?=some (.deferred (some [])):=fun jump W3 hm3=>by
      have hl3:W3.heap[w.heap.size+1]?=some (.loop { rec .ready none with state:=.busy }):=by rw [hm3.block _ s4 (fun h=>h.2 rfl)];exact hl2
      have hk3:W3.heap[w.heap.size]?=some (.deferred (some [])):=by rw [hm3.block _ (by omega) (fun h=>h.1 rfl)];exact hk2
      have:=run_endRound (P:=P) jump hl3
      rw [hrec] at this ⊢
      exact ⟨this,World.putObj_heap_same (Array.getElem?_eq_some_iff.1 hl3).1,(World.putObj_heap_other (by omega)).trans hk3⟩
     refine wpIn_mono (hbody _ pre x A2 (hJ pre A A2 h1 (m2.mono (fun i e=>by omega))) hlen hpre (by omega)) ?_
     rintro e a3 B (⟨rfl,hj3,m3⟩ | ⟨c,hc,hi3,m3⟩)
     · obtain ⟨hend,hl4,hk4⟩:=fin none B (m3.mono (fun i h=>h.2))
       refine ⟨_,_,hend,.inl ⟨rfl,⟨hJ _ B _ hj3 ((mod_putObj B _ _).mono (fun i e=>by omega)),hl4,hk4⟩,?_⟩⟩
       exact ((m2.mono (fun i e=>hS i (by omega))).trans (m3.mono (fun i h=>h.1))).putObj (.inl (hS _ (by omega))) _
     · obtain ⟨hend,hl4,hk4⟩:=fin (some c) B m3
       cases e with
       | ret =>
         obtain rfl:Code.ret=c:=by injection hc
         exact ⟨_,_,hend,.inr ⟨rfl,_,hIx _ B _ hi3 ((mod_putObj B _ _).mono (fun i e=>by omega)),hl4,hk4⟩⟩
       | exit id =>
         obtain rfl:Code.exit id=c:=by injection hc
         exact ⟨_,_,hend,.inr ⟨rfl,_,hIx _ B _ hi3 ((mod_putObj B _ _).mono (fun i e=>by omega)),hl4,hk4⟩⟩
       | normal=>cases hc
       | goto t=>cases hc
       | panic ch=>cases hc
       | outgrown=>cases hc
   · exact ⟨hJ _ w W1 h0 (m1.mono (fun _ x=>x.elim)),hL1,hK1⟩
   · rintro e W2 ⟨⟨v,rfl⟩,⟨hj,hl,hk⟩ | ⟨c,hj,hl,hk⟩⟩
     · have hend:=run_endLoop (P:=P) hl (by rw [hrec];simp)
       rw [hrec] at hend
       refine ⟨none,_,hend,hdone _ (hJ _ W2 _ hj ((mod_putObj W2 _ _).mono (fun i e=>by omega))) ?_⟩
       exact (World.putObj_heap_other (by omega)).trans hk
     · have hend:=run_endLoop (P:=P) hl (by rw [hrec];simp)
       rw [hrec] at hend
       refine ⟨some c,_,hend,hstop _ _ (hIx _ W2 _ hj ((mod_putObj W2 _ _).mono (fun i e=>by omega))) ?_⟩
       exact (World.putObj_heap_other (by omega)).trans hk
end
end Go.Proofs.YtkfoeonggmlebaaGreatDoor
