/-
  Contracts of the program's functions, and plain facts, towards the laws of millpondtop. No condition beyond those that each theorem bears.
-/
import Derived.Test.YtkfoeonggmlebaaGreatDoorQ05
import Derived.Test.YtkfoeonggmlebaaGreatDoorQ09
import Derived.Test.YtkfoeonggmlebaaGreatDoorQ19
import Derived.Test.YtkfoeonggmlebaaGreatDoorQAA
set_option maxRecDepth 100000
set_option maxHeartbeats 4000000
namespace Go.Proofs.YtkfoeonggmlebaaGreatDoor
section
open Go.RowKit
structure Part where
 at_:World→(Nat→Prop)→Prop
 keep:∀ {S:Nat→Prop} {w w':World} {F:Nat→Prop},at_ w F→Mod S w w'→(∀ x,F x→¬ S x)→at_ w' F
 below:∀ {w:World} {F:Nat→Prop},at_ w F→∀ x,F x→x < w.heap.size
def Sep:List Part→World→(Nat→Prop)→Prop
 | [],_,F=>∀ x,¬ F x
 | A::l,w,F=>∃ F1 F2,A.at_ w F1∧Sep l w F2∧(∀ x,F1 x→¬ F2 x)∧(∀ x,F x↔F1 x∨F2 x)
theorem Sep.keep {S:Nat→Prop} {w w':World}:∀ {l:List Part} {F:Nat→Prop},Sep l w F→Mod S w w'→(∀ x,F x→¬ S x)→Sep l w' F
 | [],_,h,_,_=>h
 | A::_,_,⟨F1,F2,h1,h2,h3,h4⟩,hm,hs=>⟨F1,F2,A.keep h1 hm (fun x hx=>hs x ((h4 x).2 (.inl hx))),h2.keep hm (fun x hx=>hs x ((h4 x).2 (.inr hx))),h3,h4⟩
theorem Sep.below {w:World}:∀ {l:List Part} {F:Nat→Prop},Sep l w F→∀ x,F x→x < w.heap.size
 | [],_,h,x,hx=>(h x hx).elim
 | A::_,_,⟨_,_,h1,h2,_,h4⟩,x,hx=>by
   rcases (h4 x).1 hx with h | h
   · exact A.below h1 x h
   · exact h2.below x h
def sepP (l:List Part):Part:=⟨Sep l,Sep.keep,Sep.below⟩
theorem Sep.app {w:World}:∀ {l l':List Part} {F F':Nat→Prop},Sep l w F→Sep l' w F'→(∀ x,F x→¬ F' x)→Sep (l++l') w (fun x=>F x∨F' x)
 | [],l',F,F',h,h',_=>by
   have:(fun x=>F x∨F' x)=F':=by funext x;simp [show ¬ F x from h x]
   rw [this];exact h'
 | A::l,l',F,F',⟨F1,F2,h1,h2,h3,h4⟩,h',hd =>
   ⟨F1,fun x=>F2 x∨F' x,h1,h2.app h' (fun x hx=>hd x ((h4 x).2 (.inr hx))),fun x hx hc=>hc.elim (h3 x hx) (hd x ((h4 x).2 (.inl hx))),fun x=>by have:=h4 x;grind⟩
theorem Sep.mem {w:World}:∀ {l:List Part} {F:Nat→Prop} {A:Part},Sep l w F→A∈l→∃ F1,A.at_ w F1∧∀ x,F1 x→F x
 | [],_,_,_,hA=>by cases hA
 | B::l,F,A,⟨F1,F2,h1,h2,h3,h4⟩,hA=>by
   rcases List.mem_cons.1 hA with rfl | hA
   · exact ⟨F1,h1,fun x hx=>(h4 x).2 (.inl hx)⟩
   · obtain ⟨F3,h5,h6⟩:=h2.mem hA
     exact ⟨F3,h5,fun x hx=>(h4 x).2 (.inr (h6 x hx))⟩
theorem Sep.upd {w:World}:∀ {l:List Part} {F:Nat→Prop} {A:Part} (i:Nat),Sep l w F→l[i]?=some A→∃ F1,A.at_ w F1∧(∀ x,F1 x→F x) ∧
 ∀ (w':World) (A':Part) (F1':Nat→Prop),Mod F1 w w'→A'.at_ w' F1'→(∀ x,F1' x→F1 x∨w.heap.size≤x)→Sep (l.set i A') w' (fun x=>F x∧¬ F1 x∨F1' x)
 | [],_,_,i,_,hA=>by simp at hA
 | B::l,F,A,0,⟨F1,F2,h1,h2,h3,h4⟩,hA=>by
   simp at hA;subst hA
   refine ⟨F1,h1,fun x hx=>(h4 x).2 (.inl hx),fun w' A' F1' hm ha hg=>⟨F1',F2,ha,h2.keep hm (fun x hx h=>h3 x h hx),fun x hx hc=>?_,fun x=>?_⟩⟩
   · rcases hg x hx with h | h
     · exact h3 x h hc
     · have:=h2.below x hc;omega
   · have e:=h4 x
     have q:=h3 x
     grind
 | B::l,F,A,i+1,⟨F1,F2,h1,h2,h3,h4⟩,hA=>by
   simp at hA
   obtain ⟨G,g1,g2,g3⟩:=h2.upd i hA
   refine ⟨G,g1,fun x hx=>(h4 x).2 (.inr (g2 x hx)),fun w' A' F1' hm ha hg=>⟨F1,fun x=>F2 x∧¬ G x∨F1' x,B.keep h1 hm (fun x hx h=>h3 x hx (g2 x h)),g3 w' A' F1' hm ha hg,fun x hx hc=>?_,fun x=>?_⟩⟩
   · rcases hc with h | h
     · exact h3 x hx h.1
     · rcases hg x h with h | h
       · exact h3 x hx (g2 x h)
       · have:=B.below h1 x hx;omega
   · have e:=h4 x
     have q:=h3 x
     have q2:=g2 x
     grind
def blkP (b:Nat) (cs:Array Value) (T:TypeId):Part where
 at_ w F:=Blk w b cs T∧F=fun x=>x=b
 keep:=by rintro S w w' F ⟨h,rfl⟩ hm hs;exact ⟨h.keep hm (hs b rfl),rfl⟩
 below:=by rintro w F ⟨h,rfl⟩ x rfl;exact h.lt
def rowP (T:TypeId) (sz:Nat) (v:Value) (n:Nat) (xs:List Value):Part where
 at_ w F:=w.ownsRow 0 T sz v n xs∧F=fun x=>v.ownBlock=some x
 keep:=by rintro S w w' F ⟨h,rfl⟩ hm hs;exact ⟨ownsRow_keep h hm (fun g hg=>hs g hg),rfl⟩
 below:=by rintro w F ⟨h,rfl⟩ x hx;exact ownsRow_lt h x hx
def mapP {κ α:Type} [DecidableEq κ] (ek:κ→Value) (ev:α→Value) (b:Nat) (G:List (κ × α)):Part where
 at_ w F:=MapA ek ev w b G∧F=fun x=>x=b
 keep:=by rintro S w w' F ⟨h,rfl⟩ hm hs;exact ⟨h.keep hm (hs b rfl),rfl⟩
 below:=by rintro w F ⟨h,rfl⟩ x rfl;exact h.lt
def nilP:Part where
 at_ _ F:=F=fun _=>False
 keep:=by rintro S w w' F rfl _ _;rfl
 below:=by rintro w F rfl x hx;exact hx.elim
def tabB:Nat:=2
structure Step (w0:World) (F0:Nat→Prop) (l:List Part) (w:World):Prop where
 mod:Mod F0 w0 w
 tab:Pol.TabIs w
 sep:∃ F,Sep l w F∧(∀ x,F x→F0 x∨w0.heap.size≤x)∧¬ F tabB
variable {w0 w:World} {F0:Nat→Prop} {A B C:Part} {ls:List Part}
theorem Step.refl {F:Nat→Prop} {l:List Part} (h:Sep l w F) (ht:Pol.TabIs w) (hF:¬ F tabB):Step w F l w:=⟨Mod.refl _ _,ht,F,h,fun x hx=>.inl hx,hF⟩
theorem tab_lt {w:World} (h:Pol.TabIs w):tabB < w.heap.size:=lt_of_cell (h 0 0 rfl)
theorem Step.still {w':World} {l:List Part} (st:Step w0 F0 l w) (hm:Mod (fun _=>False) w w'):Step w0 F0 l w':=by
 obtain ⟨F,h,hg,hF⟩:=st.sep
 exact ⟨st.mod.trans (hm.mono (fun _ x=>x.elim)),st.tab.keep hm (fun x=>x),F,h.keep hm (fun _ _ x=>x),hg,hF⟩
theorem Step.drew {l:List Part} (st:Step w0 F0 l w):Step w0 F0 l w.drew:=st.still (Mod.refl _ w).drew
theorem Step.drewN {l:List Part} (st:Step w0 F0 l w) (n:Nat):Step w0 F0 l (w.drewN n):=st.still ((Mod.refl _ w).drewN n)
theorem Step.size {l:List Part} (st:Step w0 F0 l w):w0.heap.size≤w.heap.size:=st.mod.size
theorem Step.headX (st:Step w0 F0 (A::ls) w):∃ F FL,A.at_ w F∧Sep ls w FL∧(∀ x,F x→¬ FL x)∧¬ F tabB∧(∀ x,F x→F0 x∨w0.heap.size≤x) ∧
 ∀ (w':World) (Ls:List Part) (F':Nat→Prop),Mod F w w'→Sep Ls w' F'→(∀ x,F' x→F x∨w.heap.size≤x)→Step w0 F0 (Ls++ls) w':=by
 obtain ⟨F,⟨F1,F2,h1,h2,h3,h4⟩,hg,hF⟩:=st.sep
 have hz:=st.mod.size
 have htl:=tab_lt st.tab
 refine ⟨F1,F2,h1,h2,h3,fun h=>hF ((h4 _).2 (.inl h)),fun x hx=>hg x ((h4 x).2 (.inl hx)),fun w' Ls F' hm hs hgr=>⟨?_,?_,fun x=>F' x∨F2 x,?_,?_,?_⟩⟩
 · refine st.mod.trans' hm (fun i hi h=>?_)
   rcases hg i ((h4 i).2 (.inl h)) with h | h
   · exact h
   · omega
 · exact st.tab.keep hm (fun h=>hF ((h4 _).2 (.inl h)))
 · refine hs.app (h2.keep hm (fun x hx h=>h3 x h hx)) (fun x hx h=>?_)
   rcases hgr x hx with h' | h'
   · exact h3 x h' h
   · have:=h2.below x h;omega
 · rintro x (h | h)
   · rcases hgr x h with h | h
     · exact hg x ((h4 x).2 (.inl h))
     · right;omega
   · exact hg x ((h4 x).2 (.inr h))
 · rintro (h | h)
   · rcases hgr _ h with h | h
     · exact hF ((h4 _).2 (.inl h))
     · omega
   · exact hF ((h4 _).2 (.inr h))
theorem Step.head (st:Step w0 F0 (A::ls) w):∃ F,A.at_ w F∧¬ F tabB∧(∀ x,F x→F0 x∨w0.heap.size≤x) ∧
 ∀ (w':World) (Ls:List Part) (F':Nat→Prop),Mod F w w'→Sep Ls w' F'→(∀ x,F' x→F x∨w.heap.size≤x)→Step w0 F0 (Ls++ls) w':=by
 obtain ⟨F,FL,h1,_,_,h4,h5,h6⟩:=st.headX
 exact ⟨F,h1,h4,h5,h6⟩
theorem Step.head1 (st:Step w0 F0 (A::ls) w):∃ F,A.at_ w F∧¬ F tabB∧(∀ x,F x→F0 x∨w0.heap.size≤x) ∧
 ∀ (w':World) (A':Part) (F':Nat→Prop),Mod F w w'→A'.at_ w' F'→(∀ x,F' x→F x∨w.heap.size≤x)→Step w0 F0 (A'::ls) w':=by
 obtain ⟨F,h1,h2,h3,h4⟩:=st.head
 exact ⟨F,h1,h2,h3,fun w' A' F' hm ha hg=>h4 w' [A'] F' hm ⟨F',fun _=>False,ha,fun _ x=>x,fun _ _ x=>x,fun x=>by simp⟩ hg⟩
theorem Step.swap (st:Step w0 F0 (A::B::ls) w):Step w0 F0 (B::A::ls) w:=by
 obtain ⟨F,⟨F1,F2,h1,⟨F3,F4,h5,h6,h7,h8⟩,h3,h4⟩,hg,hF⟩:=st.sep
 refine ⟨st.mod,st.tab,F,⟨F3,fun x=>F1 x∨F4 x,h5,⟨F1,F4,h1,h6,fun x hx h=>h3 x hx ((h8 x).2 (.inr h)),fun x=>Iff.rfl⟩,?_,?_⟩,hg,hF⟩
 · rintro x hx (h | h)
   · exact h3 x h ((h8 x).2 (.inl hx))
   · exact h7 x hx h
 · intro x
   have e:=h4 x
   have e':=h8 x
   grind
theorem Step.drop (st:Step w0 F0 (A::ls) w):Step w0 F0 ls w:=by
 obtain ⟨F,⟨F1,F2,h1,h2,h3,h4⟩,hg,hF⟩:=st.sep
 exact ⟨st.mod,st.tab,F2,h2,fun x hx=>hg x ((h4 x).2 (.inr hx)),fun h=>hF ((h4 _).2 (.inr h))⟩
theorem Step.drop2 (st:Step w0 F0 (A::B::ls) w):Step w0 F0 (A::ls) w:=st.swap.drop
theorem Step.only (st:Step w0 F0 (A::ls) w):Step w0 F0 [A] w:=by
 obtain ⟨F,⟨F1,F2,h1,h2,h3,h4⟩,hg,hF⟩:=st.sep
 exact ⟨st.mod,st.tab,F1,⟨F1,fun _=>False,h1,fun _ x=>x,fun _ _ x=>x,fun x=>by simp⟩,fun x hx=>hg x ((h4 x).2 (.inl hx)),fun h=>hF ((h4 _).2 (.inl h))⟩
theorem Step.mem {l:List Part} (st:Step w0 F0 l w) (h:A∈l):∃ F,A.at_ w F:=by
 obtain ⟨F,h1,hg,hF⟩:=st.sep
 obtain ⟨F1,h2,_⟩:=h1.mem h
 exact ⟨F1,h2⟩
theorem Step.push {w':World} {F:Nat→Prop} {l:List Part} (st:Step w0 F0 l w) (hm:Mod (fun _=>False) w w') (hA:A.at_ w' F) (hn:∀ x,F x→w.heap.size≤x):Step w0 F0 (A::l) w':=by
 obtain ⟨F2,h,hg,hF⟩:=st.sep
 have hz:=st.mod.size
 have htl:=tab_lt st.tab
 refine ⟨st.mod.trans (hm.mono (fun _ x=>x.elim)),st.tab.keep hm (fun x=>x),fun x=>F x∨F2 x,⟨F,F2,hA,h.keep hm (fun _ _ x=>x),fun x hx hc=>?_,fun x=>Iff.rfl⟩,?_,?_⟩
 · have:=hn x hx;have:=h.below x hc;omega
 · rintro x (h | h)
   · right;have:=hn x h;omega
   · exact hg x h
 · rintro (h | h)
   · have:=hn _ h;omega
   · exact hF h
theorem Step.local {cs:Array Value} {T:TypeId} (st:Step w0 F0 (A::ls) w):Step w0 F0 (A::blkP w.heap.size cs T::ls) (w.alloc (.cells cs T)) :=
 (st.push (A:=blkP w.heap.size cs T) (F:=fun x=>x=w.heap.size) (Mod.alloc' _ w _) ⟨Blk.new w cs T,rfl⟩ (fun x hx=>by omega)).swap
theorem Step.row {w':World} {T:TypeId} {sz n:Nat} {v:Value} {xs:List Value} (st:Step w0 F0 (A::ls) w) (hm:Mod (fun _=>False) w w') (h:w'.ownsRow w.heap.size T sz v n xs):Step w0 F0 (A::rowP T sz v n xs::ls) w' :=
 (st.push (A:=rowP T sz v n xs) (F:=fun x=>v.ownBlock=some x) hm ⟨ownsRow_base h (Nat.zero_le _),rfl⟩ (fun x hx=>ownsRow_ge h x hx)).swap
theorem Step.blk {l:List Part} {b:Nat} {cs:Array Value} {T:TypeId} (st:Step w0 F0 l w) (h:blkP b cs T∈l):Blk w b cs T:=by
 obtain ⟨F,h,_⟩:=st.mem h;exact h
theorem Step.rowOf {l:List Part} {T:TypeId} {sz n:Nat} {v:Value} {xs:List Value} (st:Step w0 F0 l w) (h:rowP T sz v n xs∈l):w.ownsRow 0 T sz v n xs:=by
 obtain ⟨F,h,_⟩:=st.mem h;exact h
theorem Step.blk0 {b:Nat} {cs:Array Value} {T:TypeId} (st:Step w0 F0 (blkP b cs T::ls) w):Blk w b cs T:=st.blk List.mem_cons_self
theorem Step.blk1 {b:Nat} {cs:Array Value} {T:TypeId} (st:Step w0 F0 (A::blkP b cs T::ls) w):Blk w b cs T:=st.blk (List.mem_cons_of_mem _ List.mem_cons_self)
theorem Step.blk2 {b:Nat} {cs:Array Value} {T:TypeId} (st:Step w0 F0 (A::B::blkP b cs T::ls) w):Blk w b cs T:=st.blk (List.mem_cons_of_mem _ (List.mem_cons_of_mem _ List.mem_cons_self))
theorem Step.row1 {T:TypeId} {sz n:Nat} {v:Value} {xs:List Value} (st:Step w0 F0 (A::rowP T sz v n xs::ls) w):w.ownsRow 0 T sz v n xs:=st.rowOf (List.mem_cons_of_mem _ List.mem_cons_self)
theorem Step.set0 {b j:Nat} {cs:Array Value} {T:TypeId} {v:Value} (st:Step w0 F0 (blkP b cs T::ls) w):Step w0 F0 (blkP b (cs.setIfInBounds j v) T::ls) (w.setCell ⟨b,j,none⟩ v):=by
 obtain ⟨F,⟨h1,rfl⟩,h2,h3,h4⟩:=st.head1
 exact h4 _ _ _ (mod_setCell w b j v) ⟨h1.set j v,rfl⟩ (fun x hx=>.inl hx)
theorem Step.set1 {b j:Nat} {cs:Array Value} {T:TypeId} {v:Value} (st:Step w0 F0 (A::blkP b cs T::ls) w):Step w0 F0 (A::blkP b (cs.setIfInBounds j v) T::ls) (w.setCell ⟨b,j,none⟩ v) :=
 st.swap.set0.swap
theorem Step.trans {w1:World} {F1:Nat→Prop} {l l':List Part} (st:Step w0 F0 l w1) (h1:∀ x,F1 x→F0 x∨w0.heap.size≤x) (st':Step w1 F1 l' w):Step w0 F0 l' w:=by
 have hz:=st.mod.size
 obtain ⟨F,h,hg,hF⟩:=st'.sep
 refine ⟨st.mod.trans' st'.mod (fun i hi h=>?_),st'.tab,F,h,fun x hx=>?_,hF⟩
 · rcases h1 i h with h | h
   · exact h
   · omega
 · rcases hg x hx with h | h
   · exact h1 x h
   · right;omega
end

namespace Ent
open Go.RowKit
open Go.Proofs.YtkfoeonggmlebaaGreatDoor.Bit
structure Ent where
 kind:Nat
 page:Nat
 wr:Bool
 tc:Bool
deriving DecidableEq
def Ent.good (e:Ent):Prop:=(e.kind=1∨e.kind=2)∧e.page < 2 ^ 24
def Ent.val (e:Ent):Value:=.agg #[.int .i64 e.kind,.int .i64 e.page,.bool e.wr,.bool e.tc]
def Ent.vals (e:Ent):List Nat:=[e.kind,e.page,e.wr.toNat,e.tc.toNat]
def Ent.word (e:Ent):Nat:=packL [2,24,1,1] e.vals
theorem Ent.word_eq (e:Ent):e.word=e.kind+4 * (e.page+16777216 * (e.wr.toNat+2 * e.tc.toNat)):=by
 simp [Ent.word,Ent.vals,packL]
theorem Ent.fit {e:Ent} (h:e.good):∀ (k x u:Nat),[2,24,1,1][k]?=some x→e.vals[k]?=some u→u < 2 ^ x:=by
 have h1:e.wr.toNat < 2:=by cases e.wr<;>simp
 have h2:e.tc.toNat < 2:=by cases e.tc<;>simp
 have h3:e.kind < 4:=by rcases h.1 with h | h<;>omega
 have h4:=h.2
 intro k x u hk hu
 rcases k with _ | _ | _ | _ | k
 · cases hk;cases hu;exact h3
 · cases hk;cases hu;exact h4
 · cases hk;cases hu;exact h1
 · cases hk;cases hu;exact h2
 · cases hk
theorem Ent.word_lt {e:Ent} (h:e.good):e.word < 2 ^ 28:=packL_lt _ _ (Ent.fit h)
theorem Ent.unpack {e:Ent} (h:e.good):unpackL [2,24,1,1] e.word=e.vals:=by
 have h1:e.wr.toNat < 2:=by cases e.wr<;>simp
 have h2:e.tc.toNat < 2:=by cases e.tc<;>simp
 have h3:e.kind < 4:=by rcases h.1 with h | h<;>omega
 have h4:=h.2
 rw [Ent.word_eq]
 simp only [unpackL,Ent.vals]
 congr 1
 · omega
 congr 1
 · omega
 congr 1
 · omega
 congr 1
 omega
theorem ints_new4 (w:World) (a b c d:Int):IntsAt (w.alloc (.cells #[.int .i64 a,.int .i64 b,.int .i64 c,.int .i64 d] 3)) (.slice (some ⟨w.heap.size,0,none⟩) 4 4) [a,b,c,d]:=by
 refine ⟨_,4,rfl,by simp,by unfold maxLen;omega,fun j hj=>⟨w.heap.size,0,rfl,?_⟩⟩
 rw [Nat.zero_add,(Blk.new w _ _).cell]
 simp only [List.length_cons,List.length_nil] at hj
 rcases j with _ | _ | _ | _ | j<;>first | rfl | omega
theorem ewidths_any (w:World):Calls Tryz.prog 181 #[] w fun e w'=>∃ v,e=.returned v∧Mod (fun _=>False) w w'∧IntsAt w' v (encN [2,24,1,1]):=by
 go_enter Tryz.func181,Tryz.ntmps181
 go_wp2_with fail
 go_ret
 exact ⟨_,rfl,Mod.alloc' _ _ _,ints_new4 w 2 24 1 1⟩
theorem bit_any (b:Bool) (w:World):Calls Tryz.prog 263 #[.bool b] w fun e w'=>e=.returned (.int .i64 (b.toNat:Nat))∧w=w':=by
 cases b
 all_goals
  go_enter Tryz.func263,Tryz.ntmps263
  go_wp2_with fail
  go_ret
  exact ⟨rfl,rfl⟩
theorem eright_any (e:Ent) (h:e.good) (w:World):Calls Tryz.prog 182 #[e.val] w fun x w'=>x=.returned (.bool true)∧Mod (fun _=>False) w w':=by
 unfold Ent.val
 obtain ⟨k,p,wr,tc⟩:=e
 rcases h.1 with h1 | h1
 all_goals
  simp only at h1
  subst h1
  go_enter Tryz.func182,Tryz.ntmps182
  go_wp2_with fail
  go_ret
  exact ⟨rfl,Mod.alloc' _ _ _⟩
theorem epack_any (e:Ent) (h:e.good) (w:World):Calls Tryz.prog 235 #[e.val] w fun x w'=>x=.returned (.tuple #[.int .u64 (e.word:Nat),.int .i64 0])∧Mod (fun _=>False) w w':=by
 have hr:=fun w=>eright_any e h w
 have hp:=fun (v u:Value) (w:World) (h1:IntsAt w v (encN [2,24,1,1])) (h2:IntsAt w u [(e.kind:Int),e.page,e.wr.toNat,e.tc.toNat])=>bpack_any [2,24,1,1] e.vals v u w h1 h2 (by decide) (by decide) rfl (Ent.fit h)
 have hw:packL [2,24,1,1] e.vals=e.word:=rfl
 rw [hw] at hp
 unfold Ent.val at hr ⊢
 obtain ⟨b,hb⟩:∃ b,b=w.heap.size:=⟨_,rfl⟩
 have hbk:=Blk.new w #[.int .i64 e.kind,.int .i64 e.page,.bool e.wr,.bool e.tc] 137
 have m0:=Mod.alloc' (fun _=>False) w (.cells #[.int .i64 e.kind,.int .i64 e.page,.bool e.wr,.bool e.tc] 137)
 rw [←hb] at hbk
 have HR:=ζh hr
 have HP:=ζh hp
 obtain ⟨W,hW⟩:∃ W,W=e.word:=⟨_,rfl⟩
 rw [←hW] at HP ⊢
 clear hr hp hw hW
 go_enter Tryz.func235,Tryz.ntmps235
 go_wp2_with fail
 refine (HR.out _).mono ?_
 rintro x w1 ⟨rfl,hm1⟩
 have hb1:=hbk.keep hm1 (fun x=>x)
 have m1:=m0.trans hm1
 have c0:=hb1.cell 0
 have c1:=hb1.cell 1
 have c2:=hb1.cell 2
 have c3:=hb1.cell 3
 simp only [ζa,ζb,ζc] at c0 c1 c2 c3
 rw [←hb]
 clear hb
 go_wp2_with fail
 go_region_held3 (fun w'=>w'.cell? ⟨b,0,none⟩=some (.int .i64 e.kind)∧w'.cell? ⟨b,1,none⟩=some (.int .i64 e.page)∧w'.cell? ⟨b,2,none⟩=some (.bool e.wr)∧w'.cell? ⟨b,3,none⟩=some (.bool e.tc)) (first | exact ⟨c0,c1,c2,c3⟩ | exact ⟨hm2.keeps c0 (fun x=>x),hm2.keeps c1 (fun x=>x),hm2.keeps c2 (fun x=>x),hm2.keeps c3 (fun x=>x)⟩ | go_keep) (first | (go_at_call 181;refine (ewidths_any _).mono ?_;rintro x w2 ⟨v,rfl,hm2',hi2⟩;have hm2:Mod (fun _=>False) w1 w2:=by first | exact (Mod.refl _ _).drew.trans hm2' | exact ((Mod.refl _ _).drew.alloc _).trans hm2') | (go_at_call 263;refine (bit_any _ _).mono ?_;rintro x w3 ⟨rfl,rfl⟩) | (go_at_call 262;refine (HP.out _ _ _ ?_ ?_).mono ?_;(first | exact hi2 | exact hi2.keep (Mod.alloc' (fun _=>False) _ _) (fun _ _ x=>x));(exact ints_new4 _ _ _ _ _);rintro x w4 ⟨rfl,rfl⟩))
 all_goals
  go_wp2_with fail
  go_ret2
  exact ⟨rfl,(m1.trans hm2).alloc _⟩
theorem and_two (x i:Nat):x &&& 2 ^ i=if x.testBit i then 2 ^ i else 0:=by
 apply Nat.eq_of_testBit_eq
 intro j
 rw [Nat.testBit_and,Nat.testBit_two_pow]
 by_cases hj:i=j
 · subst hj
   cases hx:x.testBit i<;>simp
 · cases hx:x.testBit i<;>simp [hj]
theorem Ent.and_wr {e:Ent} (h:e.good):bits .and .u64 (e.word:Int) 67108864=if e.wr then 67108864 else 0:=by
 have hl:=Ent.word_lt h
 have h1:=and_u e.word 67108864 (by omega) (by omega)
 have h2:e.word &&& 67108864=if e.word.testBit 26 then 2 ^ 26 else 0:=and_two e.word 26
 have h3:e.word.testBit 26=e.wr:=by
  rw [Nat.testBit_eq_decide_div_mod_eq,Ent.word_eq]
  have h3:e.kind < 4:=by rcases h.1 with h | h<;>omega
  have h4:=h.2
  cases e.wr<;>cases e.tc<;>simp<;>omega
 rw [show ((67108864:Nat):Int)=67108864 from rfl] at h1
 rw [h1,h2,h3]
 cases e.wr<;>rfl
theorem Ent.and_tc {e:Ent} (h:e.good):bits .and .u64 (e.word:Int) 134217728=if e.tc then 134217728 else 0:=by
 have hl:=Ent.word_lt h
 have h1:=and_u e.word 134217728 (by omega) (by omega)
 have h2:e.word &&& 134217728=if e.word.testBit 27 then 2 ^ 27 else 0:=and_two e.word 27
 have h3:e.word.testBit 27=e.tc:=by
  rw [Nat.testBit_eq_decide_div_mod_eq,Ent.word_eq]
  have h3:e.kind < 4:=by rcases h.1 with h | h<;>omega
  have h4:=h.2
  cases e.wr<;>cases e.tc<;>simp<;>omega
 rw [show ((134217728:Nat):Int)=134217728 from rfl] at h1
 rw [h1,h2,h3]
 cases e.tc<;>rfl
def Ent.touch (e:Ent):Ent:={ e with tc:=true }
theorem Ent.or_tc {e:Ent} (h:e.good):bits .or .u64 (e.word:Int) 134217728=(e.touch.word:Int):=by
 have hl:=Ent.word_lt h
 have h1:=or_u e.word 134217728 (by omega) (by omega)
 rw [show ((134217728:Nat):Int)=134217728 from rfl] at h1
 rw [h1]
 congr 1
 have h4:=h.2
 have h3:e.kind < 4:=by rcases h.1 with h | h<;>omega
 have hb:e.kind+4 * (e.page+16777216 * e.wr.toNat) < 2 ^ 27:=by cases e.wr<;>simp<;>omega
 have hor:=Nat.two_pow_add_eq_or_of_lt hb 1
 have e1:e.touch.word=2 ^ 27 * 1+(e.kind+4 * (e.page+16777216 * e.wr.toNat)):=by
  rw [Ent.word_eq];simp [Ent.touch];omega
 have e2:(134217728:Nat)=2 ^ 27 * 1:=rfl
 cases ht:e.tc with
 | true =>
   have e3:e.word=e.touch.word:=by rw [Ent.word_eq,Ent.word_eq];simp [Ent.touch,ht]
   rw [e3,e1,hor,e2,Nat.or_comm (2 ^ 27 * 1),Nat.or_assoc,Nat.or_self]
 | false =>
   have e3:e.word=e.kind+4 * (e.page+16777216 * e.wr.toNat):=by rw [Ent.word_eq];simp [ht]
   rw [e3,e1,hor,e2,Nat.or_comm]
theorem eunpack_any (e:Ent) (h:e.good) (w:World):Calls Tryz.prog 109 #[.int .u64 (e.word:Nat)] w fun x w'=>x=.returned (.tuple #[e.val,.int .i64 0])∧Mod (fun _=>False) w w':=by
 have hr:=fun w=>eright_any e h w
 have hu:=fun (v:Value) (w:World) (h1:IntsAt w v (encN [2,24,1,1]))=>bunpack_any [2,24,1,1] e.word v w h1 (by decide) (by decide) (Ent.word_lt h)
 rw [Ent.unpack h] at hu
 have ea:=Ent.and_wr h
 have eb:=Ent.and_tc h
 unfold Ent.val at hr ⊢
 have HR:=ζh hr
 have HU:=ζh hu
 obtain ⟨W,hW⟩:∃ W,W=e.word:=⟨_,rfl⟩
 rw [←hW] at HU ea eb ⊢
 clear hr hu hW
 obtain ⟨k,p,wr,tc⟩:=e
 simp only at ea eb HR HU ⊢
 clear h
 have et:∀ x:Int,(if true=true then x else 0)=x:=fun _=>rfl
 have ef:∀ x:Int,(if false=true then x else 0)=0:=fun _=>rfl
 cases wr<;>cases tc
 · (try simp only [et] at ea eb)
   (try simp only [ef] at ea eb)
   have hbk:=Blk.new w #[.int .i64 0,.int .i64 0,.bool false,.bool false] 137
   have m0:=Mod.alloc' (fun _=>False) w (.cells #[.int .i64 0,.int .i64 0,.bool false,.bool false] 137)
   obtain ⟨r,hrr⟩:∃ r,r=w.heap.size:=⟨_,rfl⟩
   rw [←hrr] at hbk
   go_enter Tryz.func109,Tryz.ntmps109
   go_wp2_with fail
   refine (ewidths_any _).mono ?_
   rintro x w1 ⟨v,rfl,hm1,hi1⟩
   go_wp2_with fail
   refine (HU.out _ _ hi1).mono ?_
   rintro x w2 ⟨u,rfl,hm2,hi2⟩
   have hb2:=(hbk.keep hm1 (fun x=>x)).keep hm2 (fun x=>x)
   have m2:=(m0.trans hm1).trans hm2
   obtain ⟨b,off,cap,rfl,c0⟩:=ints_get hi2 (j:=0) rfl
   obtain ⟨b',off',cap',hv,c1⟩:=ints_get hi2 (j:=1) rfl
   injection hv with e1 e2 e3
   injection e1 with e1
   injection e1 with e1 e1' _
   subst e1 e1' e3
   rw [Nat.add_zero] at c0
   replace c0:w2.cell? ⟨b,off,none⟩=some (.int .i64 (k:Int)):=c0
   replace c1:w2.cell? ⟨b,off+1,none⟩=some (.int .i64 (p:Int)):=c1
   have e4:(encN (Ent.vals { kind:=k,page:=p,wr:=false,tc:=false })).length=4:=rfl
   rw [e4]
   rw [←hrr]
   have hrl:w.heap.size≤r:=by omega
   clear e4 hi2 e2 hi1 hm1 hm2 hbk m0 HU hrr
   go_wp2_with fail
   go_region_held3 (fun w'=>w'.cell? ⟨b,off,none⟩=some (.int .i64 (k:Int))∧w'.cell? ⟨b,off+1,none⟩=some (.int .i64 (p:Int))) (first | exact ⟨c0,c1⟩ | go_keep) (fail)
   have x1:((67108864:Int) != 0)=true:=rfl
   have x2:((134217728:Int) != 0)=true:=rfl
   have x3:((0:Int) != 0)=false:=rfl
   try simp only [x1,x2,x3]
   obtain ⟨w3,hw3⟩:∃ w3,w3=(w2.alloc (.cells #[.int .i64 k,.int .i64 p,.bool false,.bool false] 137)).drew:=⟨_,rfl⟩
   rw [←hw3]
   have bk3:Blk w3 w2.heap.size #[.int .i64 k,.int .i64 p,.bool false,.bool false] 137:=by rw [hw3];exact Blk.new w2 _ _
   have m3:Mod (fun _=>False) w2 w3:=by rw [hw3];exact (Mod.alloc' _ _ _).drew
   have hb3:=hb2.keep m3 (fun x=>x)
   obtain ⟨h3,hh3⟩:∃ h3,h3=w2.heap.size:=⟨_,rfl⟩
   rw [←hh3] at bk3 ⊢
   have m03:=m2.trans m3
   have bk30:=bk3.cell 0
   have bk31:=bk3.cell 1
   have bk32:=bk3.cell 2
   have bk33:=bk3.cell 3
   simp only [ζa,ζb,ζc] at bk30 bk31 bk32 bk33
   rename_i hHeld
   clear hHeld hw3 hh3 x1 x2 x3 ea eb c0 c1 hb2 m2 m3
   go_wp2_with fail
   refine (HR.out _).mono ?_
   rintro x w4 ⟨rfl,hm4⟩
   have bk4:=bk3.keep hm4 (fun x=>x)
   have hb4:=hb3.keep hm4 (fun x=>x)
   have m04:=m03.trans hm4
   clear bk30 bk31 bk32 bk33 bk3 hb3 m03 hm4
   have bk40:=bk4.cell 0
   have bk41:=bk4.cell 1
   have bk42:=bk4.cell 2
   have bk43:=bk4.cell 3
   simp only [ζa,ζb,ζc] at bk40 bk41 bk42 bk43
   have hb40:=hb4.cell 0
   have hb41:=hb4.cell 1
   have hb42:=hb4.cell 2
   have hb43:=hb4.cell 3
   simp only [ζa,ζb,ζc] at hb40 hb41 hb42 hb43
   have f0:=hb4.frozen 0
   have f1:=hb4.frozen 1
   have f2:=hb4.frozen 2
   have f3:=hb4.frozen 3
   go_wp2_with fail
   (try simp only [Exit.inBlock,Exit.then])
   have hbF:=(((hb4.set 0 (.int .i64 k)).set 1 (.int .i64 p)).set 2 (.bool false)).set 3 (.bool false)
   have hmF:Mod (fun x=>x=r) w4 ((((w4.setCell ⟨r,0,none⟩ (.int .i64 k)).setCell ⟨r,1,none⟩ (.int .i64 p)).setCell ⟨r,2,none⟩ (.bool false)).setCell ⟨r,3,none⟩ (.bool false)):=(((mod_setCell _ _ _ _).trans (mod_setCell _ _ _ _)).trans (mod_setCell _ _ _ _)).trans (mod_setCell _ _ _ _)
   exact bodyPost_ret (res_cell rfl rfl hbF Tryz.underlying137 rfl (by kernel_rfl)) rfl ⟨rfl,m04.trans' hmF (fun i hi e=>by omega)⟩
 · (try simp only [et] at ea eb)
   (try simp only [ef] at ea eb)
   have hbk:=Blk.new w #[.int .i64 0,.int .i64 0,.bool false,.bool false] 137
   have m0:=Mod.alloc' (fun _=>False) w (.cells #[.int .i64 0,.int .i64 0,.bool false,.bool false] 137)
   obtain ⟨r,hrr⟩:∃ r,r=w.heap.size:=⟨_,rfl⟩
   rw [←hrr] at hbk
   go_enter Tryz.func109,Tryz.ntmps109
   go_wp2_with fail
   refine (ewidths_any _).mono ?_
   rintro x w1 ⟨v,rfl,hm1,hi1⟩
   go_wp2_with fail
   refine (HU.out _ _ hi1).mono ?_
   rintro x w2 ⟨u,rfl,hm2,hi2⟩
   have hb2:=(hbk.keep hm1 (fun x=>x)).keep hm2 (fun x=>x)
   have m2:=(m0.trans hm1).trans hm2
   obtain ⟨b,off,cap,rfl,c0⟩:=ints_get hi2 (j:=0) rfl
   obtain ⟨b',off',cap',hv,c1⟩:=ints_get hi2 (j:=1) rfl
   injection hv with e1 e2 e3
   injection e1 with e1
   injection e1 with e1 e1' _
   subst e1 e1' e3
   rw [Nat.add_zero] at c0
   replace c0:w2.cell? ⟨b,off,none⟩=some (.int .i64 (k:Int)):=c0
   replace c1:w2.cell? ⟨b,off+1,none⟩=some (.int .i64 (p:Int)):=c1
   have e4:(encN (Ent.vals { kind:=k,page:=p,wr:=false,tc:=true })).length=4:=rfl
   rw [e4]
   rw [←hrr]
   have hrl:w.heap.size≤r:=by omega
   clear e4 hi2 e2 hi1 hm1 hm2 hbk m0 HU hrr
   go_wp2_with fail
   go_region_held3 (fun w'=>w'.cell? ⟨b,off,none⟩=some (.int .i64 (k:Int))∧w'.cell? ⟨b,off+1,none⟩=some (.int .i64 (p:Int))) (first | exact ⟨c0,c1⟩ | go_keep) (fail)
   have x1:((67108864:Int) != 0)=true:=rfl
   have x2:((134217728:Int) != 0)=true:=rfl
   have x3:((0:Int) != 0)=false:=rfl
   try simp only [x1,x2,x3]
   obtain ⟨w3,hw3⟩:∃ w3,w3=(w2.alloc (.cells #[.int .i64 k,.int .i64 p,.bool false,.bool true] 137)).drew:=⟨_,rfl⟩
   rw [←hw3]
   have bk3:Blk w3 w2.heap.size #[.int .i64 k,.int .i64 p,.bool false,.bool true] 137:=by rw [hw3];exact Blk.new w2 _ _
   have m3:Mod (fun _=>False) w2 w3:=by rw [hw3];exact (Mod.alloc' _ _ _).drew
   have hb3:=hb2.keep m3 (fun x=>x)
   obtain ⟨h3,hh3⟩:∃ h3,h3=w2.heap.size:=⟨_,rfl⟩
   rw [←hh3] at bk3 ⊢
   have m03:=m2.trans m3
   have bk30:=bk3.cell 0
   have bk31:=bk3.cell 1
   have bk32:=bk3.cell 2
   have bk33:=bk3.cell 3
   simp only [ζa,ζb,ζc] at bk30 bk31 bk32 bk33
   rename_i hHeld
   clear hHeld hw3 hh3 x1 x2 x3 ea eb c0 c1 hb2 m2 m3
   go_wp2_with fail
   refine (HR.out _).mono ?_
   rintro x w4 ⟨rfl,hm4⟩
   have bk4:=bk3.keep hm4 (fun x=>x)
   have hb4:=hb3.keep hm4 (fun x=>x)
   have m04:=m03.trans hm4
   clear bk30 bk31 bk32 bk33 bk3 hb3 m03 hm4
   have bk40:=bk4.cell 0
   have bk41:=bk4.cell 1
   have bk42:=bk4.cell 2
   have bk43:=bk4.cell 3
   simp only [ζa,ζb,ζc] at bk40 bk41 bk42 bk43
   have hb40:=hb4.cell 0
   have hb41:=hb4.cell 1
   have hb42:=hb4.cell 2
   have hb43:=hb4.cell 3
   simp only [ζa,ζb,ζc] at hb40 hb41 hb42 hb43
   have f0:=hb4.frozen 0
   have f1:=hb4.frozen 1
   have f2:=hb4.frozen 2
   have f3:=hb4.frozen 3
   go_wp2_with fail
   (try simp only [Exit.inBlock,Exit.then])
   have hbF:=(((hb4.set 0 (.int .i64 k)).set 1 (.int .i64 p)).set 2 (.bool false)).set 3 (.bool true)
   have hmF:Mod (fun x=>x=r) w4 ((((w4.setCell ⟨r,0,none⟩ (.int .i64 k)).setCell ⟨r,1,none⟩ (.int .i64 p)).setCell ⟨r,2,none⟩ (.bool false)).setCell ⟨r,3,none⟩ (.bool true)):=(((mod_setCell _ _ _ _).trans (mod_setCell _ _ _ _)).trans (mod_setCell _ _ _ _)).trans (mod_setCell _ _ _ _)
   exact bodyPost_ret (res_cell rfl rfl hbF Tryz.underlying137 rfl (by kernel_rfl)) rfl ⟨rfl,m04.trans' hmF (fun i hi e=>by omega)⟩
 · (try simp only [et] at ea eb)
   (try simp only [ef] at ea eb)
   have hbk:=Blk.new w #[.int .i64 0,.int .i64 0,.bool false,.bool false] 137
   have m0:=Mod.alloc' (fun _=>False) w (.cells #[.int .i64 0,.int .i64 0,.bool false,.bool false] 137)
   obtain ⟨r,hrr⟩:∃ r,r=w.heap.size:=⟨_,rfl⟩
   rw [←hrr] at hbk
   go_enter Tryz.func109,Tryz.ntmps109
   go_wp2_with fail
   refine (ewidths_any _).mono ?_
   rintro x w1 ⟨v,rfl,hm1,hi1⟩
   go_wp2_with fail
   refine (HU.out _ _ hi1).mono ?_
   rintro x w2 ⟨u,rfl,hm2,hi2⟩
   have hb2:=(hbk.keep hm1 (fun x=>x)).keep hm2 (fun x=>x)
   have m2:=(m0.trans hm1).trans hm2
   obtain ⟨b,off,cap,rfl,c0⟩:=ints_get hi2 (j:=0) rfl
   obtain ⟨b',off',cap',hv,c1⟩:=ints_get hi2 (j:=1) rfl
   injection hv with e1 e2 e3
   injection e1 with e1
   injection e1 with e1 e1' _
   subst e1 e1' e3
   rw [Nat.add_zero] at c0
   replace c0:w2.cell? ⟨b,off,none⟩=some (.int .i64 (k:Int)):=c0
   replace c1:w2.cell? ⟨b,off+1,none⟩=some (.int .i64 (p:Int)):=c1
   have e4:(encN (Ent.vals { kind:=k,page:=p,wr:=true,tc:=false })).length=4:=rfl
   rw [e4]
   rw [←hrr]
   have hrl:w.heap.size≤r:=by omega
   clear e4 hi2 e2 hi1 hm1 hm2 hbk m0 HU hrr
   go_wp2_with fail
   go_region_held3 (fun w'=>w'.cell? ⟨b,off,none⟩=some (.int .i64 (k:Int))∧w'.cell? ⟨b,off+1,none⟩=some (.int .i64 (p:Int))) (first | exact ⟨c0,c1⟩ | go_keep) (fail)
   have x1:((67108864:Int) != 0)=true:=rfl
   have x2:((134217728:Int) != 0)=true:=rfl
   have x3:((0:Int) != 0)=false:=rfl
   try simp only [x1,x2,x3]
   obtain ⟨w3,hw3⟩:∃ w3,w3=(w2.alloc (.cells #[.int .i64 k,.int .i64 p,.bool true,.bool false] 137)).drew:=⟨_,rfl⟩
   rw [←hw3]
   have bk3:Blk w3 w2.heap.size #[.int .i64 k,.int .i64 p,.bool true,.bool false] 137:=by rw [hw3];exact Blk.new w2 _ _
   have m3:Mod (fun _=>False) w2 w3:=by rw [hw3];exact (Mod.alloc' _ _ _).drew
   have hb3:=hb2.keep m3 (fun x=>x)
   obtain ⟨h3,hh3⟩:∃ h3,h3=w2.heap.size:=⟨_,rfl⟩
   rw [←hh3] at bk3 ⊢
   have m03:=m2.trans m3
   have bk30:=bk3.cell 0
   have bk31:=bk3.cell 1
   have bk32:=bk3.cell 2
   have bk33:=bk3.cell 3
   simp only [ζa,ζb,ζc] at bk30 bk31 bk32 bk33
   rename_i hHeld
   clear hHeld hw3 hh3 x1 x2 x3 ea eb c0 c1 hb2 m2 m3
   go_wp2_with fail
   refine (HR.out _).mono ?_
   rintro x w4 ⟨rfl,hm4⟩
   have bk4:=bk3.keep hm4 (fun x=>x)
   have hb4:=hb3.keep hm4 (fun x=>x)
   have m04:=m03.trans hm4
   clear bk30 bk31 bk32 bk33 bk3 hb3 m03 hm4
   have bk40:=bk4.cell 0
   have bk41:=bk4.cell 1
   have bk42:=bk4.cell 2
   have bk43:=bk4.cell 3
   simp only [ζa,ζb,ζc] at bk40 bk41 bk42 bk43
   have hb40:=hb4.cell 0
   have hb41:=hb4.cell 1
   have hb42:=hb4.cell 2
   have hb43:=hb4.cell 3
   simp only [ζa,ζb,ζc] at hb40 hb41 hb42 hb43
   have f0:=hb4.frozen 0
   have f1:=hb4.frozen 1
   have f2:=hb4.frozen 2
   have f3:=hb4.frozen 3
   go_wp2_with fail
   (try simp only [Exit.inBlock,Exit.then])
   have hbF:=(((hb4.set 0 (.int .i64 k)).set 1 (.int .i64 p)).set 2 (.bool true)).set 3 (.bool false)
   have hmF:Mod (fun x=>x=r) w4 ((((w4.setCell ⟨r,0,none⟩ (.int .i64 k)).setCell ⟨r,1,none⟩ (.int .i64 p)).setCell ⟨r,2,none⟩ (.bool true)).setCell ⟨r,3,none⟩ (.bool false)):=(((mod_setCell _ _ _ _).trans (mod_setCell _ _ _ _)).trans (mod_setCell _ _ _ _)).trans (mod_setCell _ _ _ _)
   exact bodyPost_ret (res_cell rfl rfl hbF Tryz.underlying137 rfl (by kernel_rfl)) rfl ⟨rfl,m04.trans' hmF (fun i hi e=>by omega)⟩
 · (try simp only [et] at ea eb)
   (try simp only [ef] at ea eb)
   have hbk:=Blk.new w #[.int .i64 0,.int .i64 0,.bool false,.bool false] 137
   have m0:=Mod.alloc' (fun _=>False) w (.cells #[.int .i64 0,.int .i64 0,.bool false,.bool false] 137)
   obtain ⟨r,hrr⟩:∃ r,r=w.heap.size:=⟨_,rfl⟩
   rw [←hrr] at hbk
   go_enter Tryz.func109,Tryz.ntmps109
   go_wp2_with fail
   refine (ewidths_any _).mono ?_
   rintro x w1 ⟨v,rfl,hm1,hi1⟩
   go_wp2_with fail
   refine (HU.out _ _ hi1).mono ?_
   rintro x w2 ⟨u,rfl,hm2,hi2⟩
   have hb2:=(hbk.keep hm1 (fun x=>x)).keep hm2 (fun x=>x)
   have m2:=(m0.trans hm1).trans hm2
   obtain ⟨b,off,cap,rfl,c0⟩:=ints_get hi2 (j:=0) rfl
   obtain ⟨b',off',cap',hv,c1⟩:=ints_get hi2 (j:=1) rfl
   injection hv with e1 e2 e3
   injection e1 with e1
   injection e1 with e1 e1' _
   subst e1 e1' e3
   rw [Nat.add_zero] at c0
   replace c0:w2.cell? ⟨b,off,none⟩=some (.int .i64 (k:Int)):=c0
   replace c1:w2.cell? ⟨b,off+1,none⟩=some (.int .i64 (p:Int)):=c1
   have e4:(encN (Ent.vals { kind:=k,page:=p,wr:=true,tc:=true })).length=4:=rfl
   rw [e4]
   rw [←hrr]
   have hrl:w.heap.size≤r:=by omega
   clear e4 hi2 e2 hi1 hm1 hm2 hbk m0 HU hrr
   go_wp2_with fail
   go_region_held3 (fun w'=>w'.cell? ⟨b,off,none⟩=some (.int .i64 (k:Int))∧w'.cell? ⟨b,off+1,none⟩=some (.int .i64 (p:Int))) (first | exact ⟨c0,c1⟩ | go_keep) (fail)
   have x1:((67108864:Int) != 0)=true:=rfl
   have x2:((134217728:Int) != 0)=true:=rfl
   have x3:((0:Int) != 0)=false:=rfl
   try simp only [x1,x2,x3]
   obtain ⟨w3,hw3⟩:∃ w3,w3=(w2.alloc (.cells #[.int .i64 k,.int .i64 p,.bool true,.bool true] 137)).drew:=⟨_,rfl⟩
   rw [←hw3]
   have bk3:Blk w3 w2.heap.size #[.int .i64 k,.int .i64 p,.bool true,.bool true] 137:=by rw [hw3];exact Blk.new w2 _ _
   have m3:Mod (fun _=>False) w2 w3:=by rw [hw3];exact (Mod.alloc' _ _ _).drew
   have hb3:=hb2.keep m3 (fun x=>x)
   obtain ⟨h3,hh3⟩:∃ h3,h3=w2.heap.size:=⟨_,rfl⟩
   rw [←hh3] at bk3 ⊢
   have m03:=m2.trans m3
   have bk30:=bk3.cell 0
   have bk31:=bk3.cell 1
   have bk32:=bk3.cell 2
   have bk33:=bk3.cell 3
   simp only [ζa,ζb,ζc] at bk30 bk31 bk32 bk33
   rename_i hHeld
   clear hHeld hw3 hh3 x1 x2 x3 ea eb c0 c1 hb2 m2 m3
   go_wp2_with fail
   refine (HR.out _).mono ?_
   rintro x w4 ⟨rfl,hm4⟩
   have bk4:=bk3.keep hm4 (fun x=>x)
   have hb4:=hb3.keep hm4 (fun x=>x)
   have m04:=m03.trans hm4
   clear bk30 bk31 bk32 bk33 bk3 hb3 m03 hm4
   have bk40:=bk4.cell 0
   have bk41:=bk4.cell 1
   have bk42:=bk4.cell 2
   have bk43:=bk4.cell 3
   simp only [ζa,ζb,ζc] at bk40 bk41 bk42 bk43
   have hb40:=hb4.cell 0
   have hb41:=hb4.cell 1
   have hb42:=hb4.cell 2
   have hb43:=hb4.cell 3
   simp only [ζa,ζb,ζc] at hb40 hb41 hb42 hb43
   have f0:=hb4.frozen 0
   have f1:=hb4.frozen 1
   have f2:=hb4.frozen 2
   have f3:=hb4.frozen 3
   go_wp2_with fail
   (try simp only [Exit.inBlock,Exit.then])
   have hbF:=(((hb4.set 0 (.int .i64 k)).set 1 (.int .i64 p)).set 2 (.bool true)).set 3 (.bool true)
   have hmF:Mod (fun x=>x=r) w4 ((((w4.setCell ⟨r,0,none⟩ (.int .i64 k)).setCell ⟨r,1,none⟩ (.int .i64 p)).setCell ⟨r,2,none⟩ (.bool true)).setCell ⟨r,3,none⟩ (.bool true)):=(((mod_setCell _ _ _ _).trans (mod_setCell _ _ _ _)).trans (mod_setCell _ _ _ _)).trans (mod_setCell _ _ _ _)
   exact bodyPost_ret (res_cell rfl rfl hbF Tryz.underlying137 rfl (by kernel_rfl)) rfl ⟨rfl,m04.trans' hmF (fun i hi e=>by omega)⟩
theorem esome_any (e:Ent) (h:e.good) (w:World):Calls Tryz.prog 191 #[.int .u64 (e.word:Nat)] w fun x w'=>x=.returned (.bool true)∧Mod (fun _=>False) w w':=by
 have hu:=fun w=>eunpack_any e h w
 unfold Ent.val at hu
 have HU:=ζh hu
 obtain ⟨W,hW⟩:∃ W,W=e.word:=⟨_,rfl⟩
 rw [←hW] at HU ⊢
 have d0:((e.kind:Int) != 0)=true:=by rw [bne_iff_ne];rcases h.1 with h | h<;>omega
 have d1:((e.kind:Int)==0)=false:=by rw [beq_eq_false_iff_ne];rcases h.1 with h | h<;>omega
 clear hu hW h
 go_enter Tryz.func191,Tryz.ntmps191
 go_wp2_with fail
 refine (HU.out _).mono ?_
 rintro x w1 ⟨rfl,hm1⟩
 go_wp2_with fail
 go_ret
 exact ⟨rfl,hm1.alloc _⟩
theorem etouch_any (e:Ent) (h:e.good) (w:World):Calls Tryz.prog 120 #[.int .u64 (e.word:Nat)] w fun x w'=>x=.returned (.int .u64 (e.touch.word:Nat))∧Mod (fun _=>False) w w':=by
 have HU:=ζh (fun w=>esome_any e h w)
 have eo:=Ent.or_tc h
 obtain ⟨W,hW⟩:∃ W,W=e.word:=⟨_,rfl⟩
 obtain ⟨W',hW'⟩:∃ W',W'=e.touch.word:=⟨_,rfl⟩
 rw [←hW] at HU eo ⊢
 rw [←hW'] at eo ⊢
 clear hW hW' h
 go_enter Tryz.func120,Tryz.ntmps120
 go_wp2_with fail
 refine (HU.out _).mono ?_
 rintro x w1 ⟨rfl,hm1⟩
 go_wp2_with fail
 go_ret
 exact ⟨rfl,hm1⟩
end Ent
end Go.Proofs.YtkfoeonggmlebaaGreatDoor
