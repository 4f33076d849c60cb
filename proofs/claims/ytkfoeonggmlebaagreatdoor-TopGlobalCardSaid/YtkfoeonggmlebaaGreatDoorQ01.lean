/-
  Contracts of the program's functions, and plain facts, towards the laws of millpondtop. No condition beyond those that each theorem bears.
-/
import Derived.WalkKit
import Derived.WalkSpells
import Derived.WalkLawsBesides
import Derived.Maps.OwnOps
import Derived.BigQuiet
import Derived.Lib.Hide
import Derived.StillTailTactics
import Derived.Deep.AppendLies
import Derived.Deep.RegionHeld3
import Derived.Deep.RegionLaw
import Derived.Handy
import Derived.Test.YtkfoeonggmlebaaGreatDoorQAA
set_option maxRecDepth 100000
set_option maxHeartbeats 4000000
namespace Go.Proofs.YtkfoeonggmlebaaGreatDoor
section
open Go.RowKit
def strOf (ns:List Int):ByteArray:=⟨(ns.map fun n=>UInt8.ofNat n.toNat).toArray⟩
theorem foldl_strOf (ns:List Int):∀ r:ByteArray,ns.foldl (fun r n=>r.push (UInt8.ofNat n.toNat)) r=⟨r.data++(ns.map fun n=>UInt8.ofNat n.toNat).toArray⟩:=by
 induction ns with
 | nil=>intro r;simp
 | cons n ns ih=>intro r;simp only [List.foldl_cons,ih];simp [ByteArray.push]
theorem run_conv_cells {P:Program} {S E D:TypeId} (hS:P.underlying S=some (.slice E)) (hE:P.underlying E=some (.int .u8)) (hD:P.underlying D=some .string)
 (w0:World) (ns:List Int) (T:TypeId) (b n:Nat) (hb:b=w0.heap.size) (hn:n=ns.length) :
 (convert S D (.slice (some ⟨b,0,none⟩) n n)).run P (w0.alloc (.cells (ns.map (Value.int .u8)).toArray T))=.ok (.string (strOf ns)) (w0.alloc (.cells (ns.map (Value.int .u8)).toArray T)):=by
 subst hb hn
 rw [run_convert_bytes_string _ S D E _ _ _ hS hE hD]
 have hl:=run_loadCells_list (P:=P) (w0.alloc (.cells (ns.map (Value.int .u8)).toArray T)) ⟨w0.heap.size,0,none⟩ (ns.map (Value.int .u8)) (fun j v hj=>by
  have:(Addr.add ⟨w0.heap.size,0,none⟩ j)=⟨w0.heap.size,j,none⟩:=by unfold Addr.add;split<;>simp_all
  rw [this,World.cell?_alloc_mark];simpa using hj)
 simp only [List.length_map] at hl
 rw [run_bytesToString _ _ _ _ _ hl,foldl_strOf]
 have he0:ByteArray.empty.data=#[]:=rfl
 rw [he0]
 simp [strOf]
theorem strOf_size (ns:List Int):(strOf ns).size=ns.length:=by simp [strOf,ByteArray.size]
structure Mod (S:Nat→Prop) (w w':World):Prop where
 os:w'.os=w.os
 tape:w'.tape=w.tape
 output:w'.output=w.output
 size:w.heap.size≤w'.heap.size
 block:∀ k,k < w.heap.size→¬ S k→w'.heap[k]?=w.heap[k]?
theorem Mod.refl (S:Nat→Prop) (w:World):Mod S w w:=⟨rfl,rfl,rfl,Nat.le_refl _,fun _ _ _=>rfl⟩
theorem Mod.trans {S:Nat→Prop} {a b c:World} (h:Mod S a b) (k:Mod S b c):Mod S a c :=
 ⟨k.os.trans h.os,k.tape.trans h.tape,k.output.trans h.output,Nat.le_trans h.size k.size,fun i hi hs=>(k.block i (Nat.lt_of_lt_of_le hi h.size) hs).trans (h.block i hi hs)⟩
theorem Mod.trans' {S S':Nat→Prop} {a b c:World} (h:Mod S a b) (k:Mod S' b c) (hs:∀ i,i < a.heap.size→S' i→S i):Mod S a c :=
 ⟨k.os.trans h.os,k.tape.trans h.tape,k.output.trans h.output,Nat.le_trans h.size k.size,fun i hi hn=>(k.block i (Nat.lt_of_lt_of_le hi h.size) (fun hc=>hn (hs i hi hc))).trans (h.block i hi hn)⟩
theorem Mod.mono {S S':Nat→Prop} {a b:World} (h:Mod S a b) (hs:∀ i,S i→S' i):Mod S' a b :=
 ⟨h.os,h.tape,h.output,h.size,fun i hi hn=>h.block i hi (fun hc=>hn (hs i hc))⟩
theorem Mod.alloc {S:Nat→Prop} {a w:World} (h:Mod S a w) (o:Obj):Mod S a (w.alloc o) :=
 h.trans ⟨rfl,rfl,rfl,by simp,fun k hk _=>Below.heap_alloc _ _ _ hk⟩
theorem Mod.setCell {S:Nat→Prop} {a w:World} (h:Mod S a w) {p:Addr} (hp:S p.block∨a.heap.size≤p.block) (u:Value):Mod S a (w.setCell p u) :=
 h.trans' (S':=fun k=>k=p.block) ⟨rfl,rfl,rfl,by simp [World.setCell],fun k _ hn=>Below.heap_setCell _ _ _ _ hn⟩ (fun i hi he=>by
  subst he;rcases hp with hp | hp
  · exact hp
  · omega)
theorem mod_setCell (w:World) (b j:Nat) (v:Value):Mod (fun k=>k=b) w (w.setCell ⟨b,j,.none⟩ v) :=
 Mod.setCell (S:=fun k=>k=b) (p:=⟨b,j,.none⟩) (Mod.refl (fun k=>k=b) w) (.inl rfl) v
theorem Mod.drew {S:Nat→Prop} {a w:World} (h:Mod S a w):Mod S a w.drew:=⟨h.os,h.tape,h.output,h.size,h.block⟩
theorem Mod.drewN {S:Nat→Prop} {a w:World} (h:Mod S a w) (n:Nat):Mod S a (w.drewN n):=by
 induction n with
 | zero=>exact ⟨h.os,h.tape,h.output,h.size,h.block⟩
 | succ n _=>exact ⟨h.os,h.tape,h.output,h.size,h.block⟩
theorem Mod.grown {S:Nat→Prop} {a w w':World} {row:Option Nat} (h:Mod S a w) (hg:w.grownBy w' row) (hr:∀ k,row=some k→S k∨a.heap.size≤k):Mod S a w' :=
 h.trans' (S':=fun k=>some k=row) ⟨hg.os,hg.tape,hg.output,hg.size,fun k hk hn=>hg.block k hk hn⟩ (fun i hi he=>by
  rcases hr i he.symm with h | h
  · exact h
  · omega)
theorem Mod.below {S:Nat→Prop} {a w:World} (h:Mod S a w) (B:Nat) (hB:B≤a.heap.size) (hs:∀ i,i < B→¬ S i):Below B a w :=
 ⟨h.os,h.tape,h.output,h.size,fun k hk=>h.block k (by omega) (hs k hk)⟩
theorem Mod.ofBelow {S:Nat→Prop} {a w:World} (h:Below a.heap.size a w):Mod S a w :=
 ⟨h.os,h.tape,h.output,h.size,fun k hk _=>h.block k hk⟩
theorem Mod.none {a w:World} (h:Mod (fun _=>False) a w):Below a.heap.size a w :=
 ⟨h.os,h.tape,h.output,h.size,fun k hk=>h.block k hk (fun x=>x)⟩
theorem Mod.cell {S:Nat→Prop} {a w:World} (h:Mod S a w) {p:Addr} (hp:p.block < a.heap.size) (hs:¬ S p.block):w.cell? p=a.cell? p :=
 World.cell?_of_block (w:=a) (h.block p.block hp hs)
theorem Mod.frozen {S:Nat→Prop} {a w:World} (h:Mod S a w) {p:Addr} (hp:p.block < a.heap.size) (hs:¬ S p.block):w.frozen? p=a.frozen? p :=
 World.frozen?_of_block (w:=a) (h.block p.block hp hs)
def Blk (w:World) (b:Nat) (cs:Array Value) (T:TypeId):Prop:=w.heap[b]?=some (.cells cs T (0,0))
theorem Blk.lt {w:World} {b:Nat} {cs:Array Value} {T:TypeId} (h:Blk w b cs T):b < w.heap.size:=(Array.getElem?_eq_some_iff.1 h).1
theorem Blk.cell {w:World} {b:Nat} {cs:Array Value} {T:TypeId} (h:Blk w b cs T) (j:Nat):w.cell? ⟨b,j,none⟩=cs[j]?:=by
 unfold Blk at h
 simp [World.cell?,h]
theorem Blk.frozen {w:World} {b:Nat} {cs:Array Value} {T:TypeId} (h:Blk w b cs T) (j:Nat):w.frozen? ⟨b,j,none⟩=false:=by
 unfold Blk at h
 simp [World.frozen?,h]
theorem Blk.keep {S:Nat→Prop} {w w':World} {b:Nat} {cs:Array Value} {T:TypeId} (h:Blk w b cs T) (hm:Mod S w w') (hs:¬ S b):Blk w' b cs T:=by
 unfold Blk;rw [hm.block b h.lt hs];exact h
theorem Blk.alloc {w:World} {b:Nat} {cs:Array Value} {T:TypeId} (h:Blk w b cs T) (o:Obj):Blk (w.alloc o) b cs T :=
 h.keep (Mod.alloc (Mod.refl (fun _=>False) w) o) (fun x=>x)
theorem Blk.new (w:World) (cs:Array Value) (T:TypeId):Blk (w.alloc (.cells cs T)) w.heap.size cs T:=heap_alloc_new w _
theorem Blk.set {w:World} {b:Nat} {cs:Array Value} {T:TypeId} (h:Blk w b cs T) (j:Nat) (v:Value):Blk (w.setCell ⟨b,j,none⟩ v) b (cs.setIfInBounds j v) T :=
 heap_setCell_same w b j cs T v h
theorem Blk.setOther {w:World} {b:Nat} {cs:Array Value} {T:TypeId} (h:Blk w b cs T) (p:Addr) (v:Value) (hp:b≠p.block):Blk (w.setCell p v) b cs T:=by
 unfold Blk;rw [Below.heap_setCell _ _ _ _ hp];exact h
theorem quiet_same {P:Program} {f:FuncId} {args:Array Value} {w:World} {n:Nat} {v:Value}
 (h:Calls P f args (w.drewN n) fun e w'=>e=.returned v∧w.drewN n=w'):Calls P f args (w.drewN n) fun e w''=>e=.returned v∧∃ m,w''=w.drewN m :=
 h.mono fun _ _ ⟨he,hm⟩=>⟨he,n,hm.symm⟩
theorem Mod.drewN' (S:Nat→Prop) (w:World) (n:Nat):Mod S w (w.drewN n):=(Mod.refl S w).drewN n
theorem Mod.alloc' (S:Nat→Prop) (w:World) (o:Obj):Mod S w (w.alloc o):=(Mod.refl S w).alloc o
theorem ownsRow_keep {S:Nat→Prop} {w w':World} {base e size n:Nat} {v:Value} {xs:List Value} (h:w.ownsRow base e size v n xs) (hm:Mod S w w') (hs:∀ g,v.ownBlock=some g→¬ S g):w'.ownsRow base e size v n xs:=by
 refine ⟨h.1,?_⟩
 rcases h.2 with h2 | ⟨g,cap,cur,hv,hg,hh,r⟩
 · exact .inl h2
 · refine .inr ⟨g,cap,cur,hv,hg,?_,r⟩
   rw [hm.block g (Array.getElem?_eq_some_iff.1 hh).1 (hs g (by rw [hv];rfl))];exact hh
theorem ownsRow_ne_blk {w:World} {base e size n:Nat} {v:Value} {xs:List Value} (h:w.ownsRow base e size v n xs) {b T:Nat} {cs:Array Value} (hb:Blk w b cs T) (hT:e≠T):∀ g,v.ownBlock=some g→g≠b:=by
 intro g hg
 rcases h.2 with ⟨rfl,_⟩ | ⟨g',cap,cur,rfl,_,hh,_⟩
 · cases hg
 · injection hg with hg
   rintro rfl
   simp only at hg
   subst hg
   unfold Blk at hb
   rw [hh] at hb
   injection hb with hb
   injection hb with _ h2
   exact hT h2
theorem ownsRow_ne_map {w:World} {base e size n:Nat} {v:Value} {xs:List Value} (h:w.ownsRow base e size v n xs) {b c:Nat} {es:Array MapEntry} (hb:w.heap[b]?=some (.map es c)):∀ g,v.ownBlock=some g→g≠b:=by
 intro g hg
 rcases h.2 with ⟨rfl,_⟩ | ⟨g',cap,cur,rfl,_,hh,_⟩
 · cases hg
 · injection hg with hg
   rintro rfl
   simp only at hg
   subst hg
   rw [hh] at hb
   cases hb
theorem ownsRow_base {w:World} {base base' e size n:Nat} {v:Value} {xs:List Value} (h:w.ownsRow base e size v n xs) (hb:base'≤base):w.ownsRow base' e size v n xs:=by
 refine ⟨h.1,?_⟩
 rcases h.2 with h2 | ⟨g,cap,cur,hv,hg,r⟩
 · exact .inl h2
 · exact .inr ⟨g,cap,cur,hv,Nat.le_trans hb hg,r⟩
theorem ownsRow_ge {w:World} {base e size n:Nat} {v:Value} {xs:List Value} (h:w.ownsRow base e size v n xs):∀ g,v.ownBlock=some g→base≤g:=by
 intro g hg
 rcases h.2 with ⟨rfl,_⟩ | ⟨g',cap,cur,rfl,hb,_⟩
 · cases hg
 · injection hg with hg
   simp only at hg
   omega
theorem ownsRow_lt {w:World} {base e size n:Nat} {v:Value} {xs:List Value} (h:w.ownsRow base e size v n xs):∀ g,v.ownBlock=some g→g < w.heap.size:=by
 intro g hg
 rcases h.2 with ⟨rfl,_⟩ | ⟨g',cap,cur,rfl,_,hh,_⟩
 · cases hg
 · injection hg with hg
   simp only at hg
   subst hg
   exact (Array.getElem?_eq_some_iff.1 hh).1
def IntsAt (w:World) (v:Value) (ns:List Int):Prop :=
 ∃ a cap,v=.slice a ns.length cap∧ns.length≤cap∧cap≤maxLen∧∀ (j:Nat),j < ns.length→∃ b off,a=some ⟨b,off,none⟩∧w.cell? ⟨b,off+j,none⟩=some (.int .i64 (ns.getD j 0))
theorem lt_of_cell {w:World} {b o:Nat} {v:Value} (h:w.cell? ⟨b,o,none⟩=some v):b < w.heap.size:=by
 unfold World.cell? at h
 cases hb:w.heap[b]? with
 | none=>simp [hb] at h
 | some x=>exact (Array.getElem?_eq_some_iff.1 hb).1
theorem IntsAt.keep {S:Nat→Prop} {w w':World} {v:Value} {ns:List Int} (h:IntsAt w v ns) (hm:Mod S w w') (hs:∀ b,b < w.heap.size→¬ S b):IntsAt w' v ns:=by
 obtain ⟨a,cap,h1,h2,h3,h4⟩:=h
 refine ⟨a,cap,h1,h2,h3,fun j hj=>?_⟩
 obtain ⟨b,off,h5,h6⟩:=h4 j hj
 refine ⟨b,off,h5,?_⟩
 rw [hm.cell (lt_of_cell h6) (hs b (lt_of_cell h6))]
 exact h6
theorem Blk.ne {w:World} {b b' T T':Nat} {cs cs':Array Value} (h:Blk w b cs T) (h':Blk w b' cs' T') (hT:T≠T'):b≠b':=by
 rintro rfl
 unfold Blk at h h'
 rw [h] at h'
 injection h' with h'
 injection h' with _ h2
 exact hT h2
theorem ownsRow_form {w:World} {base e size n:Nat} {v:Value} {xs:List Value} (h:w.ownsRow base e size v n xs):∃ a c,v=.slice a n c:=by
 rcases h.2 with ⟨rfl,rfl⟩ | ⟨g,cap,cur,rfl,_⟩
 · exact ⟨_,_,rfl⟩
 · exact ⟨_,_,rfl⟩
section
variable {P:Program} {ops:Array Oper} {rest:List Oper} {o:Oper} {a:Act} {Q:Exit→Act→World→Prop} {w w':World}
end
section
variable {P:Program} {ops:Array Oper} {rest:List Oper} {o:Oper} {a:Act} {Q:Exit→Act→World→Prop} {w:World}
theorem Mod.ofGrown {w w':World} {row:Option Nat} (hg:w.grownBy w' row):Mod (fun k=>some k=row) w w':=(Mod.refl _ w).grown hg (fun _ h=>.inl h.symm)
theorem wpList_app (hgd:o.guard=none) (s x:Operand) (t:TypeId) (ho:o.op=.call { callee:=.builtin .append,args:=#[s,x],argTypes:=#[t,t] })
 (base:Nat) (e:TypeId) (z:Value) (size bytes:Nat) (ht:P.underlying t=some (.slice e)) (hi:(P.info? e).map (fun i=>(i.zero,i.size,i.bytes))=some (some z,size,bytes))
 (hzs:z.cells.size=size) (hsz:0 < size) (hby:bytes≤1000)
 (v:Value) (n:Nat) (xs:List Value) (hs:a.eval s=v) (hown:w.ownsRow base e size v n xs)
 (ad:Addr) (c:Nat) (news:List Value) (hx:a.eval x=.slice (some ad) 1 c) (hl:news.length=size) (hnews:∀ j u,news[j]?=some u→w.cell? (ad.add j)=some u) (h1:∀ u∈news,u.oneCell'=true)
 (hn:n≤1000000000) (hbase:base≤w.heap.size)
 (h:∀ g cap w',w'.ownsRow base e size (.slice (some ⟨g,0,none⟩) (n+1) cap) (n+1) (xs++news)→Mod (fun k=>some k=v.ownBlock) w w'→(v.ownBlock=some g∨g=w.heap.size)→g < w'.heap.size →
   wpList P ops Q rest (a.put o.dst (.slice (some ⟨g,0,none⟩) (n+1) cap)) w'):wpList P ops Q (o::rest) a w:=by
 obtain ⟨i,hi1,hz,h2,h3⟩:=info_parts hi
 refine wpList_append_lies w hgd s x t ho base e i z size bytes ht hi1 hz h2 h3 hzs hsz v n xs hs hown ad 1 c news hx (by omega) hnews h1 (by omega) (by unfold maxLen;omega) ?_ hbase w.heap.size rfl ?_
 · have:(n+1) * bytes≤(1000000000+1) * 1000:=Nat.mul_le_mul (by omega) hby
   omega
 · intro g cap w' h4 h5 h6 h7
   exact h g cap w' h4 (Mod.ofGrown h5) h6 h7
end
theorem step_app {P:Program} {w:World} {ops:Array Oper} {o:Oper} {a:Act} {K:Act→World→Prop} {Q:Exit→Act→World→Prop} {E:Prop} (hgd:o.guard=none) (s x:Operand) (t:TypeId)
 (ho:o.op=.call { callee:=.builtin .append,args:=#[s,x],argTypes:=#[t,t] })
 (base:Nat) (e:TypeId) (z:Value) (size bytes:Nat) (ht:P.underlying t=some (.slice e)) (hi:(P.info? e).map (fun i=>(i.zero,i.size,i.bytes))=some (some z,size,bytes))
 (hzs:z.cells.size=size) (hsz:0 < size) (hby:bytes≤1000)
 (v:Value) (n:Nat) (xs:List Value) (hs:a.eval s=v) (hown:w.ownsRow base e size v n xs)
 (ad:Addr) (c:Nat) (news:List Value) (hx:a.eval x=.slice (some ad) 1 c) (hl:news.length=size) (hnews:∀ j u,news[j]?=some u→w.cell? (ad.add j)=some u) (h1:∀ u∈news,u.oneCell'=true)
 (hn:n≤1000000000) (hbase:base≤w.heap.size)
 (h:∀ g cap w',w'.ownsRow base e size (.slice (some ⟨g,0,none⟩) (n+1) cap) (n+1) (xs++news)→Mod (fun k=>some k=v.ownBlock) w w'→(v.ownBlock=some g∨g=w.heap.size)→g < w'.heap.size →
   K (a.put o.dst (.slice (some ⟨g,0,none⟩) (n+1) cap)) w') :
 if Region.wanted o (yielded ops a.tmps)=true then Oper.wp P o a w K Q else E:=by
 obtain ⟨i,hi1,hz,h2,h3⟩:=info_parts hi
 refine step_append_lies w hgd s x t ho base e i z size bytes ht hi1 hz h2 h3 hzs hsz v n xs hs hown ad 1 c news hx (by omega) hnews h1 (by omega) (by unfold maxLen;omega) ?_ hbase w.heap.size rfl ?_
 · have:(n+1) * bytes≤(1000000000+1) * 1000:=Nat.mul_le_mul (by omega) hby
   omega
 · intro g cap w' h4 h5 h6 h7
   exact h g cap w' h4 (Mod.ofGrown h5) h6 h7
theorem flat_get {α:Type} {ec:α→List Value} {sz:Nat} (hlen:∀ x,(ec x).length=sz):∀ (l:List α) (j i:Nat),i < sz→(l.flatMap ec)[j * sz+i]?=(l[j]?).bind fun x=>(ec x)[i]?:=by
 intro l
 induction l with
 | nil=>intro j i _;simp
 | cons x l ih =>
   intro j i hi
   rw [List.flatMap_cons]
   cases j with
   | zero=>rw [Nat.zero_mul,Nat.zero_add,List.getElem?_append_left (by rw [hlen];exact hi)];rfl
   | succ j =>
     rw [Nat.succ_mul,List.getElem?_append_right (by rw [hlen];omega),hlen,show j * sz+sz+i - sz=j * sz+i from by omega,ih j i hi]
     rfl
theorem flat_len {α:Type} {ec:α→List Value} {sz:Nat} (hlen:∀ x,(ec x).length=sz) (l:List α):(l.flatMap ec).length=l.length * sz:=by
 induction l with
 | nil=>simp
 | cons x l ih=>rw [List.flatMap_cons,List.length_append,hlen,ih,List.length_cons,Nat.succ_mul];omega
structure KV (κ:Type) where
 key:κ
 val:Value
 born:Nat
def findIx {κ:Type} [DecidableEq κ] (k:κ):List (KV κ)→Nat→Option (Nat × Value)
 | [],_=>none
 | e::l,i=>if k=e.key then some (i,e.val) else findIx k l (i+1)
def getKV {κ:Type} [DecidableEq κ] (k:κ):List (KV κ)→Option Value
 | []=>none
 | e::l=>if k=e.key then some e.val else getKV k l
def putKV {κ:Type} [DecidableEq κ] (k:κ) (v:Value) (c:Nat):List (KV κ)→List (KV κ)
 | []=>[⟨k,v,c⟩]
 | e::l=>if k=e.key then ⟨k,v,e.born⟩::l else e::putKV k v c l
def dropKV {κ:Type} [DecidableEq κ] (k:κ):List (KV κ)→List (KV κ)
 | []=>[]
 | e::l=>if k=e.key then l else e::dropKV k l
def hasKV {κ:Type} [DecidableEq κ] (k:κ) (l:List (KV κ)):Bool:=(getKV k l).isSome
theorem getKV_mem {κ:Type} [DecidableEq κ] {k:κ} {l:List (KV κ)} {v:Value} (h:getKV k l=some v):∃ e∈l,e.val=v:=by
 induction l with
 | nil=>simp [getKV] at h
 | cons e l ih =>
   simp only [getKV] at h
   split at h
   · exact ⟨e,List.mem_cons_self,by simpa using h⟩
   · obtain ⟨x,hx,hv⟩:=ih h
     exact ⟨x,List.mem_cons_of_mem _ hx,hv⟩
def entKV {κ:Type} (ek:κ→Value) (e:KV κ):MapEntry:={ key:=ek e.key,val:=e.val,born:=e.born }
structure MKey (P:Program) (kt:TypeId) {κ:Type} [DecidableEq κ] (ek:κ→Value):Prop where
 check:∀ em k w,(Instr.checkKey em 10000 kt (ek k)).run P w=.ok () w
 find:∀ (l:List (KV κ)) k w,(Instr.findKey kt (ek k) (l.map (entKV ek))).run P w=.ok (findIx k l 0) w
 bits:∀ k,Instr.sameBits 10000 (ek k) (ek k)=true
def MapIs {κ:Type} (ek:κ→Value) (w:World) (b:Nat) (l:List (KV κ)) (c:Nat):Prop:=w.heap[b]?=some (.map (l.map (entKV ek)).toArray c)
theorem MapIs.lt {κ:Type} {ek:κ→Value} {w:World} {b:Nat} {l:List (KV κ)} {c:Nat} (h:MapIs ek w b l c):b < w.heap.size:=(Array.getElem?_eq_some_iff.1 h).1
theorem MapIs.keep {κ:Type} {ek:κ→Value} {S:Nat→Prop} {w w':World} {b:Nat} {l:List (KV κ)} {c:Nat} (h:MapIs ek w b l c) (hm:Mod S w w') (hs:¬ S b):MapIs ek w' b l c:=by
 unfold MapIs;rw [hm.block b h.lt hs];exact h
theorem MapIs.ne {κ:Type} {ek:κ→Value} {w:World} {b b':Nat} {l:List (KV κ)} {c:Nat} {cs:Array Value} {T:TypeId} (h:MapIs ek w b l c) (h':Blk w b' cs T):b≠b':=by
 rintro rfl
 unfold MapIs at h;unfold Blk at h'
 rw [h] at h';cases h'
theorem findIx_val {κ:Type} [DecidableEq κ] (k:κ) (l:List (KV κ)):∀ i,(findIx k l i).map (·.2)=getKV k l:=by
 induction l with
 | nil=>intro i;rfl
 | cons e l ih=>intro i;simp only [findIx,getKV];split<;>simp [ih]
theorem findIx_ge {κ:Type} [DecidableEq κ] (k:κ) (l:List (KV κ)):∀ i r,findIx k l i=some r→i≤r.1:=by
 induction l with
 | nil=>intro i r h;simp [findIx] at h
 | cons e l ih =>
   intro i r h
   simp only [findIx] at h
   split at h
   · simp only [Option.some.injEq] at h;subst h;exact Nat.le_refl _
   · have:=ih _ _ h;omega
theorem putKV_none {κ:Type} [DecidableEq κ] (k:κ) (v:Value) (c:Nat) (l:List (KV κ)):∀ i,findIx k l i=none→putKV k v c l=l++[⟨k,v,c⟩]:=by
 induction l with
 | nil=>intro i _;rfl
 | cons e l ih =>
   intro i h
   simp only [findIx] at h
   split at h
   · simp at h
   · rename_i hn;simp only [putKV,hn,if_false,ih _ h,List.cons_append]
theorem putKV_some {κ:Type} [DecidableEq κ] (ek:κ→Value) (k:κ) (v:Value) (c:Nat) (l:List (KV κ)):∀ i r,findIx k l i=some r →
 ((l.map (entKV ek)).modify (r.1 - i) fun e=>{ e with key:=ek k,val:=v })=(putKV k v c l).map (entKV ek):=by
 induction l with
 | nil=>intro i r h;simp [findIx] at h
 | cons e l ih =>
   intro i r h
   have hge:=findIx_ge k _ _ _ h
   simp only [findIx] at h
   split at h
   · rename_i hk
     simp only [Option.some.injEq] at h;subst h
     simp [putKV,hk,entKV]
   · rename_i hk
     have h1:=ih _ _ h
     have h2:=findIx_ge k _ _ _ h
     have e1:r.1 - i=(r.1 - (i+1))+1:=by omega
     simp only [putKV,hk,if_false,List.map_cons]
     rw [e1,List.modify_succ_cons,h1]
theorem dropKV_some {κ:Type} [DecidableEq κ] (ek:κ→Value) (k:κ) (l:List (KV κ)):∀ i r,findIx k l i=some r→(l.map (entKV ek)).eraseIdx (r.1 - i)=(dropKV k l).map (entKV ek):=by
 induction l with
 | nil=>intro i r h;simp [findIx] at h
 | cons e l ih =>
   intro i r h
   have hge:=findIx_ge k _ _ _ h
   simp only [findIx] at h
   split at h
   · rename_i hk
     simp only [Option.some.injEq] at h;subst h
     simp [dropKV,hk]
   · rename_i hk
     have h1:=ih _ _ h
     have h2:=findIx_ge k _ _ _ h
     have e1:r.1 - i=(r.1 - (i+1))+1:=by omega
     simp only [dropKV,hk,if_false,List.map_cons]
     rw [e1,List.eraseIdx_cons_succ,h1]
theorem dropKV_none {κ:Type} [DecidableEq κ] (k:κ) (l:List (KV κ)):∀ i,findIx k l i=none→dropKV k l=l:=by
 induction l with
 | nil=>intro i _;rfl
 | cons e l ih =>
   intro i h
   simp only [findIx] at h
   split at h
   · simp at h
   · rename_i hn;simp only [dropKV,hn,if_false,ih _ h]
theorem mod_setB (w:World) (b:Nat) (o:Obj):Mod (fun i=>i=b) w { w with heap:=w.heap.setIfInBounds b o } :=
 ⟨rfl,rfl,rfl,by simp,fun j _ hj=>by
  show (w.heap.setIfInBounds b o)[j]?=_
  rw [Array.getElem?_setIfInBounds,if_neg (fun x=>hj x.symm)]⟩
section
variable {P:Program} {kt vt mt:TypeId} {κ:Type} [DecidableEq κ] {ek:κ→Value} {w:World} {b:Nat} {l:List (KV κ)} {c:Nat}
theorem run_lookup_ok (K:MKey P kt ek) (ht:P.underlying mt=some (.map kt vt)) {z:Value} (hz:(zeroValue vt).run P w=.ok z w) (h:MapIs ek w b l c) (k:κ) :
 (Instr.lookup mt (.map (some b)) (ek k) true).run P w=.ok (.tuple #[(getKV k l).getD z,.bool (hasKV k l)]) w:=by
 unfold MapIs at h
 have hv:=findIx_val k l 0
 unfold hasKV
 rw [←hv]
 cases hf:findIx k l 0 with
 | none=>simp [Instr.lookup,run_underlying ht,MapKept.run_getObj_map h,Result.andThen,K.check,K.find,hf,hz]
 | some r=>simp [Instr.lookup,run_underlying ht,MapKept.run_getObj_map h,Result.andThen,K.check,K.find,hf]
theorem run_lookup_one (K:MKey P kt ek) (ht:P.underlying mt=some (.map kt vt)) {z:Value} (hz:(zeroValue vt).run P w=.ok z w) (h:MapIs ek w b l c) (k:κ) :
 (Instr.lookup mt (.map (some b)) (ek k) false).run P w=.ok ((getKV k l).getD z) w:=by
 unfold MapIs at h
 have hv:=findIx_val k l 0
 rw [←hv]
 cases hf:findIx k l 0 with
 | none=>simp [Instr.lookup,run_underlying ht,MapKept.run_getObj_map h,Result.andThen,K.check,K.find,hf,hz]
 | some r=>simp [Instr.lookup,run_underlying ht,MapKept.run_getObj_map h,Result.andThen,K.check,K.find,hf]
theorem run_mapUpdate (K:MKey P kt ek) (ht:P.underlying mt=some (.map kt vt)) (h:MapIs ek w b l c) (k:κ) (v:Value) :
 ∃ w' c',(Instr.mapUpdate mt (.map (some b)) (ek k) v).run P w=.ok () w'∧MapIs ek w' b (putKV k v c l) c'∧Mod (fun i=>i=b) w w'∧w'.heap.size=w.heap.size:=by
 have hb:=h
 unfold MapIs at hb
 cases hf:findIx k l 0 with
 | none =>
   refine ⟨{ w with heap:=w.heap.setIfInBounds b (.map ((l.map (entKV ek)).toArray.push { key:=ek k,val:=v,born:=c }) (c+1)) },c+1,?_,?_,mod_setB _ _ _,by simp⟩
   · simp only [Instr.mapUpdate,Sem.run_bind,run_underlying ht,MapKept.run_getObj_map hb,Result.andThen,K.check,K.find,hf]
     exact MapKept.run_setObj_map _ hb
   unfold MapIs
   rw [putKV_none k v c l 0 hf]
   simp [h.lt,entKV]
 | some r =>
   have hp:=putKV_some ek k v c l 0 r hf
   rw [Nat.sub_zero] at hp
   have hkey:∀ (es:List (KV κ)) i r,findIx k es i=some r→((es.map (entKV ek))[r.1 - i]?).map (·.key)=some (ek k):=by
    intro es
    induction es with
    | nil=>intro i r h;simp [findIx] at h
    | cons e es ih =>
      intro i r h
      have h2:=h
      simp only [findIx] at h
      split at h
      · rename_i hk;simp only [Option.some.injEq] at h;subst h;simp [entKV,hk]
      · have h3:=ih _ _ h
        have h4:=findIx_ge k _ _ _ h
        have e1:r.1 - i=(r.1 - (i+1))+1:=by omega
        rw [e1];simpa using h3
   have hk:=hkey l 0 r hf
   rw [Nat.sub_zero] at hk
   have hk':(((l.map (entKV ek)).toArray[r.1]?).map (·.key)).getD (ek k)=ek k:=by
    rw [ζa,hk];rfl
   refine ⟨{ w with heap:=w.heap.setIfInBounds b (.map ((l.map (entKV ek)).toArray.modify r.1 fun e=>{ e with key:=ek k,val:=v }) c) },c,?_,?_,mod_setB _ _ _,by simp⟩
   · simp only [Instr.mapUpdate,Sem.run_bind,run_underlying ht,MapKept.run_getObj_map hb,Result.andThen,K.check,K.find,hf,hk',Instr.keyThatStays,K.bits,if_true,Sem.run_pure]
     exact MapKept.run_setObj_map _ hb
   unfold MapIs
   simp [h.lt]
   exact hp
theorem run_delete (K:MKey P kt ek) (ht:P.underlying mt=some (.map kt vt)) (h:MapIs ek w b l c) (k:κ) (ty:TypeId) :
 ∃ w',(Builtin.delete_ #[mt,kt] ty #[.map (some b),ek k]).run P w=.ok (.tuple #[]) w'∧MapIs ek w' b (dropKV k l) c∧Mod (fun i=>i=b) w w'∧w'.heap.size=w.heap.size:=by
 have hb:=h
 unfold MapIs at hb
 cases hf:findIx k l 0 with
 | none =>
   refine ⟨{ w with heap:=w.heap.setIfInBounds b (.map (l.map (entKV ek)).toArray c) },by simp [Builtin.delete_,run_underlying ht,MapKept.run_getObj_map hb,Result.andThen,K.check,K.find,hf,MapKept.run_setObj_map _ hb],?_,mod_setB _ _ _,by simp⟩
   unfold MapIs
   rw [dropKV_none k l 0 hf]
   simp [h.lt]
 | some r =>
   have hp:=dropKV_some ek k l 0 r hf
   rw [Nat.sub_zero] at hp
   refine ⟨{ w with heap:=w.heap.setIfInBounds b (.map ((l.map (entKV ek)).toArray.eraseIdxIfInBounds r.1) c) },?_,?_,mod_setB _ _ _,by simp⟩
   · simp only [Builtin.delete_,Sem.run_bind,run_underlying ht,MapKept.run_getObj_map hb,Result.andThen,K.check,K.find,hf,MapKept.run_setObj_map _ hb,Sem.run_pure,ζa,ζb,ζc]
   unfold MapIs
   simp [h.lt]
   exact hp
end
def ekInt (n:Int):Value:=.int .i64 n
def ekTwo (p:Int × Int):Value:=.agg #[.int .i64 p.1,.int .i64 p.2]
theorem findKey_asking {P:Program} {kt:TypeId} {κ:Type} [DecidableEq κ] {ek:κ→Value} (heq:∀ a b w,(Op.equal kt (ek a) (ek b)).run P w=.ok (decide (a=b)) w) :
 ∀ (l:List (KV κ)) k i w,(Instr.findAsking kt (ek k) (l.map (entKV ek)) i).run P w=.ok (findIx k l i) w:=by
 intro l
 induction l with
 | nil=>intro k i w;simp [Instr.findAsking,findIx]
 | cons e l ih =>
   intro k i w
   simp only [List.map_cons,Instr.findAsking,Sem.run_bind,entKV,heq,Result.andThen,findIx]
   by_cases h:k=e.key
   · simp [h]
   · simp only [h,decide_false,Bool.false_eq_true,if_false];exact ih _ _ _
theorem run_checkKey_int {P:Program} {kt:TypeId} {q:IntKind} (ht:P.underlying kt=some (.int q)) (em:Bool) (n:Nat) (x:Int) (w:World):(Instr.checkKey em (n+1) kt (.int .i64 x)).run P w=.ok () w:=by
 unfold Instr.checkKey;simp only [Sem.run_bind,run_underlying ht,Result.andThen];rfl
theorem mkey_int {P:Program} {kt:TypeId} (ht:P.underlying kt=some (.int .i64)):MKey P kt ekInt where
 check em k w:=by unfold Instr.checkKey;simp only [Sem.run_bind,run_underlying ht,Result.andThen,ekInt];rfl
 bits k:=by simp [ekInt,Instr.sameBits]
 find l k w:=by
  have h:∀ (l:List (KV Int)) k i,Instr.findNow (.int .i64) (ekInt k) (l.map (entKV ekInt)) i=some (findIx k l i):=by
   intro l
   induction l with
   | nil=>intro k i;rfl
   | cons e l ih =>
     intro k i
     simp only [List.map_cons,Instr.findNow,entKV,ekInt,Instr.sameNow,if_true,findIx]
     by_cases h:k=e.key
     · simp [h]
     · have h':(k==e.key)=false:=by simp [h]
       simp only [h',h,if_false];exact ih _ _
  simp only [Instr.findKey,Sem.run_bind,run_underlying ht,Result.andThen,h,Sem.run_pure]
theorem mkey_two {P:Program} {kt:TypeId} (heq:∀ a b w,(Op.equal kt (ekTwo a) (ekTwo b)).run P w=.ok (decide (a=b)) w) {fs:Array Field} (ht:P.underlying kt=some (.struct fs))
 (hc:∀ em k w,(Instr.checkKey em 10000 kt (ekTwo k)).run P w=.ok () w):MKey P kt ekTwo where
 check:=hc
 bits k:=by simp [ekTwo,Instr.sameBits]
 find l k w:=by
  cases l with
  | nil=>simp [Instr.findKey,run_underlying ht,Instr.findNow,findIx,Result.andThen]
  | cons e l =>
    have h0:Instr.findNow (.struct fs) (ekTwo k) ((e::l).map (entKV ekTwo)) 0=none:=by simp [Instr.findNow,Instr.sameNow]
    simp only [Instr.findKey,Sem.run_bind,run_underlying ht,Result.andThen,h0]
    exact findKey_asking heq (e::l) k 0 w
end

section
open Go.RowKit
theorem Mod.keeps {S:Nat→Prop} {a w:World} (h:Mod S a w) {b o:Nat} {v:Value} (hc:a.cell? ⟨b,o,.none⟩=some v) (hs:¬ S b):w.cell? ⟨b,o,.none⟩=some v:=by
 rw [h.cell (lt_of_cell hc) hs];exact hc
end

section
open Go.RowKit
theorem ownsRow_put' {w:World} {base T size n g c:Nat} {xs:List Value} (h:w.ownsRow base T size (.slice (some ⟨g,0,none⟩) n c) n xs) (i:Nat) (u:Value) :
 (w.setCell ⟨g,i,none⟩ u).ownsRow base T size (.slice (some ⟨g,0,none⟩) n c) n (xs.set i u):=by
 rcases id h.2 with ⟨h0,_⟩ | ⟨g',cap,cur,hv,hb,hg,h1,h2,h3,h4⟩
 · cases h0
 · injection hv with e1 e2 e3
   injection e1 with e1
   injection e1 with e1 _ _
   subst e1 e3
   refine ⟨by rw [List.length_set];exact h.1,.inr ⟨_,_,cur.setIfInBounds i u,rfl,hb,heap_setCell_same w _ i cur T u hg,h1,h2,by rw [Array.size_setIfInBounds];exact h3,?_⟩⟩
   rw [Array.toList_setIfInBounds,←h4,List.take_set]
theorem frozen_row' {w:World} {base T size n g c:Nat} {xs:List Value} (h:w.ownsRow base T size (.slice (some ⟨g,0,none⟩) n c) n xs) (i:Nat):w.frozen? ⟨g,i,none⟩=false:=by
 rcases id h.2 with ⟨h0,_⟩ | ⟨g',cap,cur,hv,hb,hg,h1,h2,h3,h4⟩
 · cases h0
 · injection hv with e1 e2 e3
   injection e1 with e1
   injection e1 with e1 _ _
   subst e1
   exact Blk.frozen (w:=w) (cs:=cur) (T:=T) hg i
theorem wrapU (n:Nat) (hn:n < 2 ^ 64):IntKind.u64.wrap (n:Int)=(n:Int):=by
 rw [IntKind.wrap_u64]
 omega
theorem ofIntNat (n a:Nat):(BitVec.ofInt n (a:Int)).toNat=a%2 ^ n:=by
 rw [BitVec.ofInt_natCast,BitVec.toNat_ofNat]
theorem and_u (a b:Nat) (ha:a < 2 ^ 64) (hb:b < 2 ^ 64):bits .and .u64 (a:Int) (b:Int)=((a &&& b:Nat):Int):=by
 unfold bits
 show IntKind.u64.wrap (((BitVec.ofInt 64 (a:Int) &&& BitVec.ofInt 64 (b:Int)).toNat:Nat):Int)=_
 rw [BitVec.toNat_and,ofIntNat,ofIntNat,Nat.mod_eq_of_lt ha,Nat.mod_eq_of_lt hb]
 exact wrapU _ (Nat.and_lt_two_pow _ hb)
theorem xor_u (a b:Nat) (ha:a < 2 ^ 64) (hb:b < 2 ^ 64):bits .xor .u64 (a:Int) (b:Int)=((a ^^^ b:Nat):Int):=by
 unfold bits
 show IntKind.u64.wrap (((BitVec.ofInt 64 (a:Int) ^^^ BitVec.ofInt 64 (b:Int)).toNat:Nat):Int)=_
 rw [BitVec.toNat_xor,ofIntNat,ofIntNat,Nat.mod_eq_of_lt ha,Nat.mod_eq_of_lt hb]
 exact wrapU _ (Nat.xor_lt_two_pow ha hb)
theorem or_u (a b:Nat) (ha:a < 2 ^ 64) (hb:b < 2 ^ 64):bits .or .u64 (a:Int) (b:Int)=((a ||| b:Nat):Int):=by
 unfold bits
 show IntKind.u64.wrap (((BitVec.ofInt 64 (a:Int) ||| BitVec.ofInt 64 (b:Int)).toNat:Nat):Int)=_
 rw [BitVec.toNat_or,ofIntNat,ofIntNat,Nat.mod_eq_of_lt ha,Nat.mod_eq_of_lt hb]
 exact wrapU _ (Nat.or_lt_two_pow ha hb)
theorem and_i (a b:Nat) (ha:a < 2 ^ 63) (hb:b < 2 ^ 63):bits .and .i64 (a:Int) (b:Int)=((a &&& b:Nat):Int):=by
 unfold bits
 show IntKind.i64.wrap (((BitVec.ofInt 64 (a:Int) &&& BitVec.ofInt 64 (b:Int)).toNat:Nat):Int)=_
 rw [BitVec.toNat_and,ofIntNat,ofIntNat,Nat.mod_eq_of_lt (by omega),Nat.mod_eq_of_lt (by omega)]
 have:a &&& b < 2 ^ 63:=Nat.and_lt_two_pow _ hb
 exact wrap_small _ (by omega) (by omega)
theorem and63 (k:Nat) (hk:k < 2 ^ 63):bits .and .i64 (k:Int) 63=((k%64:Nat):Int):=by
 have h:=and_i k 63 hk (by omega)
 have e:k &&& 63=k%64:=Nat.and_two_pow_sub_one_eq_mod k 6
 rw [e] at h
 exact h
end

namespace Tre
open Go.RowKit
structure Grp where
 up:Int
 live:Bool
def ecGrp (x:Grp):List Value:=[.int .i64 x.up,.bool x.live]
theorem ecGrp_len (x:Grp):(ecGrp x).length=2:=rfl
def upF:Nat→List Grp→Int→List Int
 | 0,_,_=>[]
 | n+1,l,g=>if 0≤g then (match l[g.toNat]? with | some x=>g::upF n l x.up | none=>[]) else []
def ups (l:List Grp) (g:Int):List Int:=upF (g.toNat+1) l g
def liveB (l:List Grp) (g:Int):Bool:=decide (0≤g)&&((l[g.toNat]?).map (·.live)).getD false
def upOf (l:List Grp) (g:Int):Int:=((l[g.toNat]?).map (·.up)).getD (-1)
def chainL (l:List Grp) (g:Int):List Int:=if liveB l g=true then ups l g else []
def depthL (l:List Grp) (g:Int):Int:=((chainL l g).length:Int) - 1
def thoseL (l:List Grp) (p:Int→Bool):List Int:=((List.range l.length).map (fun (i:Nat)=>(i:Int))).filter (fun i=>liveB l i&&p i)
def belowL (l:List Grp) (g:Int):List Int:=if liveB l g=true then thoseL l (fun x=>decide (g∈chainL l x)) else []
def addE (l:List Grp) (p:Int):Int:=if liveB l p=true then (if 7≤depthL l p then 21 else if 64≤l.length then 3 else 0) else 2
def addG (l:List Grp) (p:Int):Int:=if addE l p=0 then (l.length:Int) else -1
def addS (l:List Grp) (p:Int):List Grp:=if addE l p=0 then l++[⟨p,true⟩] else l
structure TGood (l:List Grp):Prop where
 pos:1≤l.length
 le:l.length≤64
 root:l[0]?=some ⟨-1,true⟩
 up:∀ (i:Nat) x,l[i]?=some x→0 < i→0≤x.up∧x.up < i∧(x.live=true→liveB l x.up=true)
 deep:∀ g,liveB l g=true→(ups l g).length≤8
theorem TGood.lt {l:List Grp} (h:TGood l) {i:Nat} {x:Grp} (hx:l[i]?=some x):-1≤x.up∧x.up < i:=by
 cases i with
 | zero=>rw [h.root] at hx;cases hx;exact ⟨by decide,by decide⟩
 | succ i=>obtain ⟨h1,h2,_⟩:=h.up _ x hx (by omega);exact ⟨by omega,h2⟩
theorem upF_neg {l:List Grp} {g:Int} (hg:g < 0):∀ n,upF n l g=[]:=by
 intro n
 cases n with
 | zero=>rfl
 | succ n=>unfold upF;rw [if_neg (by omega)]
theorem upF_fuel {l:List Grp} (h:∀ (i:Nat) x,l[i]?=some x→x.up < i):∀ n m g,g.toNat < n→g.toNat < m→upF n l g=upF m l g:=by
 intro n
 induction n with
 | zero=>intro m g h1;omega
 | succ n ih =>
   intro m g h1 h2
   cases m with
   | zero=>omega
   | succ m =>
     unfold upF
     by_cases hg:0≤g
     · rw [if_pos hg,if_pos hg]
       cases hx:l[g.toNat]? with
       | none=>rfl
       | some x =>
         have:=h _ x hx
         show g::upF n l x.up=g::upF m l x.up
         by_cases hn:x.up < 0
         · rw [upF_neg hn,upF_neg hn]
         · rw [ih m x.up (by omega) (by omega)]
     · rw [if_neg hg,if_neg hg]
theorem ups_neg {l:List Grp} {g:Int} (hg:g < 0):ups l g=[]:=upF_neg hg _
theorem ups_cons {l:List Grp} (h:TGood l) {g:Int} {x:Grp} (hg:0≤g) (hx:l[g.toNat]?=some x):ups l g=g::ups l x.up:=by
 have:=h.lt hx
 unfold ups
 rw [upF.eq_2,if_pos hg,hx]
 show g::upF g.toNat l x.up=_
 by_cases hn:x.up < 0
 · rw [upF_neg hn,upF_neg hn]
 · rw [upF_fuel (fun i y hy=>(h.lt hy).2) g.toNat (x.up.toNat+1) x.up (by omega) (by omega)]
theorem live_get {l:List Grp} {g:Int} (h:liveB l g=true):∃ x:Grp,∃ k:Nat,g=k∧k < l.length∧l[k]?=some x∧x.live=true:=by
 unfold liveB at h
 rw [Bool.and_eq_true,decide_eq_true_eq] at h
 obtain ⟨h1,h2⟩:=h
 cases hx:l[g.toNat]? with
 | none=>rw [hx] at h2;cases h2
 | some x=>rw [hx] at h2;exact ⟨x,g.toNat,by omega,(ζi.1 hx).1,hx,h2⟩
theorem live_of {l:List Grp} {k:Nat} {x:Grp} (hx:l[k]?=some x):liveB l (k:Int)=x.live:=by
 unfold liveB
 rw [Int.toNat_natCast,hx]
 simp
theorem live_neg {l:List Grp} {g:Int} (hg:g < 0):liveB l g=false:=by
 unfold liveB
 have:decide (0≤g)=false:=by simp;omega
 rw [this];rfl
theorem live_out {l:List Grp} {g:Int} (hg:(l.length:Int)≤g):liveB l g=false:=by
 unfold liveB
 rw [List.getElem?_eq_none (by omega)]
 simp
theorem upOf_of {l:List Grp} {k:Nat} {x:Grp} (hx:l[k]?=some x):upOf l (k:Int)=x.up:=by
 unfold upOf
 rw [Int.toNat_natCast,hx]
 rfl
theorem ups_live_cons {l:List Grp} (h:TGood l) {g:Int} (hl:liveB l g=true):ups l g=g::ups l (upOf l g)∧(upOf l g=-1∧g=0∨liveB l (upOf l g)=true∧upOf l g < g):=by
 obtain ⟨x,k,rfl,hk,hx,hxl⟩:=live_get hl
 rw [upOf_of hx]
 refine ⟨ups_cons h (by omega) (by rw [Int.toNat_natCast];exact hx),?_⟩
 cases k with
 | zero=>rw [h.root] at hx;cases hx;exact .inl ⟨rfl,rfl⟩
 | succ k =>
   obtain ⟨h1,h2,h3⟩:=h.up _ x hx (by omega)
   exact .inr ⟨h3 hxl,by omega⟩
theorem chain_live {l:List Grp} {g:Int} (hl:liveB l g=true):chainL l g=ups l g:=by unfold chainL;rw [if_pos hl]
theorem chain_dead {l:List Grp} {g:Int} (hl:liveB l g=false):chainL l g=[]:=by unfold chainL;rw [if_neg (by rw [hl];decide)]
theorem chain_le {l:List Grp} (h:TGood l) (g:Int):(chainL l g).length≤8:=by
 cases hl:liveB l g with
 | true=>rw [chain_live hl];exact h.deep g hl
 | false=>rw [chain_dead hl];simp
theorem ups_grow {l:List Grp} (h:TGood l) (y:Grp):∀ (n:Nat) (g:Int),g.toNat < n→g < l.length→ups (l++[y]) g=ups l g:=by
 have key:∀ (n:Nat) (g:Int),g < l.length→upF n (l++[y]) g=upF n l g:=by
  intro n
  induction n with
  | zero=>intro g _;rfl
  | succ n ih =>
    intro g hg
    unfold upF
    by_cases h0:0≤g
    · rw [if_pos h0,if_pos h0,List.getElem?_append_left (by omega)]
      cases hx:l[g.toNat]? with
      | none=>rfl
      | some x =>
        have:=h.lt hx
        show g::_=g::_
        rw [ih x.up (by omega)]
    · rw [if_neg h0,if_neg h0]
 intro n g _ hg
 exact key _ g hg
theorem live_grow {l:List Grp} {y:Grp} {g:Int} (hg:g < l.length):liveB (l++[y]) g=liveB l g:=by
 unfold liveB
 by_cases h0:0≤g
 · rw [List.getElem?_append_left (by omega)]
 · have:decide (0≤g)=false:=by simp;omega
   rw [this];rfl
theorem addS_good {l:List Grp} (h:TGood l) (p:Int):TGood (addS l p):=by
 unfold addS
 split
 next he =>
  unfold addE at he
  split at he
  next hp =>
   split at he
   next=>cases he
   next hd =>
    split at he
    next=>cases he
    next hn =>
     obtain ⟨x,k,rfl,hk,hx,hxl⟩:=live_get hp
     refine ⟨by simp,by simp;omega,by rw [List.getElem?_append_left (by have:=h.pos;omega)];exact h.root,?_,?_⟩
     · intro i y hy hi
       rw [List.getElem?_append] at hy
       split at hy
       · obtain ⟨h1,h2,h3⟩:=h.up i y hy hi
         refine ⟨h1,h2,fun hyl=>?_⟩
         rw [live_grow (by omega)]
         exact h3 hyl
       · have hl:i=l.length:=by
          have:=(ζi.1 hy).1
          simp at this;omega
         subst hl
         simp at hy
         subst hy
         refine ⟨by simp,by simp;omega,fun _=>?_⟩
         rw [live_grow (by simp;omega)]
         exact hp
     · intro g hg
       obtain ⟨z,m,rfl,hm,hz,hzl⟩:=live_get hg
       rw [List.length_append,List.length_singleton] at hm
       by_cases hml:m < l.length
       · rw [ups_grow h _ _ _ (Nat.lt_succ_self _) (by omega)]
         exact h.deep _ (by rw [live_grow (by omega)] at hg;exact hg)
       · obtain rfl:m=l.length:=by omega
         have e:ups (l++[⟨(k:Int),true⟩]) (l.length:Int)=(l.length:Int)::ups l (k:Int):=by
          unfold ups
          rw [Int.toNat_natCast,upF.eq_2,if_pos (by omega),Int.toNat_natCast,List.getElem?_append_right (Nat.le_refl _),Nat.sub_self]
          show (l.length:Int)::upF l.length (l++[⟨(k:Int),true⟩]) (k:Int)=_
          have hlt:∀ (i:Nat) (y:Grp),(l++[⟨(k:Int),true⟩])[i]?=some y→y.up < i:=by
           intro i y hy
           rw [List.getElem?_append] at hy
           split at hy
           · exact (h.lt hy).2
           · have hl:i=l.length:=by
              have:=(ζi.1 hy).1
              simp at this;omega
             subst hl
             simp at hy
             subst hy
             simp;omega
          rw [upF_fuel hlt l.length (k+1) (k:Int) (by rw [Int.toNat_natCast];exact hk) (by rw [Int.toNat_natCast];omega)]
          have e2:=ups_grow h ⟨(k:Int),true⟩ _ (k:Int) (Nat.lt_succ_self _) (by omega)
          unfold ups at e2
          rw [Int.toNat_natCast] at e2
          rw [e2,Int.toNat_natCast]
         rw [e,List.length_cons]
         have hd':¬ 7≤depthL l (k:Int):=hd
         unfold depthL at hd'
         rw [chain_live hp] at hd'
         omega
  next=>cases he
 next=>exact h
def newT:List Grp:=[⟨-1,true⟩]
theorem newT_good:TGood newT:=by
 refine ⟨by decide,by decide,rfl,?_,?_⟩
 · intro i x hx hi
   have:=(ζi.1 hx).1
   simp [newT] at this
   omega
 · intro g hg
   obtain ⟨x,k,rfl,hk,_⟩:=live_get hg
   simp only [newT,List.length_singleton] at hk
   obtain rfl:k=0:=by omega
   decide
end Tre
end Go.Proofs.YtkfoeonggmlebaaGreatDoor
