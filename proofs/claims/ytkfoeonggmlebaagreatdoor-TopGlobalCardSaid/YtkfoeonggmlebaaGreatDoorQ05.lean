/-
  Contracts of the program's functions, and plain facts, towards the laws of millpondtop. No condition beyond those that each theorem bears.
-/
import Derived.Test.YtkfoeonggmlebaaGreatDoorRows
import Derived.OwnWalk
import Derived.Deep.Cut
import Derived.Laws.ResultCell
import Derived.Laws.Rows
import Derived.Test.YtkfoeonggmlebaaGreatDoorQ01
import Derived.Test.YtkfoeonggmlebaaGreatDoorQAA
set_option maxRecDepth 100000
set_option maxHeartbeats 4000000
namespace Go.Proofs.YtkfoeonggmlebaaGreatDoor
section
open Go.RowKit
def encI (n:Int):Value:=.int .i64 n
theorem info_int:(Tryz.prog.info? 3).map (fun i=>(i.zero,i.size,i.bytes))=some (some (.int .i64 0),1,8):=by kernel_rfl
theorem ints_of_row {w:World} {base:Nat} {v:Value} {xs:List Int} (h:w.ownsRow base 3 1 v xs.length (xs.map encI)):IntsAt w v xs:=by
 rcases id h.2 with ⟨rfl,h0⟩ | ⟨g,cap,cur,rfl,_,hg,hc,hm,hs,ht⟩
 · exact ⟨none,0,by rw [h0],by omega,by unfold maxLen;omega,fun j hj=>by omega⟩
 · refine ⟨_,cap,rfl,hc,hm,fun j hj=>⟨g,0,rfl,?_⟩⟩
   rw [Nat.zero_add,h.cellAt j (by omega),List.getElem?_map,List.getD_eq_getElem?_getD,ζg hj]
   rfl
theorem ints_get {w:World} {v:Value} {ns:List Int} (h:IntsAt w v ns) {j:Nat} {n:Int} (hj:ns[j]?=some n):∃ b off cap,v=.slice (some ⟨b,off,none⟩) ns.length cap∧w.cell? ⟨b,off+j,none⟩=some (.int .i64 n):=by
 obtain ⟨a,cap,h1,h2,h3,h4⟩:=h
 have hlt:=(ζi.1 hj).1
 obtain ⟨b,off,h5,h6⟩:=h4 j hlt
 refine ⟨b,off,cap,by rw [h1,h5],?_⟩
 rw [h6,List.getD_eq_getElem?_getD,hj]
 rfl
theorem ints_form {w:World} {v:Value} {ns:List Int} (h:IntsAt w v ns):∃ a cap,v=.slice a ns.length cap:=by
 obtain ⟨a,cap,h1,_⟩:=h
 exact ⟨a,cap,h1⟩
theorem ints_cap {w:World} {a:Option Addr} {k c:Nat} {ns:List Int} (h:IntsAt w (.slice a k c) ns):ns.length≤c∧c≤maxLen:=by
 obtain ⟨_,_,hq,h1,h2,_⟩:=h
 injection hq with _ _ hq
 rw [hq];exact ⟨h1,h2⟩
theorem ints_at {w:World} {a:Option Addr} {k c:Nat} {ns:List Int} (h:IntsAt w (.slice a k c) ns) {j:Nat} {n:Int} (hj:ns[j]?=some n):∃ b off,a=some ⟨b,off,none⟩∧w.cell? ⟨b,off+j,none⟩=some (.int .i64 n):=by
 obtain ⟨b,off,cap,h1,h2⟩:=ints_get h hj
 injection h1 with h1 _ _
 exact ⟨b,off,h1,h2⟩
theorem res_cell {P:Program} {fn:Func} {p u:Tmp} {ty:TypeId} (h:fn.results=#[.cell p ty,.tmp u]) {tmps:Array Value} {w:World} {g:Nat} {cs:Array Value} {T:TypeId} {d:TypeDesc}
 (hp:tmps.getD p undef=.pointer (some ⟨g,0,none⟩)) (hb:Blk w g cs T) (hu:P.underlying ty=some d) (hd:(match d with | .struct _ | .array _ _=>true | _=>false)=true) (hi:(P.info? ty).map (·.size)=some cs.size) :
 (results fn tmps).run P w=.ok (.tuple #[.agg cs,tmps.getD u undef]) w:=by
 rw [results_cell_tmp h,hp]
 show ((loadVar ty ⟨g,0,none⟩).run P w).andThen _=_
 rw [run_loadVar_row w g T ty cs (0,0) d hb hu hd hi]
 rfl
end

section
open Go.RowKit
section
variable {κ α:Type} [DecidableEq κ]
def getA (k:κ):List (κ × α)→Option α
 | []=>none
 | e::l=>if k=e.1 then some e.2 else getA k l
def putA (k:κ) (v:α):List (κ × α)→List (κ × α)
 | []=>[(k,v)]
 | e::l=>if k=e.1 then (k,v)::l else e::putA k v l
def dropA (k:κ):List (κ × α)→List (κ × α)
 | []=>[]
 | e::l=>if k=e.1 then l else e::dropA k l
def Stamp (l:List (KV κ)) (c:Nat):Prop:=(∀ e∈l,e.born < c)∧(l.map (·.born)).Nodup∧(l.map (·.key)).Nodup
theorem dropKV_sub (k:κ) (l:List (KV κ)):(dropKV k l).Sublist l:=by
 induction l with
 | nil=>exact List.Sublist.refl _
 | cons e l ih =>
   simp only [dropKV]
   split
   · exact List.sublist_cons_self _ _
   · exact ih.cons_cons _
theorem Stamp.drop {l:List (KV κ)} {c:Nat} (h:Stamp l c) (k:κ):Stamp (dropKV k l) c :=
 ⟨fun e he=>h.1 e ((dropKV_sub k l).subset he),h.2.1.sublist ((dropKV_sub k l).map _),h.2.2.sublist ((dropKV_sub k l).map _)⟩
theorem findIx_none {k:κ}:∀ {l:List (KV κ)} {i:Nat},findIx k l i=none→k∉l.map (·.key):=by
 intro l
 induction l with
 | nil=>intro i _ h;cases h
 | cons e l ih =>
   intro i h hm
   simp only [findIx] at h
   split at h
   · cases h
   · rename_i hk
     rcases List.mem_cons.1 hm with h' | h'
     · exact hk h'
     · exact ih h h'
theorem Stamp.new {l:List (KV κ)} {c:Nat} (h:Stamp l c) {k:κ} (v:Value) (hf:findIx k l 0=none):Stamp (putKV k v c l) (c+1):=by
 rw [putKV_none k v c l 0 hf]
 refine ⟨fun e he=>?_,?_,?_⟩
 · rcases List.mem_append.1 he with he | he
   · have:=h.1 e he;omega
   · rw [List.mem_singleton.1 he];simp
 · rw [List.map_append,List.nodup_append]
   refine ⟨h.2.1,by simp,fun a ha b hb=>?_⟩
   obtain ⟨e,he,rfl⟩:=List.mem_map.1 ha
   have:=h.1 e he
   simp at hb
   omega
 · rw [List.map_append,List.nodup_append]
   refine ⟨h.2.2,by simp,fun a ha b hb=>?_⟩
   simp at hb
   rintro rfl
   rw [hb] at ha
   exact findIx_none hf ha
theorem putKV_same {k:κ} (v:Value) (c:Nat):∀ {l:List (KV κ)} {i:Nat},findIx k l i≠none→(putKV k v c l).map (·.born)=l.map (·.born)∧(putKV k v c l).map (·.key)=l.map (·.key):=by
 intro l
 induction l with
 | nil=>intro i h;exact (h rfl).elim
 | cons e l ih =>
   intro i h
   simp only [findIx] at h
   simp only [putKV]
   split
   · rename_i hk;simp [hk]
   · rename_i hk
     rw [if_neg hk] at h
     obtain ⟨h1,h2⟩:=ih h
     simp [h1,h2]
theorem Stamp.old {l:List (KV κ)} {c:Nat} (h:Stamp l c) {k:κ} (v:Value) (hf:findIx k l 0≠none):Stamp (putKV k v c l) c:=by
 obtain ⟨h1,h2⟩:=putKV_same v c hf
 refine ⟨fun e he=>?_,by rw [h1];exact h.2.1,by rw [h2];exact h.2.2⟩
 have:e.born∈(putKV k v c l).map (·.born):=List.mem_map.2 ⟨e,he,rfl⟩
 rw [h1] at this
 obtain ⟨y,hy,e'⟩:=List.mem_map.1 this
 rw [←e']
 exact h.1 y hy
def MapA (ek:κ→Value) (ev:α→Value) (w:World) (b:Nat) (G:List (κ × α)):Prop :=
 ∃ l c,MapIs ek w b l c∧l.map (fun e=>(e.key,e.val))=G.map (fun e=>(e.1,ev e.2))∧Stamp l c
variable {ek:κ→Value} {ev:α→Value} {w:World} {b:Nat} {G:List (κ × α)}
theorem getA_kv (ev:α→Value) (k:κ):∀ (l:List (KV κ)) (G:List (κ × α)),l.map (fun e=>(e.key,e.val))=G.map (fun e=>(e.1,ev e.2))→getKV k l=(getA k G).map ev:=by
 intro l
 induction l with
 | nil=>intro G h;cases G with
   | nil=>rfl
   | cons e G=>cases h
 | cons x l ih=>intro G h;cases G with
   | nil=>cases h
   | cons e G =>
     rw [List.map_cons,List.map_cons] at h
     injection h with h1 h2
     injection h1 with h1 h3
     have:=ih G h2
     simp only [getKV,getA,h1,h3]
     split
     · rfl
     · exact this
theorem putA_kv (ev:α→Value) (k:κ) (v:α) (c:Nat):∀ (l:List (KV κ)) (G:List (κ × α)),l.map (fun e=>(e.key,e.val))=G.map (fun e=>(e.1,ev e.2))→(putKV k (ev v) c l).map (fun e=>(e.key,e.val))=(putA k v G).map (fun e=>(e.1,ev e.2)):=by
 intro l
 induction l with
 | nil=>intro G h;cases G with
   | nil=>rfl
   | cons e G=>cases h
 | cons x l ih=>intro G h;cases G with
   | nil=>cases h
   | cons e G =>
     have h0:=h
     rw [List.map_cons,List.map_cons] at h
     injection h with h1 h2
     have h1':=h1
     injection h1 with h1 h3
     simp only [putKV,putA,h1]
     split
     · rename_i hk
       rw [List.map_cons,List.map_cons,h2]
     · rw [List.map_cons,List.map_cons,ih G h2,h1']
theorem dropA_kv (ev:α→Value) (k:κ):∀ (l:List (KV κ)) (G:List (κ × α)),l.map (fun e=>(e.key,e.val))=G.map (fun e=>(e.1,ev e.2))→(dropKV k l).map (fun e=>(e.key,e.val))=(dropA k G).map (fun e=>(e.1,ev e.2)):=by
 intro l
 induction l with
 | nil=>intro G h;cases G with
   | nil=>rfl
   | cons e G=>cases h
 | cons x l ih=>intro G h;cases G with
   | nil=>cases h
   | cons e G =>
     rw [List.map_cons,List.map_cons] at h
     injection h with h1 h2
     have h1':=h1
     injection h1 with h1 h3
     simp only [dropKV,dropA,h1]
     split
     · exact h2
     · rw [List.map_cons,List.map_cons,ih G h2,h1']
omit [DecidableEq κ] in
theorem MapA.lt (h:MapA ek ev w b G):b < w.heap.size:=by obtain ⟨l,c,h,_⟩:=h;exact h.lt
omit [DecidableEq κ] in
theorem MapA.keep {S:Nat→Prop} {w':World} (h:MapA ek ev w b G) (hm:Mod S w w') (hs:¬ S b):MapA ek ev w' b G:=by
 obtain ⟨l,c,h,h2⟩:=h;exact ⟨l,c,h.keep hm hs,h2⟩
omit [DecidableEq κ] in
theorem MapA.keepN {w':World} (h:MapA ek ev w b G) (hm:Mod (fun _=>False) w w'):MapA ek ev w' b G:=h.keep hm (fun x=>x)
omit [DecidableEq κ] in
theorem MapA.ne {b':Nat} {cs:Array Value} {T:TypeId} (h:MapA ek ev w b G) (h':Blk w b' cs T):b≠b':=by obtain ⟨l,c,h,_⟩:=h;exact h.ne h'
omit [DecidableEq κ] in
theorem MapA.new {w:World}:MapA ek ev (w.alloc (.map #[] 0)) w.heap.size ([]:List (κ × α)):=by
 refine ⟨[],0,?_,rfl,(fun e he=>by cases he),List.nodup_nil,List.nodup_nil⟩
 unfold MapIs
 exact heap_alloc_new w _
variable {P:Program} {kt vt mt:TypeId}
theorem run_mapUpdate2 (K:MKey P kt ek) (ht:P.underlying mt=some (.map kt vt)) {l:List (KV κ)} {c:Nat} (h:MapIs ek w b l c) (k:κ) (v:Value) :
 ∃ w' c',(Instr.mapUpdate mt (.map (some b)) (ek k) v).run P w=.ok () w'∧MapIs ek w' b (putKV k v c l) c'∧Mod (fun i=>i=b) w w'∧w'.heap.size=w.heap.size∧((findIx k l 0=none∧c'=c+1)∨(findIx k l 0≠none∧c'=c)):=by
 have hb:=h
 unfold MapIs at hb
 cases hf:findIx k l 0 with
 | none =>
   refine ⟨{ w with heap:=w.heap.setIfInBounds b (.map ((l.map (entKV ek)).toArray.push { key:=ek k,val:=v,born:=c }) (c+1)) },c+1,?_,?_,mod_setB _ _ _,by simp,.inl ⟨rfl,rfl⟩⟩
   · simp only [Instr.mapUpdate,Sem.run_bind,run_underlying ht,MapKept.run_getObj_map hb,Result.andThen,K.check,K.find,hf]
     exact MapKept.run_setObj_map _ hb
   unfold MapIs
   rw [putKV_none k v c l 0 hf]
   simp [h.lt,entKV]
 | some r =>
   have hp:=putKV_some ek k v c l 0 r hf
   rw [Nat.sub_zero] at hp
   have hkey:∀ (es:List (KV κ)) i r,findIx k es i=some r→((es.map (entKV ek))[r.1 - i]?).map (·.key)=some (ek k):=by
    intro es
    induction es with
    | nil=>intro i r h;simp [findIx] at h
    | cons e es ih =>
      intro i r h
      have h2:=h
      simp only [findIx] at h
      split at h
      · rename_i hk;simp only [Option.some.injEq] at h;subst h;simp [entKV,hk]
      · have h3:=ih _ _ h
        have h4:=findIx_ge k _ _ _ h
        have e1:r.1 - i=(r.1 - (i+1))+1:=by omega
        rw [e1];simpa using h3
   have hk:=hkey l 0 r hf
   rw [Nat.sub_zero] at hk
   have hk':(((l.map (entKV ek)).toArray[r.1]?).map (·.key)).getD (ek k)=ek k:=by
    rw [ζa,hk];rfl
   refine ⟨{ w with heap:=w.heap.setIfInBounds b (.map ((l.map (entKV ek)).toArray.modify r.1 fun e=>{ e with key:=ek k,val:=v }) c) },c,?_,?_,mod_setB _ _ _,by simp,.inr ⟨by simp,rfl⟩⟩
   · simp only [Instr.mapUpdate,Sem.run_bind,run_underlying ht,MapKept.run_getObj_map hb,Result.andThen,K.check,K.find,hf,hk',Instr.keyThatStays,K.bits,if_true,Sem.run_pure]
     exact MapKept.run_setObj_map _ hb
   unfold MapIs
   simp [h.lt]
   exact hp
theorem MapA.lookup_ok (K:MKey P kt ek) (ht:P.underlying mt=some (.map kt vt)) {z:Value} (hz:(zeroValue vt).run P w=.ok z w) (h:MapA ek ev w b G) (k:κ) :
 (Instr.lookup mt (.map (some b)) (ek k) true).run P w=.ok (.tuple #[((getA k G).map ev).getD z,.bool (getA k G).isSome]) w:=by
 obtain ⟨l,c,h,h2,_⟩:=h
 rw [run_lookup_ok K ht hz h k,hasKV,getA_kv ev k l G h2]
 cases getA k G<;>rfl
theorem MapA.lookup_one (K:MKey P kt ek) (ht:P.underlying mt=some (.map kt vt)) {z:Value} (hz:(zeroValue vt).run P w=.ok z w) (h:MapA ek ev w b G) (k:κ) :
 (Instr.lookup mt (.map (some b)) (ek k) false).run P w=.ok (((getA k G).map ev).getD z) w:=by
 obtain ⟨l,c,h,h2,_⟩:=h
 rw [run_lookup_one K ht hz h k,getA_kv ev k l G h2]
theorem MapA.update (K:MKey P kt ek) (ht:P.underlying mt=some (.map kt vt)) (h:MapA ek ev w b G) (k:κ) (v:α) :
 ∃ w',(Instr.mapUpdate mt (.map (some b)) (ek k) (ev v)).run P w=.ok () w'∧MapA ek ev w' b (putA k v G)∧Mod (fun i=>i=b) w w'∧w'.heap.size=w.heap.size:=by
 obtain ⟨l,c,h,h2,h2'⟩:=h
 obtain ⟨w',c',h3,h4,h5,h6,h7⟩:=run_mapUpdate2 K ht h k (ev v)
 refine ⟨w',h3,⟨_,c',h4,putA_kv ev k v c l G h2,?_⟩,h5,h6⟩
 rcases h7 with ⟨h7,rfl⟩ | ⟨h7,rfl⟩
 · exact h2'.new _ h7
 · exact h2'.old _ h7
theorem MapA.delete (K:MKey P kt ek) (ht:P.underlying mt=some (.map kt vt)) (h:MapA ek ev w b G) (k:κ) (ty:TypeId) :
 ∃ w',(Builtin.delete_ #[mt,kt] ty #[.map (some b),ek k]).run P w=.ok (.tuple #[]) w'∧MapA ek ev w' b (dropA k G)∧Mod (fun i=>i=b) w w'∧w'.heap.size=w.heap.size:=by
 obtain ⟨l,c,h,h2,h2'⟩:=h
 obtain ⟨w',h3,h4,h5,h6⟩:=run_delete K ht h k ty
 exact ⟨w',h3,⟨_,c,h4,dropA_kv ev k l G h2,h2'.drop k⟩,h5,h6⟩
theorem MapA.deleteF (K:MKey P kt ek) (ht:P.underlying mt=some (.map kt vt)) (h:MapA ek ev w b G) (k:κ) :
 ∃ f:TypeId→World,∀ ty,(Builtin.delete_ #[mt,kt] ty #[.map (some b),ek k]).run P w=.ok (.tuple #[]) (f ty)∧MapA ek ev (f ty) b (dropA k G)∧Mod (fun i=>i=b) w (f ty)∧(f ty).heap.size=w.heap.size :=
 ⟨fun ty=>(h.delete K ht k ty).choose,fun ty=>(h.delete K ht k ty).choose_spec⟩
theorem dropA_none (k:κ):∀ G:List (κ × α),getA k G=none→dropA k G=G:=by
 intro G
 induction G with
 | nil=>intro _;rfl
 | cons e G ih =>
   intro hg
   simp only [getA] at hg
   split at hg
   · cases hg
   · rename_i hne
     simp only [dropA,hne,if_false,ih hg]
end
theorem key_int:MKey Tryz.prog 3 ekInt:=mkey_int Tryz.underlying3
end

namespace Gen
open Go.RowKit
abbrev GL:=List (Int × (Int × Int))
structure GensAt (w:World) (b mb:Nat) (G:GL):Prop where
 blk:Blk w b #[.map (some mb)] 107
 map:MapA ekInt ekTwo w mb G
theorem GensAt.keep {S:Nat→Prop} {w w':World} {b mb:Nat} {G:GL} (h:GensAt w b mb G) (hm:Mod S w w') (h1:¬ S b) (h2:¬ S mb):GensAt w' b mb G:=⟨h.blk.keep hm h1,h.map.keep hm h2⟩
theorem GensAt.keepN {w w':World} {b mb:Nat} {G:GL} (h:GensAt w b mb G) (hm:Mod (fun _=>False) w w'):GensAt w' b mb G:=h.keep hm (fun x=>x) (fun x=>x)
theorem GensAt.head {w:World} {b mb:Nat} {G:GL} (h:GensAt w b mb G):w.cell? ⟨b,0,none⟩=some (.map (some mb)):=by rw [h.blk.cell];rfl
theorem zero_one (w:World):(zeroValue 228).run Tryz.prog w=.ok (.agg #[.int .i64 0,.int .i64 0]) w:=by kernel_rfl
theorem gensnew_any (w:World):Calls Tryz.prog 28 #[] w fun e w'=>∃ b mb,e=.returned (.pointer (some ⟨b,0,none⟩))∧Mod (fun _=>False) w w'∧GensAt w' b mb []∧w.heap.size≤b∧w.heap.size≤mb:=by
 have hmm:=@run_makeMap Tryz.prog
 go_enter Tryz.func28,Tryz.ntmps28
 go_wp2_with fail
 go_ret
 refine ⟨_,w.heap.size,rfl,(Mod.alloc' _ _ _).alloc _,⟨?_,?_⟩,?_,Nat.le_refl _⟩
 · have:=Blk.new (w.alloc (.map #[] 0)) #[.map (some w.heap.size)] 107
   simpa using this
 · exact MapA.new.keep (Mod.alloc' (fun _=>False) _ _) (fun x=>x)
 · simp
theorem gens_look {w:World} {mb:Nat} {G:GL} (h:MapA ekInt ekTwo w mb G) (id:Int) :
 (Instr.lookup 105 (.map (some mb)) (.int .i64 id) true).run Tryz.prog w=.ok (.tuple #[.agg #[.int .i64 ((getA id G).getD (0,0)).1,.int .i64 ((getA id G).getD (0,0)).2],.bool (getA id G).isSome]) w:=by
 have:=h.lookup_ok key_int Tryz.underlying105 (zero_one w) id
 rw [show ekInt id=.int .i64 id from rfl] at this
 rw [this]
 cases getA id G<;>rfl
theorem gdrop_any (b mb:Nat) (G:GL) (id:Int) (w:World) (h:GensAt w b mb G) :
 Calls Tryz.prog 134 #[.pointer (some ⟨b,0,none⟩),.int .i64 id] w fun e w'=>(∃ n:Int,e=.returned (.int .i64 n))∧Mod (fun x=>x=mb) w w'∧GensAt w' b mb (dropA id G):=by
 have hlk:=gens_look h.map id
 have h0:=h.head
 obtain ⟨x,hx⟩:∃ x,x=getA id G:=⟨_,rfl⟩
 rw [←hx] at hlk
 cases x with
 | none =>
   have hd:=dropA_none id G hx.symm
   rw [hd]
   simp only [Option.getD_none,Option.isSome_none] at hlk
   clear hx hd
   go_enter Tryz.func134,Tryz.ntmps134
   go_wp2_with fail
   go_ret
   exact ⟨⟨_,rfl⟩,(Mod.alloc' _ _ _),h.keepN (Mod.alloc' _ _ _)⟩
 | some x =>
   simp only [Option.getD_some,Option.isSome_some] at hlk
   clear hx
   have m1:Mod (fun _=>False) w (w.alloc (.cells #[.int .i64 x.1,.int .i64 x.2] 228)):=Mod.alloc' _ _ _
   have hc1:=(h.keepN m1).head
   obtain ⟨f,hf⟩:=(h.keepN m1).map.deleteF key_int Tryz.underlying105 id
   have hrun:=fun ty=>(hf ty).1
   simp only [show ekInt id=.int .i64 id from rfl] at hrun
   have HF:=ζh fun ty=>(hf ty).2
   have hne:b≠mb:=fun e=>h.map.ne h.blk e.symm
   have HH:=ζh h
   have HM:=ζh m1
   clear h hf m1
   go_enter Tryz.func134,Tryz.ntmps134
   go_wp2_with fail
   go_ret
   obtain ⟨k1,k2,_⟩:=HF.out _
   exact ⟨⟨_,rfl⟩,(HM.out.mono (fun _ x=>x.elim)).trans k2,(HH.out.keepN HM.out).blk.keep k2 hne,k1⟩
def touchG (id:Int) (G:GL):GL:=match getA id G with
 | none=>G
 | some x=>putA id (x.1,0) G
theorem ne_of_blk_map {w:World} {b mb:Nat} {G:GL} (h:GensAt w b mb G):b≠mb:=fun e=>h.map.ne h.blk e.symm
theorem gtouch_any (b mb:Nat) (G:GL) (id:Int) (w:World) (h:GensAt w b mb G) :
 Calls Tryz.prog 118 #[.pointer (some ⟨b,0,none⟩),.int .i64 id] w fun e w'=>(∃ n:Int,e=.returned (.int .i64 n))∧Mod (fun x=>x=mb) w w'∧GensAt w' b mb (touchG id G):=by
 unfold touchG
 have hlk:=gens_look h.map id
 have h0:=h.head
 cases hx:getA id G with
 | none =>
   rw [hx] at hlk
   simp only [Option.getD_none,Option.isSome_none] at hlk
   clear hx
   go_enter Tryz.func118,Tryz.ntmps118
   go_wp2_with fail
   go_ret
   exact ⟨⟨_,rfl⟩,(Mod.alloc' _ _ _),h.keepN (Mod.alloc' _ _ _)⟩
 | some x =>
   rw [hx] at hlk
   simp only [Option.getD_some,Option.isSome_some] at hlk
   clear hx
   go_enter Tryz.func118,Tryz.ntmps118
   go_wp2_with fail
   obtain ⟨w1,hw1⟩:∃ w1,w1=w.alloc (.cells #[.int .i64 x.1,.int .i64 x.2] 228):=⟨_,rfl⟩
   obtain ⟨r,hr⟩:∃ r,r=w.heap.size:=⟨_,rfl⟩
   have hbr:Blk w1 r #[.int .i64 x.1,.int .i64 x.2] 228:=by rw [hw1,hr];exact Blk.new w _ _
   have m1:Mod (fun _=>False) w w1:=by rw [hw1];exact Mod.alloc' _ _ _
   rw [←hw1,←hr]
   have h1:=h.keepN m1
   obtain ⟨w2,hrun,k1,k2,k3⟩:=(h1.keepN (Mod.refl _ _).drew).map.update key_int Tryz.underlying105 id (x.1,0)
   simp only [show ekInt id=.int .i64 id from rfl,show ekTwo (x.1,0)=.agg #[.int .i64 x.1,.int .i64 0] from rfl] at hrun
   have hc1:=h1.head
   have hne:=ne_of_blk_map h1
   have hbr0:=hbr.cell 0
   have hbr1:=hbr.cell 1
   simp only [ζa,ζb,ζc] at hbr0 hbr1
   clear hw1 hr h h0 hlk
   go_still_tail 8,(by kernel_rfl)
   go_wp2_with fail
   go_ret
   exact ⟨⟨_,rfl⟩,(m1.mono (fun _ x=>x.elim)).trans ((Mod.refl _ _).drew.trans k2),h1.blk.keep ((Mod.refl _ _).drew.trans k2) hne,k1⟩
def addG (id g:Int) (old:Bool) (G:GL):GL:=match getA id G with
 | none=>putA id (g,if old then 1 else 0) G
 | some _=>G
theorem gadd_any (b mb:Nat) (G:GL) (id g:Int) (old:Bool) (w:World) (h:GensAt w b mb G) (hid:0≤id∧id≤16777216) (hg:0≤g∧g≤16777216) :
 Calls Tryz.prog 259 #[.pointer (some ⟨b,0,none⟩),.int .i64 id,.int .i64 g,.bool old] w fun e w'=>(∃ n:Int,e=.returned (.int .i64 n))∧Mod (fun x=>x=mb) w w'∧GensAt w' b mb (addG id g old G):=by
 unfold addG
 have hlk:=gens_look h.map id
 have h0:=h.head
 have d0:decide (id < 0)=false:=decide_eq_false (by omega)
 have d1:decide (16777216 < id)=false:=decide_eq_false (by omega)
 have d2:decide (g < 0)=false:=decide_eq_false (by omega)
 have d3:decide (16777216 < g)=false:=decide_eq_false (by omega)
 cases hx:getA id G with
 | some x =>
   rw [hx] at hlk
   simp only [Option.getD_some,Option.isSome_some] at hlk
   clear hx
   go_enter Tryz.func259,Tryz.ntmps259
   go_wp2_with fail
   go_ret
   exact ⟨⟨_,rfl⟩,(Mod.alloc' _ _ _),h.keepN (Mod.alloc' _ _ _)⟩
 | none =>
   rw [hx] at hlk
   simp only [Option.getD_none,Option.isSome_none] at hlk
   clear hx
   cases old
   · go_enter Tryz.func259,Tryz.ntmps259
     go_wp2_with fail
     obtain ⟨w1,hw1⟩:∃ w1,w1=((w.alloc (.cells #[.int .i64 0,.int .i64 0] 228)).alloc (.cells #[.int .i64 g,.int .i64 0] 228)):=⟨_,rfl⟩
     obtain ⟨r,hr⟩:∃ r,r=w.heap.size+1:=⟨_,rfl⟩
     have hbr:Blk w1 r #[.int .i64 g,.int .i64 0] 228:=by
      rw [hw1,hr]
      have hb:=Blk.new (w.alloc (.cells #[.int .i64 0,.int .i64 0] 228)) #[.int .i64 g,.int .i64 0] 228
      rw [show (w.alloc (.cells #[.int .i64 0,.int .i64 0] 228)).heap.size=w.heap.size+1 by simp] at hb
      exact hb
     have m1:Mod (fun _=>False) w w1:=by rw [hw1];exact (Mod.alloc' _ _ _).alloc _
     rw [←hw1,←hr]
     have h1:=h.keepN m1
     obtain ⟨w2,hrun,k1,k2,k3⟩:=(h1.keepN (Mod.refl _ _).drew).map.update key_int Tryz.underlying105 id (g,0)
     simp only [show ekInt id=.int .i64 id from rfl,show ekTwo (g,0)=.agg #[.int .i64 g,.int .i64 0] from rfl] at hrun
     have hc1:=h1.head
     have hne:=ne_of_blk_map h1
     have hbr0:=hbr.cell 0
     have hbr1:=hbr.cell 1
     simp only [ζa,ζb,ζc] at hbr0 hbr1
     clear hw1 hr h h0 hlk
     go_still_tail 6,(by kernel_rfl)
     go_wp2_with fail
     go_ret
     exact ⟨⟨_,rfl⟩,(m1.mono (fun _ x=>x.elim)).trans ((Mod.refl _ _).drew.trans k2),h1.blk.keep ((Mod.refl _ _).drew.trans k2) hne,k1⟩
   · go_enter Tryz.func259,Tryz.ntmps259
     go_wp2_with fail
     obtain ⟨w1,hw1⟩:∃ w1,w1=((w.alloc (.cells #[.int .i64 0,.int .i64 0] 228)).alloc (.cells #[.int .i64 g,.int .i64 1] 228)):=⟨_,rfl⟩
     obtain ⟨r,hr⟩:∃ r,r=w.heap.size+1:=⟨_,rfl⟩
     have hbr:Blk w1 r #[.int .i64 g,.int .i64 1] 228:=by
      rw [hw1,hr]
      have hb:=Blk.new (w.alloc (.cells #[.int .i64 0,.int .i64 0] 228)) #[.int .i64 g,.int .i64 1] 228
      rw [show (w.alloc (.cells #[.int .i64 0,.int .i64 0] 228)).heap.size=w.heap.size+1 by simp] at hb
      exact hb
     have m1:Mod (fun _=>False) w w1:=by rw [hw1];exact (Mod.alloc' _ _ _).alloc _
     rw [←hw1,←hr]
     have h1:=h.keepN m1
     obtain ⟨w2,hrun,k1,k2,k3⟩:=(h1.keepN (Mod.refl _ _).drew).map.update key_int Tryz.underlying105 id (g,1)
     simp only [show ekInt id=.int .i64 id from rfl,show ekTwo (g,1)=.agg #[.int .i64 g,.int .i64 1] from rfl] at hrun
     have hc1:=h1.head
     have hne:=ne_of_blk_map h1
     have hbr0:=hbr.cell 0
     have hbr1:=hbr.cell 1
     simp only [ζa,ζb,ζc] at hbr0 hbr1
     clear hw1 hr h h0 hlk
     go_still_tail 6,(by kernel_rfl)
     go_wp2_with fail
     go_ret
     exact ⟨⟨_,rfl⟩,(m1.mono (fun _ x=>x.elim)).trans ((Mod.refl _ _).drew.trans k2),h1.blk.keep ((Mod.refl _ _).drew.trans k2) hne,k1⟩
end Gen

section
section
variable {α:Type} (k:α→Int)
def mrg:List α→List α→List α
 | [],B=>B
 | A,[]=>A
 | a::A,b::B=>if k a < k b then b::mrg (a::A) B else a::mrg A (b::B)
termination_by A B=>A.length+B.length
theorem mrg_nil_left (B:List α):mrg k [] B=B:=by rw [mrg]
theorem mrg_nil_right (A:List α):mrg k A []=A:=by
 cases A<;>rw [mrg]
 simp
theorem mrg_cons (a b:α) (A B:List α):mrg k (a::A) (b::B)=if k a < k b then b::mrg k (a::A) B else a::mrg k A (b::B):=by rw [mrg]
theorem mrg_split (A2 B2:List α):∀ (n:Nat) (A1 B1:List α),A1.length+B1.length≤n→(∀ b∈B1,∀ a∈A2,k a < k b)→(∀ a∈A1,∀ b∈B2,k b≤k a) →
 mrg k (A1++A2) (B1++B2)=mrg k A1 B1++mrg k A2 B2:=by
 intro n
 induction n with
 | zero =>
   intro A1 B1 hn _ _
   obtain rfl:A1=[]:=List.length_eq_zero_iff.1 (by omega)
   obtain rfl:B1=[]:=List.length_eq_zero_iff.1 (by omega)
   simp [mrg_nil_left]
 | succ n ih =>
   intro A1 B1 hn h1 h2
   cases A1 with
   | nil =>
     cases B1 with
     | nil=>simp [mrg_nil_left]
     | cons b B1 =>
       rw [mrg_nil_left,List.nil_append]
       cases A2 with
       | nil=>rw [mrg_nil_left,mrg_nil_left]
       | cons a A2 =>
         rw [List.cons_append,mrg_cons,if_pos (h1 b List.mem_cons_self a List.mem_cons_self)]
         have:=ih [] B1 (by simp at hn ⊢;omega) (fun b hb=>h1 b (List.mem_cons_of_mem _ hb)) h2
         rw [List.nil_append,mrg_nil_left] at this
         rw [this,List.cons_append]
   | cons a A1 =>
     cases B1 with
     | nil =>
       rw [mrg_nil_right,List.nil_append]
       cases B2 with
       | nil=>rw [mrg_nil_right,mrg_nil_right]
       | cons b B2 =>
         rw [List.cons_append,mrg_cons,if_neg (by have:=h2 a List.mem_cons_self b List.mem_cons_self;omega)]
         have:=ih A1 [] (by simp at hn ⊢;omega) h1 (fun a ha=>h2 a (List.mem_cons_of_mem _ ha))
         rw [List.nil_append,mrg_nil_right] at this
         rw [this,List.cons_append]
     | cons b B1 =>
       rw [List.cons_append,List.cons_append,mrg_cons,mrg_cons]
       split
       · rw [←List.cons_append,ih (a::A1) B1 (by simp at hn ⊢;omega) (fun b hb=>h1 b (List.mem_cons_of_mem _ hb)) h2,List.cons_append]
       · rw [←List.cons_append,ih A1 (b::B1) (by simp at hn ⊢;omega) h1 (fun a ha=>h2 a (List.mem_cons_of_mem _ ha)),List.cons_append]
theorem mrg_app {A1 A2 B1 B2:List α} (h1:∀ b∈B1,∀ a∈A2,k a < k b) (h2:∀ a∈A1,∀ b∈B2,k b≤k a) :
 mrg k (A1++A2) (B1++B2)=mrg k A1 B1++mrg k A2 B2:=mrg_split k A2 B2 _ A1 B1 (Nat.le_refl _) h1 h2
theorem mrg_length (A B:List α):(mrg k A B).length=A.length+B.length:=by
 fun_induction mrg k A B<;>simp_all<;>omega
theorem mrg_mem (A B:List α) (x:α):x∈mrg k A B↔x∈A∨x∈B:=by
 fun_induction mrg k A B with
 | case1=>simp
 | case2=>simp
 | case3 a A b B h ih=>simp only [List.mem_cons,ih];grind
 | case4 a A b B h ih=>simp only [List.mem_cons,ih];grind
def Fall (l:List α):Prop:=l.Pairwise fun a b=>k b≤k a
theorem mrg_fall {A B:List α} (hA:Fall k A) (hB:Fall k B):Fall k (mrg k A B):=by
 fun_induction mrg k A B with
 | case1=>exact hB
 | case2=>exact hA
 | case3 a A b B h ih =>
   unfold Fall at *
   rw [List.pairwise_cons] at hB ⊢
   refine ⟨fun x hx=>?_,ih hA hB.2⟩
   rcases (mrg_mem k _ _ x).1 hx with hx | hx
   · rw [List.pairwise_cons] at hA
     rcases List.mem_cons.1 hx with rfl | hx
     · omega
     · have:=hA.1 x hx;omega
   · exact hB.1 x hx
 | case4 a A b B h ih =>
   unfold Fall at *
   rw [List.pairwise_cons] at hA ⊢
   refine ⟨fun x hx=>?_,ih hA.2 hB⟩
   rcases (mrg_mem k _ _ x).1 hx with hx | hx
   · exact hA.1 x hx
   · rw [List.pairwise_cons] at hB
     rcases List.mem_cons.1 hx with rfl | hx
     · omega
     · have:=hB.1 x hx;omega
def ins (x:α) (l:List α):List α:=l.filter (fun y=>decide (k x≤k y))++x::l.filter (fun y=>decide (k y < k x))
def srt (l:List α):List α:=l.foldl (fun r x=>ins k x r) []
theorem srt_snoc (l:List α) (x:α):srt k (l++[x])=ins k x (srt k l):=by unfold srt;rw [List.foldl_append];rfl
theorem srt_nil:srt k ([]:List α)=[]:=rfl
theorem filter_split (x:Int) {l:List α} (h:Fall k l):l.filter (fun y=>decide (x≤k y))++l.filter (fun y=>decide (k y < x))=l:=by
 induction l with
 | nil=>rfl
 | cons a l ih =>
   unfold Fall at h
   rw [List.pairwise_cons] at h
   have:=ih h.2
   by_cases hx:x≤k a
   · rw [List.filter_cons_of_pos (by simpa using hx),List.filter_cons_of_neg (by simp;omega),List.cons_append,this]
   · have e1:l.filter (fun y=>decide (x≤k y))=[]:=by
      rw [List.filter_eq_nil_iff];intro y hy;have:=h.1 y hy;simp;omega
     have e2:l.filter (fun y=>decide (k y < x))=l:=by
      rw [List.filter_eq_self];intro y hy;have:=h.1 y hy;simp;omega
     rw [List.filter_cons_of_neg (by simpa using hx),List.filter_cons_of_pos (by simp;omega),e1,e2,List.nil_append]
theorem ins_fall {x:α} {l:List α} (h:Fall k l):Fall k (ins k x l):=by
 unfold Fall ins at *
 rw [List.pairwise_append]
 refine ⟨h.filter _,?_,?_⟩
 · rw [List.pairwise_cons]
   refine ⟨fun y hy=>?_,h.filter _⟩
   have:=(List.mem_filter.1 hy).2
   simp at this;omega
 · intro a ha b hb
   have h1:=(List.mem_filter.1 ha).2
   simp at h1
   rcases List.mem_cons.1 hb with rfl | hb
   · exact h1
   · have h2:=(List.mem_filter.1 hb).2
     simp at h2;omega
theorem snoc_ind {P:List α→Prop} (l:List α) (h0:P []) (h1:∀ l x,P l→P (l++[x])):P l:=by
 rw [←List.reverse_reverse l]
 induction l.reverse with
 | nil=>exact h0
 | cons x r ih=>rw [List.reverse_cons];exact h1 _ _ ih
theorem srt_fall (l:List α):Fall k (srt k l) :=
 snoc_ind (P:=fun l=>Fall k (srt k l)) l List.Pairwise.nil (fun l x h=>by rw [srt_snoc];exact ins_fall k h)
theorem ins_perm {x:α} {l:List α} (h:Fall k l):(ins k x l).Perm (x::l):=by
 unfold ins
 have:=filter_split k (k x) h
 refine List.perm_middle.trans ?_
 rw [this]
theorem srt_perm (l:List α):(srt k l).Perm l :=
 snoc_ind (P:=fun l=>(srt k l).Perm l) l (List.Perm.refl _) (fun l x h=>by
  rw [srt_snoc]
  refine (ins_perm k (srt_fall k l)).trans ?_
  exact ((h.cons x).trans (List.perm_append_singleton x l).symm))
theorem srt_length (l:List α):(srt k l).length=l.length:=(srt_perm k l).length_eq
theorem mrg_ins {x:α} {S T:List α} (hS:Fall k S) (hT:Fall k T):mrg k S (ins k x T)=ins k x (mrg k S T):=by
 have eS:=filter_split k (k x) hS
 have eT:=filter_split k (k x) hT
 have eM:=filter_split k (k x) (mrg_fall k hS hT)
 obtain ⟨S1,hS1⟩:∃ S1,S1=S.filter (fun y=>decide (k x≤k y)):=⟨_,rfl⟩
 obtain ⟨S2,hS2⟩:∃ S2,S2=S.filter (fun y=>decide (k y < k x)):=⟨_,rfl⟩
 obtain ⟨T1,hT1⟩:∃ T1,T1=T.filter (fun y=>decide (k x≤k y)):=⟨_,rfl⟩
 obtain ⟨T2,hT2⟩:∃ T2,T2=T.filter (fun y=>decide (k y < k x)):=⟨_,rfl⟩
 have g1:∀ a∈S1,k x≤k a:=fun a ha=>by rw [hS1] at ha;simpa using (List.mem_filter.1 ha).2
 have g2:∀ a∈S2,k a < k x:=fun a ha=>by rw [hS2] at ha;simpa using (List.mem_filter.1 ha).2
 have g3:∀ a∈T1,k x≤k a:=fun a ha=>by rw [hT1] at ha;simpa using (List.mem_filter.1 ha).2
 have g4:∀ a∈T2,k a < k x:=fun a ha=>by rw [hT2] at ha;simpa using (List.mem_filter.1 ha).2
 rw [←hS1,←hS2] at eS
 rw [←hT1,←hT2] at eT
 have hM:mrg k S T=mrg k S1 T1++mrg k S2 T2:=by
  rw [←eS,←eT]
  exact mrg_app k (fun b hb a ha=>by have:=g3 b hb;have:=g2 a ha;omega) (fun a ha b hb=>by have:=g1 a ha;have:=g4 b hb;omega)
 have m1:∀ a∈mrg k S1 T1,k x≤k a:=fun a ha=>by
  rcases (mrg_mem k _ _ a).1 ha with h | h
  · exact g1 a h
  · exact g3 a h
 have m2:∀ a∈mrg k S2 T2,k a < k x:=fun a ha=>by
  rcases (mrg_mem k _ _ a).1 ha with h | h
  · exact g2 a h
  · exact g4 a h
 unfold ins
 rw [←hT1,←hT2,hM,List.filter_append,List.filter_append]
 rw [List.filter_eq_self.2 (fun a ha=>by simpa using m1 a ha),List.filter_eq_nil_iff.2 (fun a ha=>by have:=m2 a ha;simp;omega),List.append_nil]
 rw [List.filter_eq_nil_iff.2 (fun a ha=>by have:=m1 a ha;simp;omega),List.filter_eq_self.2 (fun a ha=>by simpa using m2 a ha),List.nil_append]
 rw [←eS,show T1++x::T2=(T1++[x])++T2 by simp,mrg_app k (A1:=S1) (A2:=S2) (B1:=T1++[x]) (B2:=T2)]
 · have:mrg k S1 (T1++[x])=mrg k S1 T1++[x]:=by
    have:=mrg_app k (A1:=S1) (A2:=[]) (B1:=T1) (B2:=[x]) (by simp) (by simpa using g1)
    rwa [List.append_nil,mrg_nil_left] at this
   rw [this];simp
 · intro b hb a ha
   have:=g2 a ha
   rcases List.mem_append.1 hb with hb | hb
   · have:=g3 b hb;omega
   · simp at hb;subst hb;exact this
 · intro a ha b hb
   have:=g1 a ha;have:=g4 b hb;omega
theorem srt_append (A B:List α):srt k (A++B)=mrg k (srt k A) (srt k B) :=
 snoc_ind (P:=fun B=>srt k (A++B)=mrg k (srt k A) (srt k B)) B (by rw [List.append_nil,srt_nil,mrg_nil_right]) (fun B x h=>by
  rw [←List.append_assoc,srt_snoc,h,srt_snoc,mrg_ins k (srt_fall k A) (srt_fall k B)])
theorem ins_at {x:α} {l:List α} {j:Nat} (h1:∀ y∈l.take j,k x≤k y) (h2:∀ y∈l.drop j,k y < k x):ins k x l=l.take j++x::l.drop j:=by
 unfold ins
 have e:l=l.take j++l.drop j:=(List.take_append_drop j l).symm
 rw [e,List.filter_append,List.filter_append]
 rw [List.filter_eq_self.2 (fun a ha=>by simpa using h1 a ha),List.filter_eq_nil_iff.2 (fun a ha=>by have:=h2 a ha;simp;omega),List.append_nil]
 rw [List.filter_eq_nil_iff.2 (fun a ha=>by have:=h1 a ha;simp;omega),List.filter_eq_self.2 (fun a ha=>by simpa using h2 a ha),List.nil_append,←e]
end
end

section
open Go.RowKit
def RowI (w:World) (g cap:Nat) (xs:List Int):Prop:=w.ownsRow 0 3 1 (.slice (some ⟨g,0,none⟩) xs.length cap) xs.length (xs.map encI)
theorem RowI.keep {S:Nat→Prop} {w w':World} {g cap:Nat} {xs:List Int} (h:RowI w g cap xs) (hm:Mod S w w') (hs:¬ S g):RowI w' g cap xs :=
 ownsRow_keep h hm (fun x hx=>by injection hx with hx;simp only at hx;rw [←hx];exact hs)
theorem RowI.cell {w:World} {g cap:Nat} {xs:List Int} (h:RowI w g cap xs) {j:Nat} {x:Int} (hj:xs[j]?=some x):w.cell? ⟨g,j,none⟩=some (.int .i64 x):=by
 have hlt:=(ζi.1 hj).1
 rw [h.cellAt j (by simpa using hlt),List.getElem?_map,hj];rfl
theorem RowI.frozen {w:World} {g cap:Nat} {xs:List Int} (h:RowI w g cap xs) (j:Nat):w.frozen? ⟨g,j,none⟩=false:=frozen_row' h j
theorem RowI.lt {w:World} {g cap:Nat} {xs:List Int} (h:RowI w g cap xs):g < w.heap.size:=ownsRow_lt h g rfl
theorem RowI.set {w:World} {g cap:Nat} {xs:List Int} (h:RowI w g cap xs) (j:Nat) (x:Int):RowI (w.setCell ⟨g,j,none⟩ (.int .i64 x)) g cap (xs.set j x):=by
 unfold RowI
 rw [List.length_set,List.map_set]
 exact ownsRow_put' h j (.int .i64 x)
theorem RowI.few {w:World} {g cap:Nat} {xs:List Int} (h:RowI w g cap xs):xs.length≤cap∧cap≤maxLen:=by
 rcases id h.2 with ⟨h0,_⟩ | ⟨g',cap',cur,hv,hb,hg,h1,h2,h3,h4⟩
 · cases h0
 · injection hv with _ _ e3
   rw [e3]
   exact ⟨h1,h2⟩
structure CmpAt (k:Int→Int) (c:Int→Int→Int) (fn:Nat) (lb:Array Value) (g:Nat) (w:World):Prop where
 call:∀ (x y:Int) (w':World),Mod (fun b=>b=g) w w'→Calls Tryz.prog fn (#[.int .i64 x,.int .i64 y]++lb) w' fun e w''=>e=.returned (.int .i64 (c x y))∧Mod (fun _=>False) w' w''
 less:∀ x y,decide (c x y < 0)=decide (k y < k x)
 enter:∀ (args:Array Value) (w':World),(callFunc fn args).run Tryz.prog w'=.ok (.enter fn args) w'
theorem CmpAt.at {k:Int→Int} {c:Int→Int→Int} {fn:Nat} {lb:Array Value} {g:Nat} {w w':World} (h:CmpAt k c fn lb g w) (hm:Mod (fun b=>b=g) w w'):CmpAt k c fn lb g w' :=
 ⟨fun x y w'' h'=>h.call x y w'' (hm.trans h'),h.less,h.enter⟩
theorem swap_set {α:Type} (L M:List α) (x y:α):(((L++y::x::M).set (L.length+1) y).set L.length x)=L++x::y::M:=by
 rw [List.set_append_right _ _ (by omega),Nat.add_sub_cancel_left,List.set_append_right _ _ (by omega),Nat.sub_self]
 rfl
theorem get_app {α:Type} (L M:List α) (x:α):(L++x::M)[L.length]?=some x:=by
 rw [List.getElem?_append_right (by omega),Nat.sub_self];rfl
theorem get_app1 {α:Type} (L M:List α) (x y:α):(L++y::x::M)[L.length+1]?=some x:=by
 rw [List.getElem?_append_right (by omega),Nat.add_sub_cancel_left];rfl
theorem isort_any (k:Int→Int) (c:Int→Int→Int) (fn:Nat) (lb:Array Value) (g cap:Nat) (P A R:List Int) (w:World) (hrow:RowI w g cap (P++A++R)) (hc:CmpAt k c fn lb g w) (hfew:(P++A++R).length≤1000000000) :
 Calls Tryz.prog 271 #[.slice (some ⟨g,0,none⟩) (P++A++R).length cap,.int .i64 P.length,.int .i64 (P++A).length,.func (.func fn) #[] lb] w fun e w' =>
  e=.returned (.tuple #[])∧Mod (fun b=>b=g) w w'∧RowI w' g cap (P++srt k A++R):=by
 obtain ⟨hlc,hmax⟩:=hrow.few
 unfold maxLen at hmax
 have henter:=hc.enter
 have HC:=ζh hc
 obtain ⟨n,hn⟩:∃ n,n=(P++A++R).length:=⟨_,rfl⟩
 obtain ⟨a,ha⟩:∃ a,a=P.length:=⟨_,rfl⟩
 obtain ⟨b,hb⟩:∃ b,b=(P++A).length:=⟨_,rfl⟩
 rw [←hn] at hlc hfew
 rw [←hn,←ha,←hb]
 have hab:a≤b:=by rw [ha,hb];simp
 have hbn:b≤n:=by rw [hb,hn];simp
 have Hn:=ζh hn
 have Ha:=ζh ha
 have Hb:=ζh hb
 clear hc hn ha hb
 go_enter Tryz.func271,Tryz.ntmps271
 go_wp2_with fail
 go_loopw [8] (fun i wr=>∃ j m:Nat,1≤j∧m=a+j∧i=.int .i64 (m:Int)∧(j≤A.length∨A=[])∧Mod (fun b=>b=g) w wr∧RowI wr g cap (P++srt k (A.take j)++A.drop j++R)) (fun i _=>b - (intOf i).toNat)
 case atStart =>
  refine ⟨1,a+1,by omega,rfl,by go_num,?_,Mod.refl _ _,?_⟩
  · cases A with
    | nil=>exact .inr rfl
    | cons x A=>exact .inl (by simp)
  · cases A with
    | nil=>simpa [srt_nil] using hrow
    | cons x A =>
      have:srt k ((x::A).take 1)=[x]:=rfl
      rw [this]
      simpa using hrow
 case round =>
  obtain ⟨j,m,hj,hmj,rfl,hjA,hm,hr⟩:=hrel
  obtain ⟨wo,rfl⟩:∃ wo:World,wo=wr:=⟨_,rfl⟩
  have hb:=Hb.out
  have ha:=Ha.out
  have hn:=Hn.out
  by_cases hlt:j < A.length
  · have hbl:m < b:=by rw [hmj,hb,ha,List.length_append];omega
    clear hb ha hn hrow
    obtain ⟨x,hx⟩:∃ x,A[j]?=some x:=⟨_,ζg hlt⟩
    obtain ⟨S,hS⟩:∃ S,S=srt k (A.take j):=⟨_,rfl⟩
    have hSl:S.length=j:=by rw [hS,srt_length,List.length_take];omega
    have hSf:Fall k S:=by rw [hS];exact srt_fall k _
    have hd:A.drop j=x::A.drop (j+1):=by
     have h1:=(ζi.1 hx)
     rw [List.drop_eq_getElem_cons h1.1,h1.2]
    have hs1:srt k (A.take (j+1))=ins k x S:=by
     rw [List.take_add_one,hx,Option.toList_some,srt_snoc,hS]
    rw [←hS,hd] at hr
    have HS1:=ζh hs1
    clear hs1 hS hd hx
    have HMJ:=ζh hmj
    have hx0:RowI wo g cap ((P++S)++x::(A.drop (j+1)++R)):=by simpa using hr
    have hsl:(P++S).length=m:=by rw [List.length_append,hSl,hmj,Ha.out]
    clear hr hmj
    go_wp2_with fail
    go_loopw [9] (fun i wi=>∃ q t:Nat,q≤j∧t=a+q∧i=.int .i64 (t:Int)∧Mod (fun b=>b=g) w wi∧RowI wi g cap (P++S.take q++x::(S.drop q++A.drop (j+1)++R))∧∀ y∈S.drop q,k y < k x) (fun i _=>(intOf i).toNat)
    case atStart =>
     refine ⟨j,m,Nat.le_refl _,HMJ.out,rfl,hm,?_,?_⟩
     · rw [List.take_of_length_le (by omega),List.drop_of_length_le (by omega)]
       simpa using hx0
     · rw [List.drop_of_length_le (by omega)];intro y hy;cases hy
    case round =>
     obtain ⟨q,t,hq,ht,rfl,hmi,hri,hall⟩:=hrel
     obtain ⟨wi,rfl⟩:∃ wi:World,wi=wr:=⟨_,rfl⟩
     cases q with
     | zero =>
       have hdone:RowI wi g cap (P++srt k (A.take (j+1))++A.drop (j+1)++R):=by
        rw [HS1.out,ins_at k (j:=0) (by simp) (by simpa using hall)]
        simpa using hri
       obtain rfl:t=a:=by omega
       have HD:=ζh hdone
       clear hri hall hx0 hdone ht
       go_wp2_with fail
       go_quiet (fail)
       go_wp2_with fail
       go_roundw
       case rel=>exact ⟨j+1,m+1,by omega,by have:=HMJ.out;omega,by go_num,.inl (by omega),hmi.drewN _,HD.out.keep (Mod.drewN' (fun _=>False) _ _) (fun x=>x)⟩
       case measure=>simp [intOf];omega
     | succ q =>
       obtain ⟨y,hy⟩:∃ y,S[q]?=some y:=⟨_,ζg (by omega)⟩
       have hyt:S.take (q+1)=S.take q++[y]:=by rw [List.take_add_one,hy];rfl
       have hyd:S.drop q=y::S.drop (q+1):=by
        have h1:=(ζi.1 hy)
        rw [List.drop_eq_getElem_cons h1.1,h1.2]
       have hL:(P++S.take q).length=a+q:=by rw [List.length_append,List.length_take,Ha.out];omega
       obtain ⟨L,hLe⟩:∃ L,L=P++S.take q:=⟨_,rfl⟩
       obtain ⟨M,hMe⟩:∃ M,M=S.drop (q+1)++A.drop (j+1)++R:=⟨_,rfl⟩
       have hr2:RowI wi g cap (L++y::x::M):=by rw [hLe,hMe];rw [hyt] at hri;simpa using hri
       rw [←hLe] at hL
       have c0:=hr2.cell (get_app L (x::M) y)
       have c1:=hr2.cell (get_app1 L M x y)
       rw [hL] at c0 c1
       have d0:decide ((a:Int) < (t:Int))=true:=decide_eq_true (by omega)
       have hcl:=fun w' h'=>HC.out.call x y w' h'
       have hless:=HC.out.less x y
       have HM:=ζh hmi
       obtain ⟨u,hu⟩:∃ u,u=a+q:=⟨_,rfl⟩
       obtain rfl:t=u+1:=by omega
       have hub:u+1≤m:=by have:=HMJ.out;omega
       rw [←hu] at c0 c1 hL
       have d1:decide ((a:Int) < (u:Int)+1)=true:=decide_eq_true (by omega)
       have HU:=ζh hu
       have hi0:(0:Int)≤(u:Int):=by omega
       have hi1:(u:Int)+1 < n:=by omega
       have hi3:((u+1:Nat):Int) < n:=by omega
       have hi4:0≤((u+1:Nat):Int):=by omega
       have hi5:0≤(u:Int)+1:=by omega
       have hwr:IntKind.i64.wrap (u:Int)=(u:Int):=wrap_small _ (by omega) (by omega)
       have hi2:(u:Int) < n:=by omega
       cases hlt2:decide (k y < k x)
       case false =>
        rw [hlt2] at hless
        have hdone:RowI wi g cap (P++srt k (A.take (j+1))++A.drop (j+1)++R):=by
         have hxy:k x≤k y:=by simpa using hlt2
         rw [HS1.out,ins_at k (j:=q+1) (fun z hz=>?_) hall]
         · simpa using hri
         · rw [hyt] at hz
           rcases List.mem_append.1 hz with hz | hz
           · have hf:Fall k (S.take q++(y::S.drop (q+1))):=by rw [←hyd,List.take_append_drop];exact hSf
             unfold Fall at hf
             rw [List.pairwise_append] at hf
             have:=hf.2.2 z hz y List.mem_cons_self
             omega
           · rw [List.mem_singleton.1 hz];exact hxy
        have HD:=ζh hdone
        clear hri hall hx0 hlt2 hy hyt hyd hLe hMe hr2 ht hu hL hdone
        go_wp2_with fail
        go_still_tail 14,(by kernel_rfl)
        go_wp2_with fail
        refine (hcl _ HM.out.drew).mono ?_
        rintro e w1 ⟨rfl,hm1⟩
        go_wp2_with fail
        go_roundw
        case rel=>exact ⟨j+1,m+1,by omega,by have:=HMJ.out;omega,by go_num,.inl (by omega),HM.out.drew.trans (hm1.mono (fun _ x=>x.elim)),HD.out.keep ((Mod.refl (fun _=>False) _).drew.trans hm1) (fun x=>x)⟩
        case measure=>simp [intOf];omega
       case true =>
        rw [hlt2] at hless
        have hnext:P++S.take q++x::(S.drop q++A.drop (j+1)++R)=L++x::y::M:=by rw [hyd,hLe,hMe];simp
        have hall2:∀ z∈S.drop q,k z < k x:=by
         rw [hyd]
         intro z hz
         rcases List.mem_cons.1 hz with rfl | hz
         · simpa using hlt2
         · exact hall z hz
        have HN:=ζh hnext
        have HA2:=ζh hall2
        have HR2:=ζh hr2
        have HL:=ζh hL
        clear hri hall hx0 hlt2 hy hyt hyd hLe hMe hr2 ht hu hL hnext hall2
        go_wp2_with fail
        go_still_tail 14,(by kernel_rfl)
        go_wp2_with fail
        refine (hcl _ HM.out.drew).mono ?_
        rintro e w1 ⟨rfl,hm1⟩
        have hm2:Mod (fun _=>False) wi w1:=(Mod.refl (fun _=>False) _).drew.trans hm1
        have hr3:=HR2.out.keep hm2 (fun x=>x)
        have f0:=hr3.frozen u
        have f1:=hr3.frozen (u+1)
        have e0:=hm2.keeps c0 (fun x=>x)
        have e1:=hm2.keeps c1 (fun x=>x)
        clear c0 c1
        have hs1:=(hr3.set (u+1) y).set u x
        rw [←HL.out,swap_set,HL.out] at hs1
        have HS3:=ζh hs1
        clear hs1 hr3
        go_wp2_with fail
        go_region
        go_wp2_with fail
        go_roundw
        case rel =>
         refine ⟨q,u,by omega,HU.out,by go_num,?_,?_,HA2.out⟩
         · exact ((HM.out.trans (hm2.mono (fun _ x=>x.elim))).setCell (.inl rfl) _).setCell (.inl rfl) _ |>.drew
         · rw [HN.out];exact HS3.out.keep (Mod.refl (fun _=>False) _).drew (fun x=>x)
        case measure=>simp [intOf]
  · have hend:RowI wo g cap (P++srt k A++R):=by
     rcases hjA with h | rfl
     · obtain rfl:j=A.length:=by omega
       rw [List.take_length,List.drop_length,List.append_nil] at hr
       exact hr
     · simpa [srt_nil] using hr
    have hge:¬ (m < b):=by
     rw [hmj,hb,ha,List.length_append]
     rcases hjA with h | rfl
     · omega
     · simp
    have HE:=ζh hend
    clear hr hend hb ha hn hrow
    go_wp2_with fail
    go_end0
    exact ⟨rfl,hm,HE.out⟩
end
end Go.Proofs.YtkfoeonggmlebaaGreatDoor
