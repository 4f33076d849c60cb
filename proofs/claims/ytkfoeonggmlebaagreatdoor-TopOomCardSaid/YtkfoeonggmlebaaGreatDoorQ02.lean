/-
  Contracts of the program's functions, and plain facts, towards the laws of millpondtop. No condition beyond those that each theorem bears.
-/
import Derived.Test.YtkfoeonggmlebaaGreatDoorRows
import Derived.Test.YtkfoeonggmlebaaGreatDoorQ01
import Derived.Test.YtkfoeonggmlebaaGreatDoorQAA
set_option maxRecDepth 100000
set_option maxHeartbeats 4000000
namespace Go.Proofs.YtkfoeonggmlebaaGreatDoor
namespace Fil
open Go.RowKit
structure FS where
 sizes:List Int
 l:List (KV (Int × Int))
 writes:Int
def sizeAt (S:FS) (f:Int):Int:=if 0≤f∧f < S.sizes.length then S.sizes.getD f.toNat 0 else 0
def WLo (_:Int):Prop:=(0:Int)≤0
structure FilesIs (w:World) (b mb:Nat) (sv:Value) (S:FS):Prop where
 blk:Blk w b #[sv,.map (some mb),.int .i64 S.writes] 104
 own:w.ownsRow 0 3 1 sv S.sizes.length (S.sizes.map (Value.int .i64))
 map:∃ c,MapIs ekTwo w mb S.l c
 few:S.sizes.length≤32
 lim:∀ n∈S.sizes,0≤n∧n≤4096
 vals:∀ e∈S.l,∃ s:ByteArray,e.val=.string s
 wlo:WLo S.writes
theorem FilesIs.keep {Z:Nat→Prop} {w w':World} {b mb:Nat} {sv:Value} {S:FS} (h:FilesIs w b mb sv S) (hm:Mod Z w w') (h1:¬ Z b) (h2:¬ Z mb) (h3:∀ g,sv.ownBlock=some g→¬ Z g):FilesIs w' b mb sv S where
 blk:=h.blk.keep hm h1
 own:=ownsRow_keep h.own hm h3
 map:=let ⟨c,hc⟩:=h.map;⟨c,hc.keep hm h2⟩
 few:=h.few
 lim:=h.lim
 vals:=h.vals
 wlo:=h.wlo
theorem FilesIs.keepN {w w':World} {b mb:Nat} {sv:Value} {S:FS} (h:FilesIs w b mb sv S) (hm:Mod (fun _=>False) w w'):FilesIs w' b mb sv S:=h.keep hm (fun x=>x) (fun x=>x) (fun _ _ x=>x)
theorem size_any (b mb:Nat) (sv:Value) (S:FS) (f:Int) (w:World) (h:FilesIs w b mb sv S) :
 Calls Tryz.prog 102 #[.pointer (some ⟨b,0,none⟩),.int .i64 f] w fun e w'=>e=.returned (.int .i64 (sizeAt S f))∧w=w':=by
 have hb:=h.blk
 have hown:=h.own
 have hc0:=hb.cell 0
 simp only [ζa,ζb] at hc0
 have hfew:=h.few
 by_cases h0:f < 0
 · have e1:sizeAt S f=0:=by unfold sizeAt;rw [if_neg (by omega)]
   rw [e1]
   clear e1
   go_enter Tryz.func102,Tryz.ntmps102
   go_wp2
   go_ret
   exact ⟨rfl,rfl⟩
 · obtain ⟨k,rfl⟩:=Int.eq_ofNat_of_zero_le (show 0≤f by omega)
   by_cases h1:S.sizes.length≤k
   · have e1:sizeAt S k=0:=by unfold sizeAt;rw [if_neg (by omega)]
     rw [e1]
     clear e1
     rcases hown.2 with ⟨rfl,hn⟩ | ⟨g,cap,cur,rfl,_⟩
     · have hk:¬ ((k:Int) < 0):=by omega
       go_enter Tryz.func102,Tryz.ntmps102
       go_wp2
       go_ret
       exact ⟨rfl,rfl⟩
     · go_enter Tryz.func102,Tryz.ntmps102
       go_wp2
       go_ret
       exact ⟨rfl,rfl⟩
   · have e1:sizeAt S k=S.sizes[k]:=by
      unfold sizeAt;rw [if_pos (by omega),Int.toNat_natCast,List.getD_eq_getElem?_getD,ζg (by omega)];rfl
     rw [e1]
     clear e1
     rcases hown.2 with ⟨rfl,hn⟩ | ⟨g,cap,cur,rfl,_⟩
     · omega
     · have hck:=hown.cellAt k (by omega)
       rw [List.getElem?_map,ζg (by omega)] at hck
       simp only [Option.map_some] at hck
       have hlt:k < S.sizes.length:=by omega
       go_enter Tryz.func102,Tryz.ntmps102
       go_wp2
       go_ret
       exact ⟨rfl,rfl⟩
def hasB (S:FS) (f i:Int):Bool:=decide (0≤i)&&decide (i < sizeAt S f)
theorem has_any (b mb:Nat) (sv:Value) (S:FS) (f i:Int) (w:World) (h:FilesIs w b mb sv S) :
 Calls Tryz.prog 233 #[.pointer (some ⟨b,0,none⟩),.agg #[.int .i64 f,.int .i64 i]] w fun e w'=>e=.returned (.bool (hasB S f i))∧Mod (fun _=>False) w w':=by
 by_cases h0:0≤i
 · have e1:hasB S f i=decide (i < sizeAt S f):=by unfold hasB;simp [h0]
   rw [e1];clear e1
   go_enter Tryz.func233,Tryz.ntmps233
   go_wp2
   go_quiet ((go_at_call 102;exact quiet_same (size_any b mb sv S f _ ((h.keepN (Mod.alloc' _ _ _)).keepN (Mod.drewN' _ _ _)))))
   go_wp2
   go_ret
   exact ⟨rfl,(Mod.alloc' _ _ _).drewN _⟩
 · have e1:hasB S f i=false:=by unfold hasB;simp [h0]
   rw [e1];clear e1
   have h0':decide (0≤i)=false:=by simp [h0]
   go_enter Tryz.func233,Tryz.ntmps233
   go_wp2
   go_quiet (fail)
   go_wp2
   go_ret
   exact ⟨rfl,(Mod.alloc' _ _ _).drewN _⟩
def lowOf (f x:Int):Int:=f%256 * 31+x%256 * 7
def firstL (f x:Int):List Int:=(List.range 16).map fun (i:Nat)=>(lowOf f x+(i:Int))%256
def firstOf (f x:Int):ByteArray:=strOf (firstL f x)
theorem first_any (f x:Int) (w:World) :
 Calls Tryz.prog 234 #[.agg #[.int .i64 f,.int .i64 x]] w fun e w'=>e=.returned (.string (firstOf f x))∧Mod (fun _=>False) w w':=by
 have hconv:=fun (w0:World) (b:Nat) (hb:b=w0.heap.size) (a0 a1 a2 a3 a4 a5 a6 a7 a8 a9 a10 a11 a12 a13 a14 a15:Int)=>run_conv_cells (P:=Tryz.prog) Tryz.underlying39 Tryz.underlying5 Tryz.underlying9 w0 [a0,a1,a2,a3,a4,a5,a6,a7,a8,a9,a10,a11,a12,a13,a14,a15] 303 b 16 hb rfl
 simp only [List.map_cons,List.map_nil] at hconv
 go_enter Tryz.func234,Tryz.ntmps234
 go_wp2
 go_rounds 17
 go_ret
 refine ⟨?_,((Mod.alloc' _ _ _).alloc _)⟩
 unfold firstOf firstL lowOf
 simp [List.range,List.range.loop]
theorem key_eq (a b:Int × Int) (w:World):(Op.equal 190 (ekTwo a) (ekTwo b)).run Tryz.prog w=.ok (decide (a=b)) w:=by
 have h:=run_equalIn_struct (P:=Tryz.prog) w 9999 190 #[.int .i64 a.1,.int .i64 a.2] #[.int .i64 b.1,.int .i64 b.2] (by kernel_rfl) (by kernel_rfl)
 show (Op.equalIn (9999+1) 190 (ekTwo a) (ekTwo b)).run Tryz.prog w=_
 unfold ekTwo
 rw [h]
 simp [go_sem]
 obtain ⟨a1,a2⟩:=a
 obtain ⟨b1,b2⟩:=b
 by_cases h1:a1=b1<;>by_cases h2:a2=b2<;>simp [h1,h2]
theorem key_check (em:Bool) (k:Int × Int) (w:World):(Instr.checkKey em 10000 190 (ekTwo k)).run Tryz.prog w=.ok () w:=by
 show (Instr.checkKey em (9999+1) 190 (ekTwo k)).run Tryz.prog w=_
 have h:=fun x w=>run_checkKey_int (P:=Tryz.prog) Tryz.underlying3 em 9998 x w
 unfold ekTwo Instr.checkKey
 simp [go_sem,h]
theorem mkey_key:MKey Tryz.prog 190 ekTwo:=mkey_two key_eq (fs:=Tryz.prog.fieldsOf 190) (by kernel_rfl) key_check
def readS (S:FS) (f i:Int):ByteArray × Int :=
 if hasB S f i then
  match getKV (f,i) S.l with
  | some (.string s)=>(s,0)
  | _=>(firstOf f i,0)
 else (⟨#[]⟩,2)
theorem read_any (b mb:Nat) (sv:Value) (S:FS) (f i:Int) (w:World) (h:FilesIs w b mb sv S) :
 Calls Tryz.prog 186 #[.pointer (some ⟨b,0,none⟩),.agg #[.int .i64 f,.int .i64 i]] w fun e w' =>
  e=.returned (.tuple #[.string (readS S f i).1,.int .i64 (readS S f i).2])∧Mod (fun _=>False) w w':=by
 have hz:=fun (w:World)=>(show (zeroValue 9).run Tryz.prog w=.ok (.string ⟨#[]⟩) w by kernel_rfl)
 obtain ⟨c,hmap⟩:=h.map
 cases hh:hasB S f i
 · have e1:readS S f i=(⟨#[]⟩,2):=by unfold readS;rw [hh];rfl
   rw [e1]
   clear e1
   go_enter Tryz.func186,Tryz.ntmps186
   go_wp2_with fail
   refine (has_any b mb sv S f i _ (h.keepN (Mod.alloc' _ _ _))).mono ?_
   rw [hh]
   clear hh
   rintro e w1 ⟨rfl,hm1⟩
   go_wp2_with fail
   go_ret2
   exact ⟨rfl,(Mod.alloc' _ _ _).trans hm1⟩
 · have hall:∀ v,getKV (f,i) S.l=some v→∃ s:ByteArray,v=.string s:=by
    intro v hv
    obtain ⟨e,he,hev⟩:=getKV_mem hv
    obtain ⟨s,hs⟩:=h.vals e he
    exact ⟨s,by rw [←hev,hs]⟩
   cases hg:getKV (f,i) S.l with
   | some v =>
     obtain ⟨s,rfl⟩:=hall v hg
     have e1:readS S f i=(s,0):=by unfold readS;rw [hh,hg];rfl
     rw [e1]
     clear e1 hall
     go_enter Tryz.func186,Tryz.ntmps186
     go_wp2_with fail
     refine (has_any b mb sv S f i _ (h.keepN (Mod.alloc' _ _ _))).mono ?_
     rw [hh]
     clear hh
     rintro e w1 ⟨rfl,hm1⟩
     have h1:=(h.keepN (Mod.alloc' _ _ _)).keepN hm1
     have hbx:=(Blk.new w #[.int .i64 f,.int .i64 i] 190).keep hm1 (fun x=>x)
     have hbx0:=hbx.cell 0
     have hbx1:=hbx.cell 1
     simp only [ζa,ζb,ζc] at hbx0 hbx1
     have hb:=h1.blk
     have hb0:=hb.cell 0
     have hb1:=hb.cell 1
     have hb2:=hb.cell 2
     simp only [ζa,ζb,ζc] at hb0 hb1 hb2
     have hlook:=fun (n:Nat)=>run_lookup_ok mkey_key Tryz.underlying102 (hz (w1.drewN n)) (((hmap.keep (Mod.alloc' (fun _=>False) _ _) (fun x=>x)).keep hm1 (fun x=>x)).keep (Mod.drewN' (fun _=>False) w1 n) (fun x=>x)) (f,i)
     simp only [hasKV,hg,ekTwo,Option.getD_some,Option.isSome_some] at hlook
     clear hg
     go_wp2_with fail
     go_quiet (fail)
     go_wp2_with fail
     go_ret2
     exact ⟨rfl,((Mod.alloc' _ _ _).trans hm1).drewN _⟩
   | none =>
     have e1:readS S f i=(firstOf f i,0):=by unfold readS;rw [hh,hg];rfl
     rw [e1]
     clear e1 hall
     go_enter Tryz.func186,Tryz.ntmps186
     go_wp2_with fail
     refine (has_any b mb sv S f i _ (h.keepN (Mod.alloc' _ _ _))).mono ?_
     rw [hh]
     clear hh
     rintro e w1 ⟨rfl,hm1⟩
     have h1:=(h.keepN (Mod.alloc' _ _ _)).keepN hm1
     have hbx:=(Blk.new w #[.int .i64 f,.int .i64 i] 190).keep hm1 (fun x=>x)
     have hbx0:=hbx.cell 0
     have hbx1:=hbx.cell 1
     simp only [ζa,ζb,ζc] at hbx0 hbx1
     have hb:=h1.blk
     have hb0:=hb.cell 0
     have hb1:=hb.cell 1
     have hb2:=hb.cell 2
     simp only [ζa,ζb,ζc] at hb0 hb1 hb2
     have hlook:=fun (n:Nat)=>run_lookup_ok mkey_key Tryz.underlying102 (hz (w1.drewN n)) (((hmap.keep (Mod.alloc' (fun _=>False) _ _) (fun x=>x)).keep hm1 (fun x=>x)).keep (Mod.drewN' (fun _=>False) w1 n) (fun x=>x)) (f,i)
     simp only [hasKV,hg,ekTwo,Option.getD_none,Option.isSome_none] at hlook
     clear hg
     go_wp2_with fail
     go_quiet (fail)
     go_wp2_with fail
     refine (first_any f i _).mono ?_
     rintro e w2 ⟨rfl,hm2⟩
     go_wp2_with fail
     go_ret2
     exact ⟨rfl,(((Mod.alloc' _ _ _).trans hm1).drewN _).trans hm2⟩
def writeE (S:FS) (f i:Int) (t:ByteArray):Int:=if hasB S f i then (if t.size=16 then 0 else 1) else 2
theorem putKV_vals {κ:Type} [DecidableEq κ] {k:κ} {v:Value} {c:Nat} {l:List (KV κ)} {p:Value→Prop} (h:∀ e∈l,p e.val) (hv:p v):∀ e∈putKV k v c l,p e.val:=by
 induction l with
 | nil=>intro e he;simp only [putKV,List.mem_singleton] at he;subst he;exact hv
 | cons x l ih =>
   intro e he
   simp only [putKV] at he
   split at he
   · rcases List.mem_cons.1 he with rfl | he
     · exact hv
     · exact h e (List.mem_cons_of_mem _ he)
   · rcases List.mem_cons.1 he with rfl | he
     · exact h e List.mem_cons_self
     · exact ih (fun e he=>h e (List.mem_cons_of_mem _ he)) e he
def writeW (S:FS) (f i:Int) (t:ByteArray) (c:Nat):FS:=if hasB S f i=true∧t.size=16 then { S with l:=putKV (f,i) (.string t) c S.l,writes:=wrap64 (S.writes+1) } else S
theorem writeW_any (b mb:Nat) (sv:Value) (S:FS) (f i:Int) (t:ByteArray) (w:World) (h:FilesIs w b mb sv S) :
 Calls Tryz.prog 196 #[.pointer (some ⟨b,0,none⟩),.agg #[.int .i64 f,.int .i64 i],.string t] w fun e w' =>
  e=.returned (.int .i64 (writeE S f i t))∧Mod (fun k=>k=b∨k=mb) w w'∧∃ c,FilesIs w' b mb sv (writeW S f i t c):=by
 obtain ⟨c,hmap⟩:=h.map
 cases hh:hasB S f i
 · have e1:writeE S f i t=2:=by unfold writeE;rw [hh];rfl
   have e2:∀ c,writeW S f i t c=S:=by intro c;unfold writeW;rw [hh];rfl
   rw [e1]
   simp only [e2]
   clear e1 e2
   go_enter Tryz.func196,Tryz.ntmps196
   go_wp2_with fail
   refine (has_any b mb sv S f i _ (h.keepN (Mod.alloc' _ _ _))).mono ?_
   rw [hh]
   clear hh
   rintro e w1 ⟨rfl,hm1⟩
   go_wp2_with fail
   go_ret
   exact ⟨rfl,((Mod.alloc' _ _ _).trans hm1).mono (fun _ x=>x.elim),c,(h.keepN (Mod.alloc' _ _ _)).keepN hm1⟩
 · by_cases hs:t.size=16
   · have e1:writeE S f i t=0:=by unfold writeE;rw [hh,hs];rfl
     have e2:∀ c,writeW S f i t c={ S with l:=putKV (f,i) (.string t) c S.l,writes:=wrap64 (S.writes+1) }:=by intro c;unfold writeW;rw [hh,hs];rfl
     rw [e1]
     simp only [e2]
     clear e1 e2
     have hs':((t.size:Int) != 16)=false:=by simp [hs]
     go_enter Tryz.func196,Tryz.ntmps196
     go_wp2_with fail
     refine (has_any b mb sv S f i _ (h.keepN (Mod.alloc' _ _ _))).mono ?_
     rw [hh]
     clear hh
     rintro e w1 ⟨rfl,hm1⟩
     have h1:=(h.keepN (Mod.alloc' _ _ _)).keepN hm1
     have hmap1:=(hmap.keep (Mod.alloc' (fun _=>False) _ _) (fun x=>x)).keep hm1 (fun x=>x)
     have hbx:=(Blk.new w #[.int .i64 f,.int .i64 i] 190).keep hm1 (fun x=>x)
     have hbx0:=hbx.cell 0
     have hbx1:=hbx.cell 1
     simp only [ζa,ζb,ζc] at hbx0 hbx1
     have hb:=h1.blk
     have hb0:=hb.cell 0
     have hb1:=hb.cell 1
     have hb2:=hb.cell 2
     simp only [ζa,ζb,ζc] at hb0 hb1 hb2
     obtain ⟨w2,c2,hrun,hmap2,hmod2,hsz2⟩:=run_mapUpdate mkey_key Tryz.underlying102 (hmap1.keep (Mod.refl (fun _=>False) w1).drew (fun x=>x)) (f,i) (.string t)
     simp only [ekTwo] at hrun
     have hbm:=hmap1.ne hb
     have hmod2:=(Mod.refl (fun i=>i=mb) w1).drew.trans hmod2
     have hb2':=hb.keep hmod2 (fun x=>hbm x.symm)
     have hc2:=hb2'.cell 2
     simp only [ζa,ζb,ζc] at hc2
     have hf2:=hb2'.frozen 2
     have HS:=ζh hs
     clear hs
     go_wp2_with fail
     go_still_tail 6,(by kernel_rfl)
     go_wp2_with fail
     go_ret
     refine ⟨rfl,?_,c,?_⟩
     · refine Mod.setCell ?_ (.inl (.inl rfl)) _
       exact (((Mod.alloc' (fun _=>False) _ _).trans hm1).mono (fun _ x=>x.elim)).trans (hmod2.mono (fun _ x=>.inr x))
     · have hown1:=ownsRow_keep h1.own hmod2 (fun g hg=>ownsRow_ne_map h1.own hmap1 g hg)
       refine ⟨?_,?_,⟨c2,?_⟩,h.few,h.lim,?_,?_⟩
       · exact hb2'.set 2 _
       · exact ownsRow_keep hown1 (mod_setCell _ _ _ _) (fun g hg=>ownsRow_ne_blk h1.own hb (by decide) g hg)
       · exact (hmap2.keep (mod_setCell w2 b 2 (.int .i64 (wrap64 (S.writes+1)))) hbm)
       · exact putKV_vals (p:=fun v=>∃ s:ByteArray,v=.string s) h.vals ⟨t,rfl⟩
       · exact Int.le_refl 0
   · have e1:writeE S f i t=1:=by unfold writeE;rw [hh];simp [hs]
     have e2:∀ c,writeW S f i t c=S:=by intro c;unfold writeW;rw [hh];simp [hs]
     rw [e1]
     simp only [e2]
     clear e1 e2
     have hs':((t.size:Int) != 16)=true:=by rw [bne_iff_ne];omega
     go_enter Tryz.func196,Tryz.ntmps196
     go_wp2_with fail
     refine (has_any b mb sv S f i _ (h.keepN (Mod.alloc' _ _ _))).mono ?_
     rw [hh]
     clear hh
     rintro e w1 ⟨rfl,hm1⟩
     go_wp2_with fail
     go_ret
     exact ⟨rfl,((Mod.alloc' _ _ _).trans hm1).mono (fun _ x=>x.elim),c,(h.keepN (Mod.alloc' _ _ _)).keepN hm1⟩
def newF (sizes:List Int):FS:={ sizes:=(sizes.take 32).map fun n=>min (max n 0) 4096,l:=[],writes:=0 }
theorem info_int:(Tryz.prog.info? 3).map (fun i=>(i.zero,i.size,i.bytes))=some (some (.int .i64 0),1,8):=by kernel_rfl
def NewRel (w:World) (sizes:List Int) (k:Nat) (wr:World):Prop :=
 ∃ sv,Blk wr (w.heap.size+1) #[sv,.map (some w.heap.size),.int .i64 0] 104∧wr.ownsRow w.heap.size 3 1 sv k (((newF sizes).sizes.take k).map (Value.int .i64))∧wr.heap[w.heap.size]?=some (.map #[] 0)∧Mod (fun _=>False) w wr∧w.heap.size+2≤wr.heap.size
theorem newF_get (sizes:List Int) (k:Nat) (h1:k < 32) (h2:k < sizes.length):(newF sizes).sizes.take (k+1)=(newF sizes).sizes.take k++[min (max (sizes.getD k 0) 0) 4096]:=by
 have hl:k < (newF sizes).sizes.length:=by simp [newF];omega
 rw [List.take_succ_eq_append_getElem hl]
 simp [newF,ζg h2]
theorem newF_len (sizes:List Int):(newF sizes).sizes.length=min 32 sizes.length:=by simp [newF]
theorem NewRel.start (w:World) (sizes:List Int):NewRel w sizes 0 ((w.alloc (Obj.map #[] 0)).alloc (Obj.cells #[Value.slice none 0 0,Value.map (some w.heap.size),Value.int IntKind.i64 0] 104)):=by
 refine ⟨.slice none 0 0,?_,⟨by simp,.inl ⟨rfl,rfl⟩⟩,?_,(Mod.alloc' _ _ _).alloc _,by simp⟩
 · have h:=Blk.new (w.alloc (Obj.map #[] 0)) #[Value.slice none 0 0,Value.map (some w.heap.size),Value.int IntKind.i64 0] 104
   simpa using h
 · have h:(w.alloc (Obj.map #[] 0)).heap[w.heap.size]?=some (.map #[] 0):=heap_alloc_new w _
   rw [Below.heap_alloc _ _ _ (by simp)]
   exact h
theorem NewRel.step {w wr w1:World} {sizes:List Int} {k g cap:Nat} {sv:Value} {x:Int} (h1:k < 32) (h2:k < sizes.length) (hx:x=min (max (sizes.getD k 0) 0) 4096)
 (hb:Blk wr (w.heap.size+1) #[sv,.map (some w.heap.size),.int .i64 0] 104) (hown:wr.ownsRow w.heap.size 3 1 sv k (((newF sizes).sizes.take k).map (Value.int .i64)))
 (hmap:wr.heap[w.heap.size]?=some (.map #[] 0)) (hmod:Mod (fun _=>False) w wr) (hsz:w.heap.size+2≤wr.heap.size)
 (o1:w1.ownsRow w.heap.size 3 1 (.slice (some ⟨g,0,none⟩) (k+1) cap) (k+1) (((newF sizes).sizes.take k).map (Value.int .i64)++[.int .i64 x]))
 (m1:Mod (fun i=>some i=sv.ownBlock) (wr.alloc (Obj.cells #[Value.int .i64 x] 3)) w1) (hg:sv.ownBlock=some g∨g=(wr.alloc (Obj.cells #[Value.int .i64 x] 3)).heap.size) :
 NewRel w sizes (k+1) (w1.setCell ⟨w.heap.size+1,0,none⟩ (.slice (some ⟨g,0,none⟩) (k+1) cap)):=by
 have hge:∀ i,sv.ownBlock=some i→w.heap.size≤i:=by
  intro i hi
  rcases hown.2 with ⟨rfl,_⟩ | ⟨g',cap',cur,rfl,hbase,_⟩
  · cases hi
  · injection hi with hi;simp only at hi;omega
 have hne:=ownsRow_ne_blk hown hb (by decide)
 have hnm:=ownsRow_ne_map hown hmap
 have hm1:=(Mod.alloc' (fun i=>some i=sv.ownBlock) wr (Obj.cells #[Value.int .i64 x] 3)).trans m1
 have hb1:=hb.keep hm1 (fun e=>hne _ e.symm rfl)
 have hgb:g≠w.heap.size+1:=by
  rcases hg with hg | hg
  · exact hne _ hg
  · rw [hg];simp;omega
 refine ⟨.slice (some ⟨g,0,none⟩) (k+1) cap,hb1.set 0 _,?_,?_,?_,?_⟩
 · rw [newF_get sizes k h1 h2,List.map_append,List.map_cons,List.map_nil,←hx]
   exact ownsRow_keep o1 (mod_setCell _ _ _ _) (fun i hi e=>by injection hi with hi;simp only at hi;omega)
 · rw [(mod_setCell w1 (w.heap.size+1) 0 (.slice (some ⟨g,0,none⟩) (k+1) cap)).block w.heap.size (by have:=hm1.size;omega) (by omega),hm1.block _ (by omega) (fun e=>hnm _ e.symm rfl)]
   exact hmap
 · refine Mod.setCell (hmod.trans' hm1 (fun i hi e=>?_)) (.inr (by simp)) _
   have:=hge i e.symm
   omega
 · have:=hm1.size
   simp [World.setCell];omega
theorem new_any (sizes:List Int) (v:Value) (w:World) (h:IntsAt w v sizes) :
 Calls Tryz.prog 27 #[v] w fun e w'=>∃ b mb sv,e=.returned (.pointer (some ⟨b,0,none⟩))∧Mod (fun _=>False) w w'∧FilesIs w' b mb sv (newF sizes)∧w.heap.size≤b∧w.heap.size≤mb∧∀ g,sv.ownBlock=some g→w.heap.size≤g:=by
 obtain ⟨a,cap,rfl,hcap,hmax,hcell⟩:=h
 unfold maxLen at hmax
 have hmm:=@run_makeMap Tryz.prog
 by_cases h32:32 < sizes.length
 · go_enter Tryz.func27,Tryz.ntmps27
   go_wp2_with fail
   go_loopw [15] (fun i wr=>∃ k:Nat,k≤32∧i=.int .i64 k∧NewRel w sizes k wr) (fun i _=>32 - (intOf i).toNat)
   case atStart=>exact ⟨0,by omega,rfl,NewRel.start w sizes⟩
   case round =>
    obtain ⟨k,hk,rfl,sv,hb,hown,hmap,hmod,hsz⟩:=hrel
    by_cases hlt:k < 32
    · obtain ⟨b,off,rfl,hc⟩:=hcell k (by omega)
      obtain ⟨x,hx⟩:∃ x,x=sizes.getD k 0:=⟨_,rfl⟩
      rw [←hx] at hc
      have HX:=ζh hx
      clear hx hcell
      have hcr:wr.cell? ⟨b,off+k,none⟩=some (.int .i64 x):=by
       rw [hmod.cell (lt_of_cell hc) (fun x=>x)];exact hc
      have hc0:=hb.cell 0
      simp only [ζa,ζb] at hc0
      have hne:=ownsRow_ne_blk hown hb (by decide)
      rcases (show x < 0∨(0≤x∧x≤4096)∨4096 < x by omega) with hx0 | hx0 | hx0
      · go_wp2_with (at_builtin;refine wpList_app rfl _ _ 30 rfl w.heap.size 3 (.int .i64 0) 1 8 Tryz.underlying30 info_int rfl (by decide) (by decide) sv k _ rfl (hown.alloc _) ⟨wr.heap.size,0,none⟩ 1 [.int .i64 0] rfl rfl (cell_one_new _ _ _) (by simp [Value.oneCell']) (by omega) (by simp;omega) ?_;intro g cap1 w1 o1 m1 hg hlt1;have hb1:=hb.keep ((Mod.alloc' (fun i=>some i=sv.ownBlock) wr (Obj.cells #[Value.int .i64 0] 3)).trans m1) (fun e=>hne _ e.symm rfl);have hc1:=hb1.cell 0;simp only [ζa,ζb] at hc1;have hf1:=hb1.frozen 0)
        go_roundw
        case rel=>exact ⟨k+1,by omega,by go_num,NewRel.step (by omega) (by omega) (by rw [←HX.out];omega) hb hown hmap hmod hsz o1 m1 hg⟩
        case measure=>simp [intOf];omega
      · go_wp2_with (at_builtin;refine wpList_app rfl _ _ 30 rfl w.heap.size 3 (.int .i64 0) 1 8 Tryz.underlying30 info_int rfl (by decide) (by decide) sv k _ rfl (hown.alloc _) ⟨wr.heap.size,0,none⟩ 1 [.int .i64 x] rfl rfl (cell_one_new _ _ _) (by simp [Value.oneCell']) (by omega) (by simp;omega) ?_;intro g cap1 w1 o1 m1 hg hlt1;have hb1:=hb.keep ((Mod.alloc' (fun i=>some i=sv.ownBlock) wr (Obj.cells #[Value.int .i64 x] 3)).trans m1) (fun e=>hne _ e.symm rfl);have hc1:=hb1.cell 0;simp only [ζa,ζb] at hc1;have hf1:=hb1.frozen 0)
        go_roundw
        case rel=>exact ⟨k+1,by omega,by go_num,NewRel.step (by omega) (by omega) (by rw [←HX.out];omega) hb hown hmap hmod hsz o1 m1 hg⟩
        case measure=>simp [intOf];omega
      · go_wp2_with (at_builtin;refine wpList_app rfl _ _ 30 rfl w.heap.size 3 (.int .i64 0) 1 8 Tryz.underlying30 info_int rfl (by decide) (by decide) sv k _ rfl (hown.alloc _) ⟨wr.heap.size,0,none⟩ 1 [.int .i64 4096] rfl rfl (cell_one_new _ _ _) (by simp [Value.oneCell']) (by omega) (by simp;omega) ?_;intro g cap1 w1 o1 m1 hg hlt1;have hb1:=hb.keep ((Mod.alloc' (fun i=>some i=sv.ownBlock) wr (Obj.cells #[Value.int .i64 4096] 3)).trans m1) (fun e=>hne _ e.symm rfl);have hc1:=hb1.cell 0;simp only [ζa,ζb] at hc1;have hf1:=hb1.frozen 0)
        go_roundw
        case rel=>exact ⟨k+1,by omega,by go_num,NewRel.step (by omega) (by omega) (by rw [←HX.out];omega) hb hown hmap hmod hsz o1 m1 hg⟩
        case measure=>simp [intOf];omega
    · go_wp2_with fail
      go_ret
      obtain rfl:k=32:=by omega
      refine ⟨_,w.heap.size,sv,rfl,hmod,⟨hb,?_,⟨0,hmap⟩,?_,?_,?_,?_⟩,by omega,by omega,?_⟩
      · have hl:=newF_len sizes
        have hk':(newF sizes).sizes.length=32:=by omega
        rw [List.take_of_length_le (by omega)] at hown
        rw [hk']
        exact ownsRow_base hown (by omega)
      · rw [newF_len];omega
      · intro n hn
        simp only [newF,List.mem_map] at hn
        obtain ⟨m,_,rfl⟩:=hn
        omega
      · intro e he
        simp [newF] at he
      · exact Int.le_refl 0
      · intro g hg
        exact ownsRow_ge hown g hg
 · go_enter Tryz.func27,Tryz.ntmps27
   go_wp2_with fail
   go_loopw [15] (fun i wr=>∃ k:Nat,k≤sizes.length∧i=.int .i64 k∧NewRel w sizes k wr) (fun i _=>sizes.length - (intOf i).toNat)
   case atStart=>exact ⟨0,by omega,rfl,NewRel.start w sizes⟩
   case round =>
    obtain ⟨k,hk,rfl,sv,hb,hown,hmap,hmod,hsz⟩:=hrel
    by_cases hlt:k < sizes.length
    · obtain ⟨b,off,rfl,hc⟩:=hcell k (by omega)
      obtain ⟨x,hx⟩:∃ x,x=sizes.getD k 0:=⟨_,rfl⟩
      rw [←hx] at hc
      have HX:=ζh hx
      clear hx hcell
      have hcr:wr.cell? ⟨b,off+k,none⟩=some (.int .i64 x):=by
       rw [hmod.cell (lt_of_cell hc) (fun x=>x)];exact hc
      have hc0:=hb.cell 0
      simp only [ζa,ζb] at hc0
      have hne:=ownsRow_ne_blk hown hb (by decide)
      rcases (show x < 0∨(0≤x∧x≤4096)∨4096 < x by omega) with hx0 | hx0 | hx0
      · go_wp2_with (at_builtin;refine wpList_app rfl _ _ 30 rfl w.heap.size 3 (.int .i64 0) 1 8 Tryz.underlying30 info_int rfl (by decide) (by decide) sv k _ rfl (hown.alloc _) ⟨wr.heap.size,0,none⟩ 1 [.int .i64 0] rfl rfl (cell_one_new _ _ _) (by simp [Value.oneCell']) (by omega) (by simp;omega) ?_;intro g cap1 w1 o1 m1 hg hlt1;have hb1:=hb.keep ((Mod.alloc' (fun i=>some i=sv.ownBlock) wr (Obj.cells #[Value.int .i64 0] 3)).trans m1) (fun e=>hne _ e.symm rfl);have hc1:=hb1.cell 0;simp only [ζa,ζb] at hc1;have hf1:=hb1.frozen 0)
        go_roundw
        case rel=>exact ⟨k+1,by omega,by go_num,NewRel.step (by omega) (by omega) (by rw [←HX.out];omega) hb hown hmap hmod hsz o1 m1 hg⟩
        case measure=>simp [intOf];omega
      · go_wp2_with (at_builtin;refine wpList_app rfl _ _ 30 rfl w.heap.size 3 (.int .i64 0) 1 8 Tryz.underlying30 info_int rfl (by decide) (by decide) sv k _ rfl (hown.alloc _) ⟨wr.heap.size,0,none⟩ 1 [.int .i64 x] rfl rfl (cell_one_new _ _ _) (by simp [Value.oneCell']) (by omega) (by simp;omega) ?_;intro g cap1 w1 o1 m1 hg hlt1;have hb1:=hb.keep ((Mod.alloc' (fun i=>some i=sv.ownBlock) wr (Obj.cells #[Value.int .i64 x] 3)).trans m1) (fun e=>hne _ e.symm rfl);have hc1:=hb1.cell 0;simp only [ζa,ζb] at hc1;have hf1:=hb1.frozen 0)
        go_roundw
        case rel=>exact ⟨k+1,by omega,by go_num,NewRel.step (by omega) (by omega) (by rw [←HX.out];omega) hb hown hmap hmod hsz o1 m1 hg⟩
        case measure=>simp [intOf];omega
      · go_wp2_with (at_builtin;refine wpList_app rfl _ _ 30 rfl w.heap.size 3 (.int .i64 0) 1 8 Tryz.underlying30 info_int rfl (by decide) (by decide) sv k _ rfl (hown.alloc _) ⟨wr.heap.size,0,none⟩ 1 [.int .i64 4096] rfl rfl (cell_one_new _ _ _) (by simp [Value.oneCell']) (by omega) (by simp;omega) ?_;intro g cap1 w1 o1 m1 hg hlt1;have hb1:=hb.keep ((Mod.alloc' (fun i=>some i=sv.ownBlock) wr (Obj.cells #[Value.int .i64 4096] 3)).trans m1) (fun e=>hne _ e.symm rfl);have hc1:=hb1.cell 0;simp only [ζa,ζb] at hc1;have hf1:=hb1.frozen 0)
        go_roundw
        case rel=>exact ⟨k+1,by omega,by go_num,NewRel.step (by omega) (by omega) (by rw [←HX.out];omega) hb hown hmap hmod hsz o1 m1 hg⟩
        case measure=>simp [intOf];omega
    · go_wp2_with fail
      go_ret
      obtain rfl:k=sizes.length:=by omega
      refine ⟨_,w.heap.size,sv,rfl,hmod,⟨hb,?_,⟨0,hmap⟩,?_,?_,?_,?_⟩,by omega,by omega,?_⟩
      · have hl:=newF_len sizes
        have hk':(newF sizes).sizes.length=sizes.length:=by omega
        rw [List.take_of_length_le (by omega)] at hown
        rw [hk']
        exact ownsRow_base hown (by omega)
      · rw [newF_len];omega
      · intro n hn
        simp only [newF,List.mem_map] at hn
        obtain ⟨m,_,rfl⟩:=hn
        omega
      · intro e he
        simp [newF] at he
      · exact Int.le_refl 0
      · intro g hg
        exact ownsRow_ge hown g hg
end Fil

namespace Cnt
open Go.RowKit
structure Cnt where
 use:Int
 limit:Int
 failed:Int
 peak:Int
def ecCnt (c:Cnt):List Value:=[.int .i64 c.use,.int .i64 c.limit,.int .i64 c.failed,.int .i64 c.peak]
theorem ecCnt_len (c:Cnt):(ecCnt c).length=4:=rfl
def Cnt.zero:Cnt:=⟨0,0,0,0⟩
def Cnt.good (F:Int) (c:Cnt):Prop:=0≤c.use∧c.use≤c.peak∧c.peak≤1099511627776∧0≤c.limit∧c.limit≤1099511627776∧0≤c.failed∧c.failed≤F
structure CntIs (w:World) (b:Nat) (l:List Cnt):Prop where
 blk:Blk w b (l.flatMap ecCnt).toArray 162
 len:l.length=64
theorem CntIs.keep {Z:Nat→Prop} {w w':World} {b:Nat} {l:List Cnt} (h:CntIs w b l) (hm:Mod Z w w') (hs:¬ Z b):CntIs w' b l:=⟨h.blk.keep hm hs,h.len⟩
theorem CntIs.keepN {w w':World} {b:Nat} {l:List Cnt} (h:CntIs w b l) (hm:Mod (fun _=>False) w w'):CntIs w' b l:=h.keep hm (fun x=>x)
theorem CntIs.cell {w:World} {b:Nat} {l:List Cnt} (h:CntIs w b l) {k:Nat} {c:Cnt} (hk:l[k]?=some c) :
 w.cell? ⟨b,k * 4,none⟩=some (.int .i64 c.use)∧w.cell? ⟨b,k * 4+1,none⟩=some (.int .i64 c.limit)∧w.cell? ⟨b,k * 4+2,none⟩=some (.int .i64 c.failed)∧w.cell? ⟨b,k * 4+3,none⟩=some (.int .i64 c.peak):=by
 have h0:=h.blk.cell (k * 4+0)
 have h1:=h.blk.cell (k * 4+1)
 have h2:=h.blk.cell (k * 4+2)
 have h3:=h.blk.cell (k * 4+3)
 rw [ζa,flat_get ecCnt_len l k _ (by omega),hk] at h0 h1 h2 h3
 exact ⟨h0,h1,h2,h3⟩
theorem flat_set {α:Type} {ec:α→List Value} {sz:Nat} (hlen:∀ x,(ec x).length=sz) (v:Value) (x':α):∀ (l:List α) (j i:Nat) (x:α),i < sz→l[j]?=some x→ec x'=(ec x).set i v→(l.flatMap ec).set (j * sz+i) v=(l.set j x').flatMap ec:=by
 intro l
 induction l with
 | nil=>intro j i x _ hx;simp at hx
 | cons y l ih =>
   intro j i x hi hx he
   rw [List.flatMap_cons]
   cases j with
   | zero =>
     simp only [ζb,Option.some.injEq] at hx
     subst hx
     rw [Nat.zero_mul,Nat.zero_add,List.set_append_left _ _ (by rw [hlen];exact hi),List.set_cons_zero,List.flatMap_cons,he]
   | succ j =>
     simp only [ζc] at hx
     rw [Nat.succ_mul,List.set_append_right _ _ (by rw [hlen];omega),hlen,show j * sz+sz+i - sz=j * sz+i from by omega,ih j i x hi hx he,List.set_cons_succ,List.flatMap_cons]
theorem CntIs.set {w:World} {b:Nat} {l:List Cnt} (h:CntIs w b l) {k i:Nat} {c c':Cnt} {v:Value} (hi:i < 4) (hk:l[k]?=some c) (he:ecCnt c'=(ecCnt c).set i v):CntIs (w.setCell ⟨b,k * 4+i,none⟩ v) b (l.set k c'):=by
 refine ⟨?_,by rw [List.length_set];exact h.len⟩
 have h1:=h.blk.set (k * 4+i) v
 rw [←flat_set ecCnt_len v c' l k i c hi hk he]
 simpa using h1
def groupB (g:Int):Bool:=decide (0≤g)&&decide (g < 64)
def amountB (n:Int):Bool:=decide (0≤n)&&decide (n≤1099511627776)
theorem group_any (g:Int) (w:World):Calls Tryz.prog 152 #[.int .i64 g] w fun e w'=>e=.returned (.bool (groupB g))∧w=w':=by
 unfold groupB
 by_cases h:0≤g
 · have h':decide (0≤g)=true:=by simp [h]
   rw [h',Bool.true_and]
   go_enter Tryz.func152,Tryz.ntmps152
   go_wp2
   go_ret
   exact ⟨rfl,rfl⟩
 · have h':decide (0≤g)=false:=by simp;omega
   rw [h',Bool.false_and]
   go_enter Tryz.func152,Tryz.ntmps152
   go_wp2
   go_ret
   exact ⟨rfl,rfl⟩
theorem amount_any (n:Int) (w:World):Calls Tryz.prog 153 #[.int .i64 n] w fun e w'=>e=.returned (.bool (amountB n))∧w=w':=by
 unfold amountB
 by_cases h:0≤n
 · have h':decide (0≤n)=true:=by simp [h]
   rw [h',Bool.true_and]
   go_enter Tryz.func153,Tryz.ntmps153
   go_wp2
   go_ret
   exact ⟨rfl,rfl⟩
 · have h':decide (0≤n)=false:=by simp;omega
   rw [h',Bool.false_and]
   go_enter Tryz.func153,Tryz.ntmps153
   go_wp2
   go_ret
   exact ⟨rfl,rfl⟩
def ofS (l:List Cnt) (g:Int):Cnt:=if groupB g then l.getD g.toNat Cnt.zero else Cnt.zero
theorem groupB_nat {g:Int} (h:groupB g=true):∃ k:Nat,g=k∧k < 64:=by
 unfold groupB at h
 simp at h
 exact ⟨g.toNat,by omega,by omega⟩
theorem of_any (b:Nat) (l:List Cnt) (g:Int) (w:World) (h:CntIs w b l):Calls Tryz.prog 151 #[.pointer (some ⟨b,0,none⟩),.int .i64 g] w fun e w'=>e=.returned (.agg (ecCnt (ofS l g)).toArray)∧Mod (fun _=>False) w w':=by
 have hbl:=h.blk.lt
 cases hg:groupB g
 · have e1:ofS l g=Cnt.zero:=by unfold ofS;rw [hg];rfl
   rw [e1]
   clear e1
   go_enter Tryz.func151,Tryz.ntmps151
   go_wp2_with fail
   refine (group_any g _).mono ?_
   rw [hg]
   clear hg
   rintro e w' ⟨rfl,rfl⟩
   go_wp2_with fail
   exact bodyPost_ret (v:=.agg #[.int .i64 0,.int .i64 0,.int .i64 0,.int .i64 0]) (by simp [results,Tryz.results151,go_sem]) rfl ⟨rfl,Mod.alloc' _ _ _⟩
 · obtain ⟨k,rfl,hk⟩:=groupB_nat hg
   obtain ⟨c,hc⟩:∃ c,l[k]?=some c:=⟨_,ζg (by rw [h.len];exact hk)⟩
   have e1:ofS l k=c:=by unfold ofS;rw [hg,if_pos rfl,Int.toNat_natCast,List.getD_eq_getElem?_getD,hc];rfl
   rw [e1]
   clear e1
   obtain ⟨c0,c1,c2,c3⟩:=h.cell hc
   go_enter Tryz.func151,Tryz.ntmps151
   go_wp2_with fail
   refine (group_any k _).mono ?_
   rw [hg]
   clear hg hc
   rintro e w' ⟨rfl,rfl⟩
   go_wp2_with fail
   exact bodyPost_ret (v:=.agg #[.int .i64 c.use,.int .i64 c.limit,.int .i64 c.failed,.int .i64 c.peak]) (by simp [results,Tryz.results151,go_sem]) rfl ⟨rfl,Mod.alloc' _ _ _⟩
theorem cnt_zero (w:World):(zeroValue 162).run Tryz.prog w=.ok (.agg ((List.replicate 64 Cnt.zero).flatMap ecCnt).toArray) w:=by kernel_rfl
theorem use_any (b:Nat) (l:List Cnt) (g:Int) (w:World) (h:CntIs w b l):Calls Tryz.prog 87 #[.pointer (some ⟨b,0,none⟩),.int .i64 g] w fun e w'=>e=.returned (.int .i64 (ofS l g).use)∧Mod (fun _=>False) w w':=by
 have hfld:∀ (w:World) (x0 x1 x2 x3:Int),(Instr.field 159 (.agg #[.int .i64 x0,.int .i64 x1,.int .i64 x2,.int .i64 x3]) 0).run Tryz.prog w=.ok (.int .i64 x0) w:=fun _ _ _ _ _=>by kernel_rfl
 go_enter Tryz.func87,Tryz.ntmps87
 go_wp2_with fail
 refine (of_any b l g _ h).mono ?_
 rintro e w1 ⟨rfl,hm1⟩
 unfold ecCnt
 go_wp2_with fail
 go_ret
 exact ⟨rfl,hm1⟩
theorem limit_any (b:Nat) (l:List Cnt) (g:Int) (w:World) (h:CntIs w b l):Calls Tryz.prog 251 #[.pointer (some ⟨b,0,none⟩),.int .i64 g] w fun e w'=>e=.returned (.int .i64 (ofS l g).limit)∧Mod (fun _=>False) w w':=by
 have hfld:∀ (w:World) (x0 x1 x2 x3:Int),(Instr.field 159 (.agg #[.int .i64 x0,.int .i64 x1,.int .i64 x2,.int .i64 x3]) 1).run Tryz.prog w=.ok (.int .i64 x1) w:=fun _ _ _ _ _=>by kernel_rfl
 go_enter Tryz.func251,Tryz.ntmps251
 go_wp2_with fail
 refine (of_any b l g _ h).mono ?_
 rintro e w1 ⟨rfl,hm1⟩
 unfold ecCnt
 go_wp2_with fail
 go_ret
 exact ⟨rfl,hm1⟩
def setLimE (g n:Int):Int:=if groupB g&&amountB n then 0 else 1
def setLimS (l:List Cnt) (g n:Int):List Cnt:=if groupB g&&amountB n then l.set g.toNat { l.getD g.toNat Cnt.zero with limit:=n } else l
theorem setLimit_any (b:Nat) (l:List Cnt) (g n:Int) (w:World) (h:CntIs w b l):Calls Tryz.prog 88 #[.pointer (some ⟨b,0,none⟩),.int .i64 g,.int .i64 n] w fun e w' =>
 e=.returned (.int .i64 (setLimE g n))∧Mod (fun i=>i=b) w w'∧CntIs w' b (setLimS l g n):=by
 cases hg:groupB g
 · have e1:setLimE g n=1:=by unfold setLimE;rw [hg];rfl
   have e2:setLimS l g n=l:=by unfold setLimS;rw [hg];rfl
   rw [e1,e2]
   clear e1 e2
   go_enter Tryz.func88,Tryz.ntmps88
   go_wp2_with fail
   refine (group_any g _).mono ?_
   rw [hg]
   rintro e w' ⟨rfl,rfl⟩
   go_wp2_with fail
   go_ret
   exact ⟨rfl,Mod.refl _ _,h⟩
 cases ha:amountB n
 · have e1:setLimE g n=1:=by unfold setLimE;rw [hg,ha];rfl
   have e2:setLimS l g n=l:=by unfold setLimS;rw [hg,ha];rfl
   rw [e1,e2]
   clear e1 e2
   go_enter Tryz.func88,Tryz.ntmps88
   go_wp2_with fail
   refine (group_any g _).mono ?_
   rw [hg]
   rintro e w' ⟨rfl,rfl⟩
   go_wp2_with fail
   refine (amount_any n _).mono ?_
   rw [ha]
   rintro e w' ⟨rfl,rfl⟩
   go_wp2_with fail
   go_ret
   exact ⟨rfl,Mod.refl _ _,h⟩
 obtain ⟨k,rfl,hk⟩:=groupB_nat hg
 obtain ⟨c,hc⟩:∃ c,l[k]?=some c:=⟨_,ζg (by rw [h.len];exact hk)⟩
 obtain ⟨c0,c1,c2,c3⟩:=h.cell hc
 have hf:=h.blk.frozen (k * 4+1)
 have hset:=h.set (i:=1) (v:=.int .i64 n) (c':={ c with limit:=n }) (by omega) hc rfl
 have e1:l.getD k Cnt.zero=c:=by rw [List.getD_eq_getElem?_getD,hc];rfl
 have e2:setLimE k n=0:=by unfold setLimE;rw [hg,ha];rfl
 have e3:setLimS l k n=l.set k { c with limit:=n }:=by unfold setLimS;rw [hg,ha,Bool.true_and,if_pos rfl,Int.toNat_natCast,e1]
 rw [e2,e3]
 clear hc e1 e2 e3
 go_enter Tryz.func88,Tryz.ntmps88
 go_wp2_with fail
 refine (group_any k _).mono ?_
 rw [hg]
 rintro e w' ⟨rfl,rfl⟩
 go_wp2_with fail
 refine (amount_any n _).mono ?_
 rw [ha]
 clear hg ha
 rintro e w' ⟨rfl,rfl⟩
 go_wp2_with fail
 go_ret
 exact ⟨rfl,mod_setCell _ _ _ _,hset⟩
def newC:List Cnt:=List.replicate 64 ⟨0,1099511627776,0,0⟩
def NewCRel (w:World) (k:Nat) (wr:World):Prop :=
 CntIs wr w.heap.size (List.replicate k ⟨0,1099511627776,0,0⟩++List.replicate (64 - k) Cnt.zero)∧Mod (fun _=>False) w wr
theorem newC_any (w:World):Calls Tryz.prog 48 #[] w fun e w'=>∃ b,e=.returned (.pointer (some ⟨b,0,none⟩))∧Mod (fun _=>False) w w'∧CntIs w' b newC∧w.heap.size≤b:=by
 have hz:=cnt_zero
 go_enter Tryz.func48,Tryz.ntmps48
 go_wp2_with fail
 go_loopw [5] (fun i wr=>∃ k:Nat,k≤64∧i=.int .i64 k∧NewCRel w k wr) (fun i _=>64 - (intOf i).toNat)
 case atStart=>exact ⟨0,by omega,rfl,⟨Blk.new w _ _,rfl⟩,Mod.alloc' _ _ _⟩
 case round =>
  obtain ⟨k,hk,rfl,hC,hm⟩:=hrel
  by_cases hlt:k < 64
  · have hc:(List.replicate k (⟨0,1099511627776,0,0⟩:Cnt)++List.replicate (64 - k) Cnt.zero)[k]?=some Cnt.zero:=by
     rw [List.getElem?_append_right (by simp),List.length_replicate,Nat.sub_self,List.getElem?_replicate,if_pos (by omega)]
    obtain ⟨c0,c1,c2,c3⟩:=hC.cell hc
    have hf:=hC.blk.frozen (k * 4+1)
    have hset:=hC.set (i:=1) (v:=.int .i64 1099511627776) (c':=⟨0,1099511627776,0,0⟩) (by omega) hc rfl
    have he:(List.replicate k (⟨0,1099511627776,0,0⟩:Cnt)++List.replicate (64 - k) Cnt.zero).set k ⟨0,1099511627776,0,0⟩=List.replicate (k+1) ⟨0,1099511627776,0,0⟩++List.replicate (64 - (k+1)) Cnt.zero:=by
     rw [List.set_append_right _ _ (by simp),List.length_replicate,Nat.sub_self,show 64 - k=(64 - (k+1))+1 from by omega,List.replicate_succ,List.set_cons_zero,List.replicate_succ',List.append_assoc]
     rfl
    rw [he] at hset
    clear hc he
    go_wp2_with fail
    go_roundw
    case rel=>exact ⟨k+1,by omega,by go_num,hset,Mod.setCell hm (.inr (Nat.le_refl _)) _⟩
    case measure=>simp [intOf];omega
  · obtain rfl:k=64:=by omega
    rw [show ((64:Nat):Int)=64 from rfl]
    go_wp2_with fail
    go_ret
    exact ⟨_,rfl,hm,hC,Nat.le_refl _⟩
end Cnt
end Go.Proofs.YtkfoeonggmlebaaGreatDoor
