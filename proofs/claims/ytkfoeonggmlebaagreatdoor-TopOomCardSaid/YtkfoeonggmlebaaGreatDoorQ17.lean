/-
  Contracts of the program's functions, and plain facts, towards the laws of millpondtop. No condition beyond those that each theorem bears.
-/
import Derived.Test.YtkfoeonggmlebaaGreatDoorRows
import Derived.Lib.BufferWrite
import Derived.OwnWalk
import Derived.Test.YtkfoeonggmlebaaGreatDoorQ01
import Derived.Test.YtkfoeonggmlebaaGreatDoorQAA
set_option maxRecDepth 100000
set_option maxHeartbeats 4000000
namespace Go.Proofs.YtkfoeonggmlebaaGreatDoor
namespace Byt
open Go.RowKit
def Txt (ns:List Int):Prop:=ns.length=16∧∀ n∈ns,0≤n∧n < 256
def ecT (ns:List Int):List Value:=(List.range 16).map fun i=>Value.int .u8 (ns.getD i 0)
theorem ecT_len (ns:List Int):(ecT ns).length=16:=by simp [ecT]
theorem ecT_map {ns:List Int} (h:ns.length=16):ecT ns=ns.map (Value.int .u8):=by
 unfold ecT
 apply List.ext_getElem
 · simp [h]
 · intro i h1 h2
   have:i < ns.length:=by simpa using h2
   simp [List.getD_eq_getElem?_getD,ζg this]
theorem ecT_get (ns:List Int) (i:Nat) (hi:i < 16):(ecT ns)[i]?=some (.int .u8 (ns.getD i 0)):=by
 unfold ecT
 rw [List.getElem?_map,List.getElem?_range hi]
 rfl
theorem ecT_set (ns:List Int) (h:ns.length=16) (i:Nat) (b:Int):ecT (ns.set i b)=(ecT ns).set i (.int .u8 b):=by
 rw [ecT_map (by rw [List.length_set];exact h),ecT_map h,List.map_set]
theorem flat_set {α:Type} {ec:α→List Value} {sz:Nat} (hlen:∀ x,(ec x).length=sz):∀ (l:List α) (k:Nat) (x:α),k < l.length →
 (l.set k x).flatMap ec=(l.flatMap ec).take (k * sz)++ec x++(l.flatMap ec).drop (k * sz+sz):=by
 intro l
 induction l with
 | nil=>intro k x hk;cases hk
 | cons y l ih =>
   intro k x hk
   cases k with
   | zero =>
     rw [List.set_cons_zero,List.flatMap_cons,List.flatMap_cons,Nat.zero_mul,List.take_zero,List.nil_append,Nat.zero_add,List.drop_append_of_le_length (by rw [hlen];exact Nat.le_refl _)]
     rw [List.drop_of_length_le (by rw [hlen];exact Nat.le_refl _),List.nil_append]
   | succ k =>
     have hk':k < l.length:=by simpa using hk
     have e1:(k+1) * sz=(ec y).length+k * sz:=by rw [hlen,Nat.succ_mul];omega
     rw [List.set_cons_succ,List.flatMap_cons,List.flatMap_cons,ih k x hk',e1,Nat.add_assoc,List.take_length_add_append,List.drop_length_add_append]
     simp only [List.append_assoc]
theorem flat_setCell {α:Type} {ec:α→List Value} {sz:Nat} (hlen:∀ x,(ec x).length=sz) (l:List α) (k i:Nat) (x x':α) (v:Value) (hk:l[k]?=some x) (hi:i < sz) (hx:ec x'=(ec x).set i v) :
 (l.set k x').flatMap ec=(l.flatMap ec).set (k * sz+i) v:=by
 have hkl:k < l.length:=(ζi.1 hk).1
 apply List.ext_getElem?
 intro j
 have hsz:0 < sz:=by omega
 obtain ⟨a,b,hb,rfl⟩:∃ a b,b < sz∧j=a * sz+b:=⟨j / sz,j%sz,Nat.mod_lt _ hsz,by rw [Nat.mul_comm];exact (Nat.div_add_mod j sz).symm⟩
 rw [flat_get hlen _ _ _ hb]
 have hll:(l.flatMap ec).length=l.length * sz:=flat_len hlen l
 have hfit:k * sz+i < l.length * sz:=by
  have:(k+1) * sz≤l.length * sz:=Nat.mul_le_mul_right _ hkl
  rw [Nat.succ_mul] at this
  omega
 by_cases ha:a=k
 · subst ha
   rw [List.getElem?_set_self hkl]
   show (ec x')[b]?=_
   rw [hx]
   by_cases hbi:i=b
   · subst hbi
     rw [List.getElem?_set_self (by rw [hlen];exact hi),List.getElem?_set_self (by rw [hll];exact hfit)]
   · rw [List.getElem?_set_ne hbi,List.getElem?_set_ne (by omega),flat_get hlen _ _ _ hb,hk]
     rfl
 · have hne:¬ (k * sz+i=a * sz+b):=by
    intro e
    apply ha
    have h1:(k * sz+i) / sz=k:=by rw [Nat.mul_comm,Nat.mul_add_div hsz,Nat.div_eq_of_lt hi,Nat.add_zero]
    have h2:(a * sz+b) / sz=a:=by rw [Nat.mul_comm,Nat.mul_add_div hsz,Nat.div_eq_of_lt hb,Nat.add_zero]
    rw [e,h2] at h1
    exact h1
   rw [List.getElem?_set_ne hne,List.getElem?_set_ne (fun e=>ha e.symm),flat_get hlen _ _ _ hb]
structure BytesAt (w:World) (s g:Nat) (B:List (List Int)):Prop where
 blk:Blk w s #[.slice (some ⟨g,0,none⟩) B.length B.length] 157
 row:Blk w g (B.flatMap ecT).toArray 304
 good:∀ ns∈B,Txt ns
 few:B.length≤1024
theorem BytesAt.keep {S:Nat→Prop} {w w':World} {s g:Nat} {B:List (List Int)} (h:BytesAt w s g B) (hm:Mod S w w') (h1:¬ S s) (h2:¬ S g):BytesAt w' s g B :=
 ⟨h.blk.keep hm h1,h.row.keep hm h2,h.good,h.few⟩
theorem BytesAt.keepN {w w':World} {s g:Nat} {B:List (List Int)} (h:BytesAt w s g B) (hm:Mod (fun _=>False) w w'):BytesAt w' s g B:=h.keep hm (fun x=>x) (fun x=>x)
theorem BytesAt.head {w:World} {s g:Nat} {B:List (List Int)} (h:BytesAt w s g B):w.cell? ⟨s,0,none⟩=some (.slice (some ⟨g,0,none⟩) B.length B.length):=by
 rw [h.blk.cell];rfl
theorem BytesAt.ne {w:World} {s g:Nat} {B:List (List Int)} (h:BytesAt w s g B):g≠s:=fun e=>absurd rfl ((h.row.ne h.blk (by decide)) |> fun x=>by rw [e] at x;exact x)
theorem BytesAt.cell {w:World} {s g:Nat} {B:List (List Int)} (h:BytesAt w s g B) {k:Nat} {ns:List Int} (hk:B[k]?=some ns) {i:Nat} (hi:i < 16):w.cell? ⟨g,k * 16+i,none⟩=some (.int .u8 (ns.getD i 0)):=by
 rw [h.row.cell,ζa,flat_get ecT_len _ _ _ hi,hk]
 exact ecT_get ns i hi
theorem byat_in (s g:Nat) (B:List (List Int)) (k:Nat) (w:World) (h:BytesAt w s g B) (hk:k < B.length) :
 Calls Tryz.prog 190 #[.pointer (some ⟨s,0,none⟩),.int .i64 k] w fun e w'=>e=.returned (.pointer (some ⟨g,k * 16,none⟩))∧w=w':=by
 have h0:=h.head
 have hfew:=h.few
 have d0:decide ((k:Int) < 0)=false:=by simp
 have d1:decide ((B.length:Int)≤(k:Int))=false:=decide_eq_false (by omega)
 have d2:decide (B.length≤k)=false:=decide_eq_false (by omega)
 have hkI:(k:Int) < B.length:=by omega
 go_enter Tryz.func190,Tryz.ntmps190
 go_wp2_with fail
 go_ret
 exact ⟨rfl,rfl⟩
theorem byat_out (s g:Nat) (B:List (List Int)) (i:Int) (w:World) (h:BytesAt w s g B) (hi:i < 0∨(B.length:Int)≤i) :
 Calls Tryz.prog 190 #[.pointer (some ⟨s,0,none⟩),.int .i64 i] w fun e w'=>e=.returned (.pointer none)∧w=w':=by
 have h0:=h.head
 have hfew:=h.few
 by_cases h1:i < 0
 · have d0:decide (i < 0)=true:=decide_eq_true h1
   go_enter Tryz.func190,Tryz.ntmps190
   go_wp2_with fail
   go_ret
   exact ⟨rfl,rfl⟩
 · have d0:decide (i < 0)=false:=decide_eq_false h1
   have d1:decide ((B.length:Int)≤i)=true:=decide_eq_true (by omega)
   go_enter Tryz.func190,Tryz.ntmps190
   go_wp2_with fail
   go_ret
   exact ⟨rfl,rfl⟩
theorem conv_at {P:Program} {S E D:TypeId} (hS:P.underlying S=some (.slice E)) (hE:P.underlying E=some (.int .u8)) (hD:P.underlying D=some .string)
 (w:World) (ns:List Int) (g o n c:Nat) (hn:n=ns.length) (h:∀ j v,(ns.map (Value.int .u8))[j]?=some v→w.cell? ⟨g,o+j,none⟩=some v) :
 (convert S D (.slice (some ⟨g,o,none⟩) n c)).run P w=.ok (.string (strOf ns)) w:=by
 subst hn
 rw [run_convert_bytes_string _ S D E _ _ _ hS hE hD]
 have hl:=run_loadCells_list (P:=P) w ⟨g,o,none⟩ (ns.map (Value.int .u8)) (fun j v hj=>by
  have:(Addr.add ⟨g,o,none⟩ j)=⟨g,o+j,none⟩:=by unfold Addr.add;split<;>simp_all
  rw [this];exact h j v hj)
 simp only [List.length_map] at hl
 rw [run_bytesToString _ _ _ _ _ hl,foldl_strOf]
 have he0:ByteArray.empty.data=#[]:=rfl
 rw [he0]
 simp [strOf]
def textL (B:List (List Int)) (i:Int):List Int:=if decide (0≤i)&&decide (i < B.length) then B.getD i.toNat [] else []
theorem bread_any (s g:Nat) (B:List (List Int)) (i:Int) (w:World) (h:BytesAt w s g B) :
 Calls Tryz.prog 236 #[.pointer (some ⟨s,0,none⟩),.int .i64 i] w fun e w'=>(∃ n:Int,e=.returned (.tuple #[.string (strOf (textL B i)),.int .i64 n]))∧Mod (fun _=>False) w w':=by
 unfold textL
 by_cases hi:i < 0∨(B.length:Int)≤i
 · have e0:(decide (0≤i)&&decide (i < B.length))=false:=by rw [Bool.and_eq_false_iff,decide_eq_false_iff_not,decide_eq_false_iff_not];omega
   rw [e0,if_neg (by decide)]
   clear e0
   go_enter Tryz.func236,Tryz.ntmps236
   go_wp2_with fail
   refine (byat_out s g B i _ h hi).mono ?_
   rintro e w1 ⟨rfl,rfl⟩
   go_wp2_with fail
   go_ret2
   exact ⟨⟨_,rfl⟩,Mod.refl _ _⟩
 · obtain ⟨k,rfl⟩:∃ k:Nat,i=k:=⟨i.toNat,by omega⟩
   have hk:k < B.length:=by omega
   have e0:(decide (0≤(k:Int))&&decide ((k:Int) < B.length))=true:=by rw [Bool.and_eq_true,decide_eq_true_eq,decide_eq_true_eq];omega
   rw [e0,if_pos rfl,Int.toNat_natCast]
   clear e0
   obtain ⟨ns,hns⟩:∃ ns,B[k]?=some ns:=⟨_,ζg hk⟩
   have hd:B.getD k []=ns:=by rw [List.getD_eq_getElem?_getD,hns];rfl
   rw [hd]
   have ht:=h.good ns (ζm hns)
   have hconv:=conv_at (P:=Tryz.prog) Tryz.underlying39 Tryz.underlying5 Tryz.underlying9 w ns g (k * 16) 16 16 ht.1.symm (by
    intro j v hv
    have hj:j < 16:=by have:=(ζi.1 hv).1;rw [List.length_map,ht.1] at this;exact this
    rw [h.cell hns hj,List.getD_eq_getElem?_getD]
    rw [List.getElem?_map] at hv
    cases hq:ns[j]? with
    | none=>rw [hq] at hv;cases hv
    | some n=>rw [hq] at hv;exact hv)
   clear hd hi
   go_enter Tryz.func236,Tryz.ntmps236
   go_wp2_with fail
   refine (byat_in s g B k _ h hk).mono ?_
   rintro e w1 ⟨rfl,rfl⟩
   go_wp2_with fail
   go_ret2
   exact ⟨⟨_,rfl⟩,Mod.refl _ _⟩
theorem Blk.setRow {w:World} {g:Nat} {cs cs':Array Value} {T:TypeId} (h:Blk w g cs T):Blk (w.setRow g cs') g cs' T:=setRow_heap w g cs cs' T (0,0) h
theorem mod_setRow (w:World) (g:Nat) (cs:Array Value):Mod (fun k=>k=g) w (w.setRow g cs):=by
 refine ⟨rfl,rfl,rfl,by unfold World.setRow;simp,fun i hi hs=>?_⟩
 unfold World.setRow
 rw [Array.getElem?_modify,if_neg (fun e=>hs e.symm)]
theorem strOf_cells {ns:List Int} (h:∀ n∈ns,0≤n∧n < 256):Go.Lib.byteCells (strOf ns).data.toList=ns.map (Value.int .u8):=by
 unfold Go.Lib.byteCells strOf
 simp only [List.map_map]
 apply List.map_congr_left
 intro n hn
 obtain ⟨h1,h2⟩:=h n hn
 simp only [Function.comp]
 congr 1
 rw [UInt8.toNat_ofNat']
 omega
def setText (B:List (List Int)) (i:Int) (ns:List Int):List (List Int):=if (decide (0≤i)&&decide (i < B.length)&&decide (ns.length=16))=true then B.set i.toNat ns else B
theorem good_set {B:List (List Int)} (h:∀ ns∈B,Txt ns) (k:Nat) {ns:List Int} (hn:Txt ns):∀ x∈B.set k ns,Txt x:=by
 intro x hx
 rcases List.mem_or_eq_of_mem_set hx with h1 | rfl
 · exact h x h1
 · exact hn
theorem BytesAt.put {w w':World} {s g:Nat} {B:List (List Int)} (h:BytesAt w s g B) (k:Nat) (ns:List Int) (hn:Txt ns) (hm:Mod (fun x=>x=g) w w') (hr:Blk w' g ((B.set k ns).flatMap ecT).toArray 304):BytesAt w' s g (B.set k ns) where
 blk:=by rw [List.length_set];exact h.blk.keep hm (fun e=>h.ne e.symm)
 row:=hr
 good:=good_set h.good k hn
 few:=by rw [List.length_set];exact h.few
theorem bwrite_any (s g:Nat) (B:List (List Int)) (i:Int) (ns:List Int) (w:World) (h:BytesAt w s g B) (hns:∀ n∈ns,0≤n∧n < 256) (_:ns.length < 1000000) :
 Calls Tryz.prog 254 #[.pointer (some ⟨s,0,none⟩),.int .i64 i,.string (strOf ns)] w fun e w'=>(∃ n:Int,e=.returned (.int .i64 n))∧Mod (fun x=>x=g) w w'∧BytesAt w' s g (setText B i ns):=by
 unfold setText
 have hsz:=strOf_size ns
 by_cases hi:i < 0∨(B.length:Int)≤i
 · have e0:(decide (0≤i)&&decide (i < B.length))=false:=by rw [Bool.and_eq_false_iff,decide_eq_false_iff_not,decide_eq_false_iff_not];omega
   rw [e0,Bool.false_and,if_neg (by decide)]
   clear e0
   go_enter Tryz.func254,Tryz.ntmps254
   go_wp2_with fail
   refine (byat_out s g B i _ h hi).mono ?_
   rintro e w1 ⟨rfl,rfl⟩
   go_wp2_with fail
   go_ret
   exact ⟨⟨_,rfl⟩,Mod.refl _ _,h⟩
 · obtain ⟨k,rfl⟩:∃ k:Nat,i=k:=⟨i.toNat,by omega⟩
   have hk:k < B.length:=by omega
   have e0:(decide (0≤(k:Int))&&decide ((k:Int) < B.length))=true:=by rw [Bool.and_eq_true,decide_eq_true_eq,decide_eq_true_eq];omega
   rw [e0,Bool.true_and,Int.toNat_natCast]
   clear e0
   by_cases hl:ns.length=16
   · rw [if_pos (by simp [hl])]
     have ht:Txt ns:=⟨hl,hns⟩
     have hcp:=fun ty=>Go.Lib.run_copy_row_string (P:=Tryz.prog) w 39 9 ty 5 g (k * 16) 16 16 (strOf ns) _ _ Tryz.underlying39 (by kernel_rfl) h.row (by rw [hsz,hl];exact Nat.le_refl _) (by rw [hsz,hl,List.size_toArray,flat_len ecT_len];omega)
     rw [hsz,hl,strOf_cells hns,←ecT_map hl,←flat_set ecT_len B k ns hk] at hcp
     rw [hl] at hsz
     have hput:=h.put k ns ht (mod_setRow w g ((B.set k ns).flatMap ecT).toArray) (Blk.setRow h.row)
     obtain ⟨w2,hw2⟩:∃ w2,w2=w.setRow g ((B.set k ns).flatMap ecT).toArray:=⟨_,rfl⟩
     have hm:=mod_setRow w g ((B.set k ns).flatMap ecT).toArray
     rw [←hw2] at hcp hput hm
     have hgo:goInt ((16:Nat):Int)=.int .i64 16:=rfl
     rw [hgo] at hcp
     have HP:=ζh hput
     clear hw2 hput hi hgo hl
     go_enter Tryz.func254,Tryz.ntmps254
     go_wp2_with fail
     refine (byat_in s g B k _ h hk).mono ?_
     rintro e w1 ⟨rfl,rfl⟩
     go_wp2_with fail
     go_ret
     exact ⟨⟨_,rfl⟩,hm,HP.out⟩
   · rw [if_neg (by simp [hl])]
     have d0:((ns.length:Int)==16)=false:=by rw [beq_eq_false_iff_ne];omega
     have d1:((ns.length:Int) != 16)=true:=by simp [bne,d0]
     clear hi
     go_enter Tryz.func254,Tryz.ntmps254
     go_wp2_with fail
     refine (byat_in s g B k _ h hk).mono ?_
     rintro e w1 ⟨rfl,rfl⟩
     go_wp2_with fail
     go_ret
     exact ⟨⟨_,rfl⟩,Mod.refl _ _,h⟩
def byteAt (B:List (List Int)) (i a:Int):Int:=if (decide (0≤i)&&decide (i < B.length)&&decide (0≤a)&&decide (a < 16))=true then (B.getD i.toNat []).getD a.toNat 0 else 0
def byteE (B:List (List Int)) (i a:Int):Int:=if (decide (0≤i)&&decide (i < B.length)&&decide (0≤a)&&decide (a < 16))=true then 0 else 1
theorem byget_any (s g:Nat) (B:List (List Int)) (i a:Int) (w:World) (h:BytesAt w s g B) :
 Calls Tryz.prog 117 #[.pointer (some ⟨s,0,none⟩),.int .i64 i,.int .i64 a] w fun e w'=>e=.returned (.tuple #[.int .u8 (byteAt B i a),.int .i64 (byteE B i a)])∧w=w':=by
 unfold byteAt byteE
 by_cases hi:i < 0∨(B.length:Int)≤i
 · have e0:(decide (0≤i)&&decide (i < B.length))=false:=by rw [Bool.and_eq_false_iff,decide_eq_false_iff_not,decide_eq_false_iff_not];omega
   rw [e0,Bool.false_and,Bool.false_and,if_neg (by decide),if_neg (by decide)]
   clear e0
   go_enter Tryz.func117,Tryz.ntmps117
   go_wp2_with fail
   refine (byat_out s g B i _ h hi).mono ?_
   rintro e w1 ⟨rfl,rfl⟩
   go_wp2_with fail
   go_ret2
   exact ⟨rfl,rfl⟩
 · obtain ⟨k,rfl⟩:∃ k:Nat,i=k:=⟨i.toNat,by omega⟩
   have hk:k < B.length:=by omega
   have e0:(decide (0≤(k:Int))&&decide ((k:Int) < B.length))=true:=by rw [Bool.and_eq_true,decide_eq_true_eq,decide_eq_true_eq];omega
   rw [e0,Bool.true_and,Int.toNat_natCast]
   clear e0 hi
   by_cases h1:a < 0
   · have e1:decide (0≤a)=false:=decide_eq_false (by omega)
     rw [e1,Bool.false_and,if_neg (by decide),if_neg (by decide)]
     clear e1
     have d0:decide (a < 0)=true:=decide_eq_true h1
     go_enter Tryz.func117,Tryz.ntmps117
     go_wp2_with fail
     refine (byat_in s g B k _ h hk).mono ?_
     rintro e w1 ⟨rfl,rfl⟩
     go_wp2_with fail
     go_ret2
     exact ⟨rfl,rfl⟩
   by_cases h2:16≤a
   · have e1:decide (a < 16)=false:=decide_eq_false (by omega)
     rw [e1,Bool.and_false,if_neg (by decide),if_neg (by decide)]
     clear e1
     have d0:decide (a < 0)=false:=decide_eq_false h1
     have d1:decide (16≤a)=true:=decide_eq_true h2
     go_enter Tryz.func117,Tryz.ntmps117
     go_wp2_with fail
     refine (byat_in s g B k _ h hk).mono ?_
     rintro e w1 ⟨rfl,rfl⟩
     go_wp2_with fail
     go_ret2
     exact ⟨rfl,rfl⟩
   obtain ⟨j,rfl⟩:∃ j:Nat,a=j:=⟨a.toNat,by omega⟩
   have hj:j < 16:=by omega
   have e1:(decide (0≤(j:Int))&&decide ((j:Int) < 16))=true:=by rw [Bool.and_eq_true,decide_eq_true_eq,decide_eq_true_eq];omega
   rw [e1,if_pos rfl,if_pos rfl,Int.toNat_natCast]
   clear e1
   obtain ⟨ns,hns⟩:∃ ns,B[k]?=some ns:=⟨_,ζg hk⟩
   have hd:B.getD k []=ns:=by rw [List.getD_eq_getElem?_getD,hns];rfl
   rw [hd]
   have hc:=h.cell hns hj
   obtain ⟨x,hx⟩:∃ x,x=ns.getD j 0:=⟨_,rfl⟩
   rw [←hx] at hc ⊢
   have d0:decide ((j:Int) < 0)=false:=decide_eq_false h1
   have d1:decide (16≤(j:Int))=false:=decide_eq_false (by omega)
   have hjI:(j:Int) < 16:=by omega
   have hjN:0≤(j:Int):=by omega
   clear hx hd hns h1 h2
   go_enter Tryz.func117,Tryz.ntmps117
   go_wp2_with fail
   refine (byat_in s g B k _ h hk).mono ?_
   rintro e w1 ⟨rfl,rfl⟩
   go_wp2_with fail
   go_ret2
   exact ⟨rfl,rfl⟩
def putByte (B:List (List Int)) (i a b:Int):List (List Int):=if (decide (0≤i)&&decide (i < B.length)&&decide (0≤a)&&decide (a < 16))=true then B.set i.toNat ((B.getD i.toNat []).set a.toNat b) else B
theorem byput_any (s g:Nat) (B:List (List Int)) (i a b:Int) (w:World) (h:BytesAt w s g B) (hb:0≤b∧b < 256) :
 Calls Tryz.prog 125 #[.pointer (some ⟨s,0,none⟩),.int .i64 i,.int .i64 a,.int .u8 b] w fun e w'=>e=.returned (.int .i64 (byteE B i a))∧Mod (fun x=>x=g) w w'∧BytesAt w' s g (putByte B i a b):=by
 unfold putByte byteE
 by_cases hi:i < 0∨(B.length:Int)≤i
 · have e0:(decide (0≤i)&&decide (i < B.length))=false:=by rw [Bool.and_eq_false_iff,decide_eq_false_iff_not,decide_eq_false_iff_not];omega
   rw [e0,Bool.false_and,Bool.false_and,if_neg (by decide),if_neg (by decide)]
   clear e0
   go_enter Tryz.func125,Tryz.ntmps125
   go_wp2_with fail
   refine (byat_out s g B i _ h hi).mono ?_
   rintro e w1 ⟨rfl,rfl⟩
   go_wp2_with fail
   go_ret
   exact ⟨rfl,Mod.refl _ _,h⟩
 · obtain ⟨k,rfl⟩:∃ k:Nat,i=k:=⟨i.toNat,by omega⟩
   have hk:k < B.length:=by omega
   have e0:(decide (0≤(k:Int))&&decide ((k:Int) < B.length))=true:=by rw [Bool.and_eq_true,decide_eq_true_eq,decide_eq_true_eq];omega
   rw [e0,Bool.true_and,Int.toNat_natCast]
   clear e0 hi
   by_cases h1:a < 0
   · have e1:decide (0≤a)=false:=decide_eq_false (by omega)
     rw [e1,Bool.false_and,if_neg (by decide),if_neg (by decide)]
     clear e1
     have d0:decide (a < 0)=true:=decide_eq_true h1
     go_enter Tryz.func125,Tryz.ntmps125
     go_wp2_with fail
     refine (byat_in s g B k _ h hk).mono ?_
     rintro e w1 ⟨rfl,rfl⟩
     go_wp2_with fail
     go_ret
     exact ⟨rfl,Mod.refl _ _,h⟩
   by_cases h2:16≤a
   · have e1:decide (a < 16)=false:=decide_eq_false (by omega)
     rw [e1,Bool.and_false,if_neg (by decide),if_neg (by decide)]
     clear e1
     have d0:decide (a < 0)=false:=decide_eq_false h1
     have d1:decide (16≤a)=true:=decide_eq_true h2
     go_enter Tryz.func125,Tryz.ntmps125
     go_wp2_with fail
     refine (byat_in s g B k _ h hk).mono ?_
     rintro e w1 ⟨rfl,rfl⟩
     go_wp2_with fail
     go_ret
     exact ⟨rfl,Mod.refl _ _,h⟩
   obtain ⟨j,rfl⟩:∃ j:Nat,a=j:=⟨a.toNat,by omega⟩
   have hj:j < 16:=by omega
   have e1:(decide (0≤(j:Int))&&decide ((j:Int) < 16))=true:=by rw [Bool.and_eq_true,decide_eq_true_eq,decide_eq_true_eq];omega
   rw [e1,if_pos rfl,if_pos rfl,Int.toNat_natCast]
   clear e1
   obtain ⟨ns,hns⟩:∃ ns,B[k]?=some ns:=⟨_,ζg hk⟩
   have hd:B.getD k []=ns:=by rw [List.getD_eq_getElem?_getD,hns];rfl
   rw [hd]
   have ht:=h.good ns (ζm hns)
   have hc:=h.cell hns hj
   have hf:=h.row.frozen (k * 16+j)
   have ht2:Txt (ns.set j b):=⟨by rw [List.length_set];exact ht.1,fun n hn=>by
    rcases List.mem_or_eq_of_mem_set hn with h1 | rfl
    · exact ht.2 n h1
    · exact hb⟩
   have hm:=mod_setCell w g (k * 16+j) (.int .u8 b)
   have hput:=h.put k (ns.set j b) ht2 hm (by
    rw [flat_setCell ecT_len B k j ns (ns.set j b) (.int .u8 b) hns hj (ecT_set ns ht.1 j b)]
    have:=h.row.set (k * 16+j) (.int .u8 b)
    rwa [List.setIfInBounds_toArray] at this)
   obtain ⟨x,hx⟩:∃ x,x=ns.getD j 0:=⟨_,rfl⟩
   rw [←hx] at hc
   have d0:decide ((j:Int) < 0)=false:=decide_eq_false h1
   have d1:decide (16≤(j:Int))=false:=decide_eq_false (by omega)
   have hjI:(j:Int) < 16:=by omega
   have hjN:0≤(j:Int):=by omega
   have HP:=ζh hput
   clear hx hd hns h1 h2 ht ht2 hput
   go_enter Tryz.func125,Tryz.ntmps125
   go_wp2_with fail
   refine (byat_in s g B k _ h hk).mono ?_
   rintro e w1 ⟨rfl,rfl⟩
   go_wp2_with fail
   go_ret
   exact ⟨rfl,hm,HP.out⟩
theorem wpList_storeBy {P:Program} {ops:Array Oper} {rest:List Oper} {o:Oper} {a:Act} {w w2:World} {Q:Exit→Act→World→Prop} (hgd:o.guard=none) (ty:TypeId) (x y:Operand) (ho:o.op=.store ty x y)
 (p:Addr) (v:Value) (hx:a.eval x=.pointer (some p)) (hy:a.eval y=v) (hr:(storeVar ty p v).run P w=.ok () w2)
 (h:wpList P ops Q rest (a.put o.dst undef) w2):wpList P ops Q (o::rest) a w:=by
 refine wpList_plain hgd fun _ hK=>?_
 unfold Oper.wp execOp
 simp only [ho,hx,hy,Instr.storeAt,Instr.sureAddr,Sem.run_bind,Sem.run_pure,Result.andThen_ok,hr]
 exact hK _ _ h
theorem run_storeVar_cells {P:Program} (w w2:World) (ty:TypeId) (p:Addr) (cells:Array Value) (hi:(P.info? ty).map (·.size)=some cells.size) (h:(storeCells p cells.toList 0).run P w=.ok () w2) :
 (storeVar ty p (.agg cells)).run P w=.ok () w2:=by
 cases hq:P.info? ty with
 | none=>simp [hq] at hi
 | some i =>
   have hs:cells.size=i.size:=by simp [hq] at hi;omega
   simp [storeVar,sizeOf,typeInfo,hq,Value.cells,hs,h]
def zeroT:List Int:=List.replicate 16 0
theorem zeroT_txt:Txt zeroT:=⟨rfl,fun n hn=>by rw [List.eq_of_mem_replicate hn];omega⟩
def clearB (B:List (List Int)) (i:Int):List (List Int):=if (decide (0≤i)&&decide (i < B.length))=true then B.set i.toNat zeroT else B
theorem byclear_any (s g:Nat) (B:List (List Int)) (i:Int) (w:World) (h:BytesAt w s g B) :
 Calls Tryz.prog 197 #[.pointer (some ⟨s,0,none⟩),.int .i64 i] w fun e w'=>(∃ n:Int,e=.returned (.int .i64 n))∧Mod (fun x=>x=g) w w'∧BytesAt w' s g (clearB B i):=by
 unfold clearB
 by_cases hi:i < 0∨(B.length:Int)≤i
 · have e0:(decide (0≤i)&&decide (i < B.length))=false:=by rw [Bool.and_eq_false_iff,decide_eq_false_iff_not,decide_eq_false_iff_not];omega
   rw [e0,if_neg (by decide)]
   clear e0
   go_enter Tryz.func197,Tryz.ntmps197
   go_wp2_with fail
   refine (byat_out s g B i _ h hi).mono ?_
   rintro e w1 ⟨rfl,rfl⟩
   go_wp2_with fail
   go_ret
   exact ⟨⟨_,rfl⟩,Mod.refl _ _,h⟩
 · obtain ⟨k,rfl⟩:∃ k:Nat,i=k:=⟨i.toNat,by omega⟩
   have hk:k < B.length:=by omega
   have e0:(decide (0≤(k:Int))&&decide ((k:Int) < B.length))=true:=by rw [Bool.and_eq_true,decide_eq_true_eq,decide_eq_true_eq];omega
   rw [e0,if_pos rfl,Int.toNat_natCast]
   clear e0 hi
   have hst:=run_storeCells_at Tryz.prog g (k * 16) 304 (ecT zeroT) 0 _ w h.row (by rw [ecT_len,List.size_toArray,flat_len ecT_len];omega) (by intro v hv;obtain ⟨i,_,rfl⟩:=List.mem_map.1 hv;rfl)
   rw [Nat.add_zero,ecT_len,←flat_set ecT_len B k zeroT hk] at hst
   have hput:=h.put k zeroT zeroT_txt (mod_setRow w g ((B.set k zeroT).flatMap ecT).toArray) (Blk.setRow h.row)
   have hm:=mod_setRow w g ((B.set k zeroT).flatMap ecT).toArray
   obtain ⟨w2,hw2⟩:∃ w2,w2=w.setRow g ((B.set k zeroT).flatMap ecT).toArray:=⟨_,rfl⟩
   rw [←hw2] at hst hput hm
   have HP:=ζh hput
   have HST:=ζh (run_storeVar_cells (P:=Tryz.prog) w w2 304 ⟨g,k * 16,none⟩ (ecT zeroT).toArray (by kernel_rfl) hst)
   have ez:(ecT zeroT).toArray=#[.int .u8 0,.int .u8 0,.int .u8 0,.int .u8 0,.int .u8 0,.int .u8 0,.int .u8 0,.int .u8 0,.int .u8 0,.int .u8 0,.int .u8 0,.int .u8 0,.int .u8 0,.int .u8 0,.int .u8 0,.int .u8 0]:=rfl
   rw [ez] at HST
   clear hw2 hput hst ez
   go_enter Tryz.func197,Tryz.ntmps197
   go_wp2_with fail
   refine (byat_in s g B k _ h hk).mono ?_
   rintro e w1 ⟨rfl,rfl⟩
   go_wp2_with (refine wpList_storeBy rfl 304 _ _ (by rfl) ⟨g,k * 16,none⟩ _ (by rfl) (by rfl) HST.out ?_)
   go_ret
   exact ⟨⟨_,rfl⟩,hm,HP.out⟩
theorem info_page:(Tryz.prog.info? 304).map (fun i=>(i.zero,i.size,i.bytes))=some (some (.agg #[.int .u8 0,.int .u8 0,.int .u8 0,.int .u8 0,.int .u8 0,.int .u8 0,.int .u8 0,.int .u8 0,.int .u8 0,.int .u8 0,.int .u8 0,.int .u8 0,.int .u8 0,.int .u8 0,.int .u8 0,.int .u8 0]),16,16):=by kernel_rfl
theorem zeros_flat (n:Nat):(List.replicate n zeroT).flatMap ecT=List.replicate (n * 16) (.int .u8 0):=by
 induction n with
 | zero=>rfl
 | succ n ih =>
   rw [List.replicate_succ,List.flatMap_cons,ih,Nat.succ_mul,Nat.add_comm,←List.replicate_append_replicate]
   congr 1
theorem madeAll (v u:Value) (n m:Nat) (hm:0 < m) (h:v.cells=(List.replicate m u).toArray):(madeCells v.cells (n * m)).toList=List.replicate (n * m) u:=by
 rw [h]
 unfold madeCells
 apply List.ext_getElem
 · simp
 · intro i h1 h2
   simp [Nat.mod_lt,hm]
theorem bynew_any (n:Int) (w:World) :
 Calls Tryz.prog 47 #[.int .i64 n] w fun e w'=>∃ s g,e=.returned (.pointer (some ⟨s,0,none⟩))∧Mod (fun _=>False) w w'∧BytesAt w' s g (List.replicate (min n 1024).toNat zeroT)∧w.heap.size≤s∧w.heap.size≤g:=by
 obtain ⟨iU,hiU,hzU,hsU,hbU⟩:=info_parts info_page
 have HIU:=ζh hiU
 have HZU:=ζh hzU
 have HSU:=ζh hsU
 have HBU:=ζh hbU
 clear hiU hzU hsU hbU
 rcases (show n < 0∨(0≤n∧n≤1024)∨1024 < n by omega) with h0 | h0 | h0
 case' inl =>
  have d0:decide (n < 0)=true:=decide_eq_true h0
  have ek:(min n 1024).toNat=0:=by omega
 case' inr.inl =>
  obtain ⟨k,rfl⟩:∃ k:Nat,n=k:=⟨n.toNat,by omega⟩
  have d0:decide ((k:Int) < 0)=false:=by simp
  have d1:decide ((1024:Int) < (k:Int))=false:=decide_eq_false (by omega)
  have d2:decide (1024 < k)=false:=decide_eq_false (by omega)
  have ek:(min (k:Int) 1024).toNat=k:=by omega
 case' inr.inr =>
  have d0:decide (n < 0)=false:=decide_eq_false (by omega)
  have d1:decide (1024 < n)=true:=decide_eq_true h0
  have ek:(min n 1024).toNat=1024:=by omega
 · rw [ek]
   clear ek
   go_enter Tryz.func47,Tryz.ntmps47
   go_wp2_with (at_make;go_loud (refine wpList_make_full _ rfl _ _ 155 rfl 0 304 iU _ 16 Tryz.underlying155 HIU.out HZU.out HSU.out .i64 .i64 1024 1024 1024 rfl rfl rfl rfl (by rw [HBU.out];omega) (by unfold maxLen;omega) (Nat.zero_le _) ?_;intro w4 o4 gr4;rw [madeAll _ (.int .u8 0) 1024 16 (by decide) rfl] at o4))
   go_ret
   have hm4:Mod (fun _=>False) w w4:=(Mod.refl _ _).grown gr4 (fun k hk=>by cases hk)
   have hlt:w.heap.size < w4.heap.size:=ownsRow_lt o4 _ rfl
   refine ⟨_,w.heap.size,rfl,hm4.trans (Mod.alloc' _ _ _),⟨?_,?_,?_,?_⟩,Nat.le_of_lt hlt,Nat.le_refl _⟩
   · rw [List.length_replicate];exact Blk.new _ _ _
   · rw [zeros_flat]
     refine Blk.keep ?_ (Mod.alloc' (fun _=>False) _ _) (fun x=>x)
     rcases id o4.2 with ⟨h1,_⟩ | ⟨g',cap,cur,hv,hb,hg,h1,h2,h3,h4⟩
     · cases h1
     · injection hv with e1 e2 e3
       injection e1 with e1
       injection e1 with e1 _ _
       subst e1 e3
       have:cur.toList=List.replicate (1024 * 16) (.int .u8 0):=by rw [←h4,List.take_of_length_le (by simp [h3])]
       have e:cur=(List.replicate (1024 * 16) (Value.int .u8 0)).toArray:=by rw [←this]
       rw [e] at hg
       exact hg
   · intro ns hns
     rw [List.eq_of_mem_replicate hns]
     exact zeroT_txt
   · rw [List.length_replicate];omega
 · rw [ek]
   clear ek
   go_enter Tryz.func47,Tryz.ntmps47
   go_wp2_with (at_make;go_loud (refine wpList_make_full _ rfl _ _ 155 rfl 0 304 iU _ 16 Tryz.underlying155 HIU.out HZU.out HSU.out .i64 .i64 k k k rfl rfl rfl rfl (by rw [HBU.out];omega) (by unfold maxLen;omega) (Nat.zero_le _) ?_;intro w4 o4 gr4;rw [madeAll _ (.int .u8 0) k 16 (by decide) rfl] at o4))
   go_ret
   have hm4:Mod (fun _=>False) w w4:=(Mod.refl _ _).grown gr4 (fun k hk=>by cases hk)
   have hlt:w.heap.size < w4.heap.size:=ownsRow_lt o4 _ rfl
   refine ⟨_,w.heap.size,rfl,hm4.trans (Mod.alloc' _ _ _),⟨?_,?_,?_,?_⟩,Nat.le_of_lt hlt,Nat.le_refl _⟩
   · rw [List.length_replicate];exact Blk.new _ _ _
   · rw [zeros_flat]
     refine Blk.keep ?_ (Mod.alloc' (fun _=>False) _ _) (fun x=>x)
     rcases id o4.2 with ⟨h1,_⟩ | ⟨g',cap,cur,hv,hb,hg,h1,h2,h3,h4⟩
     · cases h1
     · injection hv with e1 e2 e3
       injection e1 with e1
       injection e1 with e1 _ _
       subst e1 e3
       have:cur.toList=List.replicate (k * 16) (.int .u8 0):=by rw [←h4,List.take_of_length_le (by simp [h3])]
       have e:cur=(List.replicate (k * 16) (Value.int .u8 0)).toArray:=by rw [←this]
       rw [e] at hg
       exact hg
   · intro ns hns
     rw [List.eq_of_mem_replicate hns]
     exact zeroT_txt
   · rw [List.length_replicate];omega
 · rw [ek]
   clear ek
   go_enter Tryz.func47,Tryz.ntmps47
   go_wp2_with (at_make;go_loud (refine wpList_make_full _ rfl _ _ 155 rfl 0 304 iU _ 16 Tryz.underlying155 HIU.out HZU.out HSU.out .i64 .i64 0 0 0 rfl rfl rfl rfl (by rw [HBU.out];omega) (by unfold maxLen;omega) (Nat.zero_le _) ?_;intro w4 o4 gr4;rw [madeAll _ (.int .u8 0) 0 16 (by decide) rfl] at o4))
   go_ret
   have hm4:Mod (fun _=>False) w w4:=(Mod.refl _ _).grown gr4 (fun k hk=>by cases hk)
   have hlt:w.heap.size < w4.heap.size:=ownsRow_lt o4 _ rfl
   refine ⟨_,w.heap.size,rfl,hm4.trans (Mod.alloc' _ _ _),⟨?_,?_,?_,?_⟩,Nat.le_of_lt hlt,Nat.le_refl _⟩
   · rw [List.length_replicate];exact Blk.new _ _ _
   · rw [zeros_flat]
     refine Blk.keep ?_ (Mod.alloc' (fun _=>False) _ _) (fun x=>x)
     rcases id o4.2 with ⟨h1,_⟩ | ⟨g',cap,cur,hv,hb,hg,h1,h2,h3,h4⟩
     · cases h1
     · injection hv with e1 e2 e3
       injection e1 with e1
       injection e1 with e1 _ _
       subst e1 e3
       have:cur.toList=List.replicate (0 * 16) (.int .u8 0):=by rw [←h4,List.take_of_length_le (by simp [h3])]
       have e:cur=(List.replicate (0 * 16) (Value.int .u8 0)).toArray:=by rw [←this]
       rw [e] at hg
       exact hg
   · intro ns hns
     rw [List.eq_of_mem_replicate hns]
     exact zeroT_txt
   · rw [List.length_replicate];omega
end Byt
end Go.Proofs.YtkfoeonggmlebaaGreatDoor
