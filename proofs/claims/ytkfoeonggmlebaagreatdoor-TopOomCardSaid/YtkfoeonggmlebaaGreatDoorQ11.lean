/-
  Contracts of the program's functions, and plain facts, towards the laws of millpondtop. No condition beyond those that each theorem bears.
-/
import Derived.Test.YtkfoeonggmlebaaGreatDoorQ00
import Derived.Test.YtkfoeonggmlebaaGreatDoorQ05
import Derived.Test.YtkfoeonggmlebaaGreatDoorQAA
set_option maxRecDepth 100000
set_option maxHeartbeats 4000000
namespace Go.Proofs.YtkfoeonggmlebaaGreatDoor
namespace Gen
open Go.RowKit Go.Maps Go.Shelf Go.WideShapes
open Go.WideElems (Fit rd rg)
theorem own_of_mapA {α:Type} {ev:α→Value} {w:World} {mb:Nat} {G:List (Int × α)} (h:MapA ekInt ev w mb G) (hk:∀ e∈G,(Lit.int .i64 e.1).wf=true) (hl:G.length≤1000000) :
 ∃ D0:DataW Unit,w.ownsMap Tryz.prog 3 (fun _=>some (.lit (.bool true),[])) mb G.length D0∧(intKeys D0).Perm (G.map (·.1))∧Maps.size D0=G.length:=by
 obtain ⟨l,c,h1,h2,h3⟩:=h
 have hlen:l.length=G.length:=by have:=congrArg List.length h2;simpa using this
 have hkey:l.map (·.key)=G.map (·.1):=by
  have:=congrArg (List.map Prod.fst) h2
  rw [List.map_map,List.map_map] at this
  exact this
 have hko:∀ e:KV Int,(Lit.int .i64 e.key).wf=true→keyOf Tryz.prog 3 (entKV ekInt e).key=some (.int .i64 e.key):=by
  intro e he
  simp [keyOf,mapKey,entKV,ekInt,Tryz.underlying3,he]
 have hwf:∀ e∈l,(Lit.int .i64 e.key).wf=true:=by
  intro e he
  have:e.key∈G.map (·.1):=by rw [←hkey];exact List.mem_map.2 ⟨e,he,rfl⟩
  obtain ⟨y,hy,e'⟩:=List.mem_map.1 this
  rw [←e'];exact hk y hy
 have hrd:∀ e∈l,rd (H:=Unit) Tryz.prog 3 (fun _=>some (.lit (.bool true),[])) (entKV ekInt e)=some (.int .i64 e.key,.lit (.bool true)):=by
  intro e he
  simp [rd,hko e (hwf e he)]
 have hrg:(l.map (entKV ekInt)).map (rg (H:=Unit) Tryz.prog 3 (fun _=>some (.lit (.bool true),[])))=l.map fun e=>(Lit.int .i64 e.key,DataW.lit (.bool true)):=by
  rw [List.map_map]
  apply List.map_congr_left
  intro e he
  show rg _ _ _ (entKV ekInt e)=_
  unfold rg
  rw [hrd e he];rfl
 have hpm:=sorted_perm (l.map fun e=>(Lit.int .i64 e.key,(DataW.lit (.bool true):DataW Unit)))
 refine ⟨_,⟨(l.map (entKV ekInt)).toArray,c,h1,⟨?_,?_,?_⟩,?_,rfl⟩,?_,?_⟩
 · simp [maxLen];omega
 · refine ⟨?_,?_,?_⟩
   · intro x hx
     simp only [List.mem_map] at hx
     obtain ⟨e,he,rfl⟩:=hx
     exact h3.1 e he
   · simpa [entKV,Function.comp_def] using h3.2.1
   · have:((l.map (entKV ekInt)).map (·.key))=(l.map (·.key)).map ekInt:=by simp [entKV,Function.comp_def]
     simp only [this]
     refine List.pairwise_map.2 (h3.2.2.imp fun hne e=>hne ?_)
     simpa [ekInt] using e
 · intro x hx
   simp only [List.mem_map] at hx
   obtain ⟨e,he,rfl⟩:=hx
   exact ⟨_,hrd e he⟩
 · simp;omega
 · simp only [hrg]
   show (List.map (fun p:Lit × DataW Unit=>Go.intOf p.1) _).Perm _
   refine (hpm.map _).trans ?_
   rw [←hkey]
   simp [Function.comp_def,Go.intOf]
 · simp only [hrg]
   show List.length _=_
   rw [hpm.length_eq,List.length_map,hlen]
def insI (x:Int):List Int→List Int
 | []=>[x]
 | y::l=>if x≤y then x::y::l else y::insI x l
def sortI:List Int→List Int
 | []=>[]
 | x::l=>insI x (sortI l)
theorem insI_perm (x:Int):∀ l,(insI x l).Perm (x::l)
 | []=>.refl _
 | y::l=>by
   show (if x≤y then x::y::l else y::insI x l).Perm _
   split
   · exact .refl _
   · exact ((insI_perm x l).cons y).trans (.swap x y l)
theorem sortI_perm:∀ l,(sortI l).Perm l
 | []=>.refl _
 | x::l=>(insI_perm x (sortI l)).trans ((sortI_perm l).cons x)
theorem insI_sorted (x:Int):∀ {l:List Int},l.Pairwise (·≤·)→(insI x l).Pairwise (·≤·)
 | [],_=>List.pairwise_singleton _ _
 | y::l,h=>by
   rw [List.pairwise_cons] at h
   show (if x≤y then x::y::l else y::insI x l).Pairwise _
   split
   · rename_i hxy
     rw [List.pairwise_cons,List.pairwise_cons]
     refine ⟨fun z hz=>?_,h⟩
     rcases List.mem_cons.1 hz with rfl | hz
     · exact hxy
     · exact Int.le_trans hxy (h.1 z hz)
   · rename_i hxy
     rw [List.pairwise_cons]
     refine ⟨fun z hz=>?_,insI_sorted x h.2⟩
     rcases List.mem_cons.1 ((insI_perm x l).mem_iff.1 hz) with rfl | hz
     · omega
     · exact h.1 z hz
theorem sortI_sorted:∀ l,(sortI l).Pairwise (·≤·)
 | []=>List.Pairwise.nil
 | x::l=>insI_sorted x (sortI_sorted l)
theorem sortI_eq (l:List Int):sortI l=l.mergeSort (fun x y=>decide (x≤y)):=by
 have h:=mergeSort_of_perm_i (sortI_perm l)
 rw [←h]
 exact (List.mergeSort_of_pairwise ((sortI_sorted l).imp (fun h=>by simpa using h))).symm
def keysA {α:Type} (G:List (Int × α)):List Int:=sortI (G.map (·.1))
theorem sortsI (m:Nat):AnyZI.SortsIn Tryz.prog Tryz.sortedI_ren Fence.wide m :=
 ⟨fun blk off cap ss W hH hblk hsz=>callsIn_wide.2 (AnyM.slices_Sort_int Tryz.sortI blk off cap ss W hH hblk hsz),
  fun p cap W=>callsIn_wide.2 (AnyM.slices_Sort_int_none Tryz.sortI p cap W)⟩
theorem keysG_any (mb:Option Nat) (w:World):Calls Tryz.prog 218 #[.map mb] w fun e w'=>e=.returned (.func (.func 247) #[] #[.pointer (some ⟨w.heap.size,0,none⟩)])∧w'=w.alloc (.cells #[.map mb] 105) :=
 (callsIn_wide (n:=5)).1 (AnyZI.keys_in Tryz.keysG Fence.wide 5 trivial rfl mb w)
theorem sortedG_any {α:Type} {ev:α→Value} (mb:Nat) (G:List (Int × α)) (w:World) (h:MapA ekInt ev w mb G) (hk:∀ e∈G,(Lit.int .i64 e.1).wf=true) (hl:G.length≤1000000) :
 Calls Tryz.prog 202 #[.func (.func 247) #[] #[.pointer (some ⟨w.heap.size,0,none⟩)]] (w.alloc (.cells #[.map (some mb)] 105)) fun e w' =>
  ∃ v,e=.returned v∧Mod (fun _=>False) w w'∧w'.ownsRow w.heap.size 3 1 v (keysA G).length ((keysA G).map encI):=by
 obtain ⟨D0,ho,hp,hs⟩:=own_of_mapA h hk hl
 have hbl:=h.lt
 have hseq:SeqGives Fence.wide 2 Tryz.prog 247 #[.pointer (some ⟨w.heap.size,0,none⟩)] encZ (fun ss=>ss.Perm (intKeys D0)) (Maps.size D0) (w.alloc (.cells #[.map (some mb)] 105)) :=
  AnyZI.keys_gives (ρ:=Tryz.keysG_ren) { Tryz.keysG with } Fence.wide _ trivial rfl (by omega) w.heap.size mb _ D0 _ (by simp) (by simp) (by
   obtain ⟨es,clock,hb,Ft,hs,hD⟩:=ho
   exact ⟨es,clock,(Below.heap_alloc _ _ mb hbl).trans hb,Ft,hs,hD⟩)
 have cS:=AnyZI.sorted_in Tryz.sortedI Fence.wide 5 trivial trivial trivial trivial rfl (by omega) (sortsI _) (enters_of Tryz.func240 (by kernel_rfl) rfl) 247 #[.pointer (some ⟨w.heap.size,0,none⟩)] trivial (enters_of Tryz.func247 (by kernel_rfl) rfl) _ _ (by rw [hs];unfold maxLen;omega) (by rw [hs];omega) _ hseq
 refine ((callsIn_wide (n:=5)).1 cS).mono ?_
 rintro e w' ⟨v,ss,rfl,hS,hrow,hnil,hb⟩
 have he:ss.mergeSort (fun x y=>decide (x≤y))=keysA G:=(mergeSort_of_perm_i (hS.trans hp)).trans (sortI_eq _).symm
 have hlen:ss.length=(keysA G).length:=by rw [←he,List.length_mergeSort]
 rw [he,hlen] at hrow
 exact ⟨v,rfl,Mod.ofBelow (((Below.refl _ w).alloc (Nat.le_refl _) _).trans (hb.mono (by simp))),ownsRow_base hrow (by simp)⟩
end Gen
end Go.Proofs.YtkfoeonggmlebaaGreatDoor
