/-
  Contracts of the program's functions, and plain facts, towards the laws of millpondtop. No condition beyond those that each theorem bears.
-/
import Derived.Test.YtkfoeonggmlebaaGreatDoorQ02
import Derived.Test.YtkfoeonggmlebaaGreatDoorQAA
set_option maxRecDepth 100000
set_option maxHeartbeats 4000000
namespace Go.Proofs.YtkfoeonggmlebaaGreatDoor
namespace Cnt
open Go.RowKit
def chainB (l:List Int):Bool:=l.all groupB&&decide l.Nodup
def rightB (l:List Int) (n:Int):Bool:=chainB l&&amountB n
def metCells (l:List Int):Array Value:=((List.range 64).map fun (i:Nat)=>Value.bool (decide ((i:Int)∈l))).toArray
theorem metCells_get (l:List Int) (k:Nat) (hk:k < 64):(metCells l)[k]?=some (.bool (decide ((k:Int)∈l))):=by
 simp [metCells,hk]
theorem metCells_set (l:List Int) (k:Nat) (hk:k < 64):(metCells l).setIfInBounds k (.bool true)=metCells (l++[(k:Int)]):=by
 apply Array.ext'
 simp only [metCells,Array.toList_setIfInBounds]
 apply List.ext_getElem?
 intro i
 rw [List.getElem?_set]
 simp only [List.length_map,List.length_range,List.getElem?_map]
 by_cases hi:i < 64
 · rw [List.getElem?_range hi]
   simp only [Option.map_some,List.mem_append,List.mem_singleton]
   by_cases h:k=i
   · subst h;simp [hk]
   · rw [if_neg h]
     have:¬ ((i:Int)=(k:Int)):=by omega
     simp [this]
 · rw [List.getElem?_eq_none (by simp;omega)]
   rw [if_neg (by omega)]
   rfl
theorem chainB_snoc (l:List Int) (g:Int):chainB (l++[g])=(chainB l&&groupB g&&!decide (g∈l)):=by
 unfold chainB
 rw [List.all_append,List.all_cons,List.all_nil,Bool.and_true]
 have e:decide ((l++[g]).Nodup)=(decide l.Nodup&&!decide (g∈l)):=by
  rw [Bool.eq_iff_iff]
  simp only [Bool.and_eq_true,Bool.not_eq_true',decide_eq_true_eq,decide_eq_false_iff_not,List.nodup_append,List.mem_singleton]
  constructor
  · rintro ⟨h1,_,h3⟩
    exact ⟨h1,fun h=>h3 g h g rfl rfl⟩
  · rintro ⟨h1,h2⟩
    exact ⟨h1,by simp,fun a ha b hb hab=>h2 (by rw [←hb,←hab];exact ha)⟩
 rw [e]
 cases l.all groupB<;>cases decide l.Nodup<;>cases groupB g<;>simp
theorem chainB_take {l:List Int} (k:Nat) (h:chainB l=true):chainB (l.take k)=true:=by
 unfold chainB at *
 simp only [Bool.and_eq_true,decide_eq_true_eq,List.all_eq_true] at *
 exact ⟨fun x hx=>h.1 x (List.mem_of_mem_take hx),h.2.sublist (List.take_sublist _ _)⟩
theorem take_succ_get {α:Type} {l:List α} {k:Nat} {x:α} (h:l[k]?=some x):l.take (k+1)=l.take k++[x]:=by
 rw [List.take_add_one,h];rfl
theorem chainB_not {l:List Int} {k:Nat} {g:Int} (hg:l[k]?=some g) (h:groupB g=false∨decide (g∈l.take k)=true):chainB l=false:=by
 cases hc:chainB l with
 | false=>rfl
 | true =>
   have h1:=chainB_take (k+1) hc
   rw [take_succ_get hg,chainB_snoc] at h1
   rcases h with h | h
   · rw [h] at h1;simp at h1
   · rw [h] at h1;simp at h1
theorem intsAt_get {w:World} {a:Option Addr} {cap:Nat} {ns:List Int} (h:IntsAt w (.slice a ns.length cap) ns) {k:Nat} {x:Int} (hk:ns[k]?=some x):∃ b off,a=some ⟨b,off,none⟩∧w.cell? ⟨b,off+k,none⟩=some (.int .i64 x):=by
 obtain ⟨a',cap',he,_,_,h4⟩:=h
 injection he with h1 h2 h3
 subst h1
 have hl:=(ζi.1 hk).1
 obtain ⟨b,off,h5,h6⟩:=h4 k hl
 refine ⟨b,off,h5,?_⟩
 rw [h6,List.getD_eq_getElem?_getD,hk]
 rfl
theorem right_any (chain:List Int) (v:Value) (n:Int) (w:World) (h:IntsAt w v chain) :
 Calls Tryz.prog 148 #[v,.int .i64 n] w fun e w'=>e=.returned (.bool (rightB chain n))∧Mod (fun _=>False) w w':=by
 obtain ⟨a,cap,rfl,hcap,hmax,_⟩:=id h
 unfold maxLen at hmax
 obtain ⟨r,hr⟩:∃ r,r=rightB chain n:=⟨_,rfl⟩
 rw [←hr]
 have HR:=ζh hr
 clear hr
 go_enter Tryz.func148,Tryz.ntmps148
 go_wp2_with fail
 go_loopw [10] (fun i wr=>∃ k:Nat,k≤chain.length∧i=.int .i64 k∧chainB (chain.take k)=true∧Blk wr w.heap.size (metCells (chain.take k)) 272∧Mod (fun _=>False) w wr) (fun i _=>chain.length - (intOf i).toNat)
 case atStart=>exact ⟨0,by omega,rfl,rfl,Blk.new w _ _,Mod.alloc' _ _ _⟩
 case round =>
  obtain ⟨k,hk,rfl,hch,hb,hm⟩:=hrel
  by_cases hlt:k < chain.length
  · obtain ⟨g,hg⟩:∃ g,chain[k]?=some g:=⟨_,ζg hlt⟩
    obtain ⟨b,off,rfl,hc0⟩:=intsAt_get h hg
    have hc:=hm.keeps hc0 (fun x=>x)
    cases hgb:groupB g with
    | false =>
      have hno:chainB chain=false:=chainB_not hg (.inl hgb)
      obtain rfl:r=false:=by rw [HR.out];unfold rightB;rw [hno];rfl
      clear hno hch hg h
      go_wp2_with fail
      refine (group_any g _).mono ?_
      rw [hgb]
      rintro e w' ⟨rfl,rfl⟩
      go_wp2_with fail
      go_ret
      exact ⟨rfl,hm⟩
    | true =>
      obtain ⟨m,rfl,hm64⟩:=groupB_nat hgb
      have hmc:=hb.cell m
      rw [metCells_get _ _ hm64] at hmc
      cases hin:decide ((m:Int)∈chain.take k) with
      | true =>
        have hno:chainB chain=false:=chainB_not hg (.inr hin)
        obtain rfl:r=false:=by rw [HR.out];unfold rightB;rw [hno];rfl
        rw [hin] at hmc
        clear hno hch hg hin h
        go_wp2_with fail
        refine (group_any m _).mono ?_
        rw [hgb]
        clear hgb
        rintro e w' ⟨rfl,rfl⟩
        go_wp2_with fail
        go_ret
        exact ⟨rfl,hm⟩
      | false =>
        have hch1:chainB (chain.take (k+1))=true:=by rw [take_succ_get hg,chainB_snoc,hch,hgb,hin];rfl
        have hb1:=hb.set m (.bool true)
        rw [metCells_set _ _ hm64,←take_succ_get hg] at hb1
        have hf:=hb.frozen m
        rw [hin] at hmc
        have HC:=ζh hch1
        clear hch hch1 hg hin h
        go_wp2_with fail
        refine (group_any m _).mono ?_
        rw [hgb]
        clear hgb
        rintro e w' ⟨rfl,rfl⟩
        go_wp2_with fail
        go_roundw
        case rel=>exact ⟨k+1,by omega,by go_num,HC.out,hb1,Mod.setCell hm (.inr (Nat.le_refl _)) _⟩
        case measure=>simp [intOf];omega
  · obtain rfl:k=chain.length:=by omega
    rw [List.take_length] at hch
    obtain rfl:r=amountB n:=by rw [HR.out];unfold rightB;rw [hch];rfl
    clear hch
    go_wp2_with fail
    refine (amount_any n _).mono ?_
    rintro e w' ⟨rfl,rfl⟩
    go_wp2_with fail
    go_ret
    exact ⟨rfl,hm⟩
def firstS (l:List Cnt) (p:Cnt→Bool):List Int→Int
 | []=>-1
 | g::r=>if p (ofS l g) then g else firstS l p r
theorem firstS_take {l:List Cnt} {p:Cnt→Bool} {chain:List Int} {k:Nat} {g:Int} (hg:chain[k]?=some g) (hn:∀ x∈chain.take k,p (ofS l x)=false):firstS l p chain=if p (ofS l g) then g else firstS l p (chain.drop (k+1)):=by
 induction chain generalizing k with
 | nil=>simp at hg
 | cons x r ih =>
   cases k with
   | zero=>simp only [ζb,Option.some.injEq] at hg;subst hg;rfl
   | succ k =>
     simp only [ζc] at hg
     have h0:p (ofS l x)=false:=hn x (by simp)
     show (if p (ofS l x) then x else firstS l p r)=_
     rw [h0,ih hg (fun y hy=>hn y (by rw [List.take_succ_cons];exact List.mem_cons_of_mem _ hy))]
     rfl
theorem firstS_none {l:List Cnt} {p:Cnt→Bool} {chain:List Int} (hn:∀ x∈chain,p (ofS l x)=false):firstS l p chain=-1:=by
 induction chain with
 | nil=>rfl
 | cons x r ih =>
   show (if p (ofS l x) then x else firstS l p r)=_
   rw [hn x List.mem_cons_self,ih (fun y hy=>hn y (List.mem_cons_of_mem _ hy))]
   rfl
theorem ofS_nat {l:List Cnt} (hl:l.length=64) {k:Nat} (hk:k < 64):l[k]?=some (ofS l k):=by
 have hg:groupB k=true:=by unfold groupB;simp;omega
 unfold ofS
 rw [hg,if_pos rfl,Int.toNat_natCast,List.getD_eq_getElem?_getD,ζg (by omega)]
 rfl
theorem cntFirst_any (b:Nat) (l:List Cnt) (chain:List Int) (v:Value) (fn:Nat) (cap:Array Value) (p:Cnt→Bool) (w:World) (hl:CntIs w b l) (h:IntsAt w v chain) (hg:∀ g∈chain,groupB g=true)
 (hfn:∀ (c:Cnt) (w':World),c∈l→Mod (fun _=>False) w w'→Calls Tryz.prog fn (#[.agg (ecCnt c).toArray]++cap) w' fun e w''=>e=.returned (.bool (p c))∧Mod (fun _=>False) w' w'')
 (henter:∀ (args:Array Value) (w':World),(callFunc fn args).run Tryz.prog w'=.ok (.enter fn args) w') :
 Calls Tryz.prog 149 #[.pointer (some ⟨b,0,none⟩),v,.func (.func fn) #[] cap] w fun e w'=>e=.returned (.int .i64 (firstS l p chain))∧Mod (fun _=>False) w w':=by
 obtain ⟨a,cp,rfl,hcap,hmax,_⟩:=id h
 unfold maxLen at hmax
 obtain ⟨r,hr⟩:∃ r,r=firstS l p chain:=⟨_,rfl⟩
 rw [←hr]
 have HR:=ζh hr
 clear hr
 have HF:=ζh hfn
 clear hfn
 go_enter Tryz.func149,Tryz.ntmps149
 go_wp2_with fail
 go_loopw [11] (fun i wr=>∃ k:Nat,k≤chain.length∧i=.int .i64 k∧(∀ x∈chain.take k,p (ofS l x)=false)∧Mod (fun _=>False) w wr) (fun i _=>chain.length - (intOf i).toNat)
 case atStart=>exact ⟨0,by omega,rfl,(fun x hx=>by simp at hx),Mod.refl _ _⟩
 case round =>
  obtain ⟨k,hk,rfl,hn,hm⟩:=hrel
  by_cases hlt:k < chain.length
  · obtain ⟨g,hgk⟩:∃ g,chain[k]?=some g:=⟨_,ζg hlt⟩
    obtain ⟨b',off,rfl,hc0⟩:=intsAt_get h hgk
    have hc:=hm.keeps hc0 (fun x=>x)
    obtain ⟨m,rfl,hm64⟩:=groupB_nat (hg g (ζm hgk))
    have hlr:=hl.keepN hm
    obtain ⟨c0,c1,c2,c3⟩:=hlr.cell (ofS_nat hl.len hm64)
    have ht:=firstS_take (p:=p) hgk hn
    have HT:=ζh ht
    have HN:=ζh hn
    have HG:=ζh hgk
    have HGG:=ζh hg
    clear ht hn hgk hg h
    go_wp2_with fail
    refine (HF.out (ofS l m) _ (ζm (ofS_nat hl.len hm64)) hm).mono ?_
    cases hp:p (ofS l m) with
    | true =>
      rintro e w1 ⟨rfl,hm1⟩
      obtain rfl:r=m:=by rw [HR.out,HT.out,hp];rfl
      clear hp
      go_wp2_with fail
      go_ret
      exact ⟨rfl,hm.trans hm1⟩
    | false =>
      rintro e w1 ⟨rfl,hm1⟩
      have hn1:∀ x∈chain.take (k+1),p (ofS l x)=false:=by
       intro x hx
       rw [take_succ_get HG.out] at hx
       rcases List.mem_append.1 hx with h | h
       · exact HN.out x h
       · rw [List.mem_singleton.1 h];exact hp
      have HN1:=ζh hn1
      clear hp hn1
      go_wp2_with fail
      go_roundw
      case rel=>exact ⟨k+1,by omega,by go_num,HN1.out,hm.trans hm1⟩
      case measure=>simp [intOf];omega
  · obtain rfl:k=chain.length:=by omega
    rw [List.take_length] at hn
    obtain rfl:r=-1:=by rw [HR.out];exact firstS_none hn
    clear hn hg
    go_wp2_with fail
    go_ret
    exact ⟨rfl,hm⟩
def tryP (n:Int) (c:Cnt):Bool:=decide (0 < n)&&decide (c.limit < c.use+n)
def giveP (n:Int) (c:Cnt):Bool:=decide (c.use < n)
theorem giveP_any (nb:Nat) (n:Int) (c:Cnt) (w:World) (hw:w.cell? ⟨nb,0,none⟩=some (.int .i64 n)) :
 Calls Tryz.prog 150 #[.agg (ecCnt c).toArray,.pointer (some ⟨nb,0,none⟩)] w fun e w'=>e=.returned (.bool (giveP n c))∧Mod (fun _=>False) w w':=by
 have hnl:=lt_of_cell hw
 unfold ecCnt giveP
 go_enter Tryz.func150,Tryz.ntmps150
 go_wp2_with fail
 go_ret
 exact ⟨rfl,Mod.alloc' _ _ _⟩
def upUse (n:Int) (l:List Cnt) (g:Int):List Cnt:=l.set g.toNat { ofS l g with use:=(ofS l g).use+n,peak:=max (ofS l g).peak ((ofS l g).use+n) }
def downUse (n:Int) (l:List Cnt) (g:Int):List Cnt:=l.set g.toNat { ofS l g with use:=(ofS l g).use - n }
def tryG (l:List Cnt) (chain:List Int) (n:Int):Int:=if rightB chain n then firstS l (tryP n) chain else -1
def tryE (l:List Cnt) (chain:List Int) (n:Int):Int:=if rightB chain n then (if 0≤firstS l (tryP n) chain then 22 else 0) else 1
def giveE (l:List Cnt) (chain:List Int) (n:Int):Int:=if rightB chain n then (if 0≤firstS l (giveP n) chain then 2 else 0) else 1
def giveS (l:List Cnt) (chain:List Int) (n:Int):List Cnt :=
 if rightB chain n then (if 0≤firstS l (giveP n) chain then l else chain.foldl (downUse n) l) else l
theorem firstS_mem (l:List Cnt) (p:Cnt→Bool) (chain:List Int):firstS l p chain=-1∨(firstS l p chain∈chain∧p (ofS l (firstS l p chain))=true):=by
 induction chain with
 | nil=>exact .inl rfl
 | cons x r ih =>
   show (if p (ofS l x) then x else firstS l p r)=-1∨_
   by_cases h:p (ofS l x)=true
   · right
     have e:firstS l p (x::r)=x:=by show (if p (ofS l x) then x else firstS l p r)=x;rw [if_pos h]
     rw [e]
     exact ⟨List.mem_cons_self,h⟩
   · have e:firstS l p (x::r)=firstS l p r:=by show (if p (ofS l x) then x else firstS l p r)=_;rw [if_neg h]
     rw [if_neg h,e]
     rcases ih with h1 | ⟨h1,h2⟩
     · exact .inl h1
     · exact .inr ⟨List.mem_cons_of_mem _ h1,h2⟩
theorem rightB_groups {chain:List Int} {n:Int} (h:rightB chain n=true):(∀ g∈chain,groupB g=true)∧chain.Nodup∧0≤n∧n≤1099511627776:=by
 unfold rightB chainB amountB at h
 simp only [Bool.and_eq_true,decide_eq_true_eq,List.all_eq_true] at h
 exact ⟨h.1.1,h.1.2,h.2.1,h.2.2⟩
theorem enter_try (args:Array Value) (w':World):(callFunc 274 args).run Tryz.prog w'=.ok (.enter 274 args) w':=by kernel_rfl
theorem enter_give (args:Array Value) (w':World):(callFunc 150 args).run Tryz.prog w'=.ok (.enter 150 args) w':=by kernel_rfl
theorem groupB_nonneg {g:Int} (h:groupB g=true):0≤g:=by obtain ⟨k,rfl,_⟩:=groupB_nat h;omega
theorem firstS_all {l:List Cnt} {p:Cnt→Bool} {chain:List Int} (h:firstS l p chain=-1) (h0:∀ x∈chain,0≤x):∀ g∈chain,p (ofS l g)=false:=by
 induction chain with
 | nil=>intro g hg;cases hg
 | cons x r ih =>
   have e:firstS l p (x::r)=if p (ofS l x) then x else firstS l p r:=rfl
   rw [e] at h
   by_cases hp:p (ofS l x)=true
   · rw [if_pos hp] at h
     have:=h0 x List.mem_cons_self
     omega
   · rw [if_neg hp] at h
     intro g hg
     rcases List.mem_cons.1 hg with rfl | hg
     · simpa using hp
     · exact ih h (fun y hy=>h0 y (List.mem_cons_of_mem _ hy)) g hg
theorem ofS_set {l:List Cnt} (hl:l.length=64) (m:Nat) (c:Cnt) (g:Int) (hm:m < 64):ofS (l.set m c) g=if g=(m:Int) then c else ofS l g:=by
 unfold ofS
 by_cases hg:groupB g=true
 · obtain ⟨k,rfl,hk⟩:=groupB_nat hg
   rw [if_pos hg,if_pos hg,Int.toNat_natCast,List.getD_eq_getElem?_getD,List.getElem?_set]
   by_cases h:m=k
   · subst h;rw [if_pos rfl,if_pos (by omega),if_pos rfl];rfl
   · rw [if_neg h,if_neg (by omega),List.getD_eq_getElem?_getD]
 · rw [if_neg hg,if_neg hg]
   rw [if_neg (by rintro rfl;exact hg (by unfold groupB;simp;omega))]
theorem upUse_len (n:Int) (l:List Cnt) (g:Int):(upUse n l g).length=l.length:=by unfold upUse;rw [List.length_set]
theorem downUse_len (n:Int) (l:List Cnt) (g:Int):(downUse n l g).length=l.length:=by unfold downUse;rw [List.length_set]
theorem foldl_len {f:List Cnt→Int→List Cnt} (hf:∀ l g,(f l g).length=l.length) (c:List Int):∀ l,(c.foldl f l).length=l.length:=by
 induction c with
 | nil=>intro l;rfl
 | cons g c ih=>intro l;rw [List.foldl_cons,ih,hf]
theorem foldl_other {f:List Cnt→Int→List Cnt} (hf:∀ l g,(f l g).length=l.length) (ho:∀ l g x,l.length=64→groupB g=true→x≠g→ofS (f l g) x=ofS l x) (c:List Int) (x:Int) :
 ∀ l,l.length=64→(∀ g∈c,groupB g=true)→x∉c→ofS (c.foldl f l) x=ofS l x:=by
 induction c with
 | nil=>intro l _ _ _;rfl
 | cons g c ih =>
   intro l hl hg hx
   rw [List.foldl_cons,ih _ (by rw [hf];exact hl) (fun y hy=>hg y (List.mem_cons_of_mem _ hy)) (fun h=>hx (List.mem_cons_of_mem _ h))]
   exact ho l g x hl (hg g List.mem_cons_self) (fun h=>hx (by rw [h];exact List.mem_cons_self))
theorem upUse_other (n:Int) (l:List Cnt) (g x:Int) (hl:l.length=64) (hg:groupB g=true) (hx:x≠g):ofS (upUse n l g) x=ofS l x:=by
 obtain ⟨m,rfl,hm⟩:=groupB_nat hg
 unfold upUse
 rw [Int.toNat_natCast,ofS_set hl m _ _ hm,if_neg hx]
theorem downUse_other (n:Int) (l:List Cnt) (g x:Int) (hl:l.length=64) (hg:groupB g=true) (hx:x≠g):ofS (downUse n l g) x=ofS l x:=by
 obtain ⟨m,rfl,hm⟩:=groupB_nat hg
 unfold downUse
 rw [Int.toNat_natCast,ofS_set hl m _ _ hm,if_neg hx]
theorem nodup_take_not {l:List Int} {k:Nat} {g:Int} (hn:l.Nodup) (hg:l[k]?=some g):g∉l.take k:=by
 have h:=hn.sublist (List.take_sublist (k+1) l)
 rw [take_succ_get hg,List.nodup_append] at h
 exact fun hm=>h.2.2 g hm g (by simp) rfl
theorem foldl_take_succ {f:List Cnt→Int→List Cnt} {l:List Cnt} {c:List Int} {k:Nat} {g:Int} (hg:c[k]?=some g):(c.take (k+1)).foldl f l=f ((c.take k).foldl f l) g:=by
 rw [take_succ_get hg,List.foldl_append];rfl
def CGood (F:Int) (l:List Cnt):Prop:=∀ c∈l,c.good F
theorem ofS_good {F:Int} {l:List Cnt} (hF:0≤F) (h:CGood F l) (g:Int):(ofS l g).good F:=by
 have hz:Cnt.zero.good F:=by refine ⟨?_,?_,?_,?_,?_,?_,?_⟩<;>simp [Cnt.zero]<;>omega
 unfold ofS
 split
 · rw [List.getD_eq_getElem?_getD]
   cases hx:l[g.toNat]? with
   | none=>exact hz
   | some c=>exact h c (ζm hx)
 · exact hz
theorem firstS_give {l:List Cnt} {n:Int} {chain:List Int} (h:firstS l (giveP n) chain=-1) (h0:∀ x∈chain,0≤x):∀ g∈chain,n≤(ofS l g).use:=by
 intro g hg
 have:=firstS_all h h0 g hg
 unfold giveP at this
 simp at this
 exact this
theorem give_any (b:Nat) (l:List Cnt) (chain:List Int) (v:Value) (n F:Int) (w:World) (hl:CntIs w b l) (h:IntsAt w v chain) (hgd:CGood F l) (hF:0≤F∧F < 1000000000) (hsep:chain≠[]→∀ g,v.ownBlock=some g→g≠b) :
 Calls Tryz.prog 86 #[.pointer (some ⟨b,0,none⟩),v,.int .i64 n] w fun e w' =>
  e=.returned (.int .i64 (giveE l chain n))∧Mod (fun i=>i=b) w w'∧CntIs w' b (giveS l chain n):=by
 obtain ⟨a,cp,rfl,hcap,hmax,_⟩:=id h
 unfold maxLen at hmax
 have hbl:=hl.blk.lt
 cases hr:rightB chain n with
 | false =>
   have e2:giveE l chain n=1:=by unfold giveE;rw [hr];rfl
   have e3:giveS l chain n=l:=by unfold giveS;rw [hr];rfl
   rw [e2,e3]
   clear e2 e3
   go_enter Tryz.func86,Tryz.ntmps86
   go_wp2_with fail
   refine (right_any chain _ n _ (h.keep (Mod.alloc' (fun _=>False) _ _) (fun _ _ x=>x))).mono ?_
   rw [hr]
   clear hr
   rintro e w1 ⟨rfl,hm1⟩
   go_wp2_with fail
   go_ret
   exact ⟨rfl,((Mod.alloc' _ _ _).trans hm1).mono (fun _ x=>x.elim),(hl.keepN (Mod.alloc' _ _ _)).keepN hm1⟩
 | true =>
   obtain ⟨hgs,hnd,hn0,hn1⟩:=rightB_groups hr
   rcases firstS_mem l (giveP n) chain with hno | ⟨hin,hyes⟩
   · have e2:giveE l chain n=0:=by unfold giveE;rw [hr,if_pos rfl,hno];rfl
     have e3:giveS l chain n=chain.foldl (downUse n) l:=by unfold giveS;rw [hr,if_pos rfl,hno];rfl
     rw [e2,e3]
     clear e2 e3
     go_enter Tryz.func86,Tryz.ntmps86
     go_wp2_with fail
     refine (right_any chain _ n _ (h.keep (Mod.alloc' (fun _=>False) _ _) (fun _ _ x=>x))).mono ?_
     rw [hr]
     clear hr
     rintro e w1 ⟨rfl,hm1⟩
     have hbx:=(Blk.new w #[.int .i64 n] 3).keep hm1 (fun x=>x)
     have hbx0:=hbx.cell 0
     simp only [ζa,ζb] at hbx0
     have hl1:=(hl.keepN (Mod.alloc' _ _ _)).keepN hm1
     have h1:=(h.keep (Mod.alloc' (fun _=>False) _ _) (fun _ _ x=>x)).keep hm1 (fun _ _ x=>x)
     go_wp2_with fail
     refine (cntFirst_any b l chain _ _ #[.pointer (some ⟨w.heap.size,0,none⟩)] (giveP n) _ hl1 h1 hgs (fun c w' hc hw'=>giveP_any w.heap.size n c w' (hw'.keeps hbx0 (fun x=>x))) enter_give).mono ?_
     rw [hno]
     rintro e w2 ⟨rfl,hm2⟩
     have hl2:=hl1.keepN hm2
     have hbx:=hbx.keep hm2 (fun x=>x)
     have hnb:w.heap.size≠b:=by omega
     have hall:=firstS_give hno (fun x hx=>groupB_nonneg (hgs x hx))
     have hpk:∀ g,(ofS l g).use≤1099511627776:=fun g=>by have:=ofS_good hF.1 hgd g;unfold Cnt.good at this;omega
     have HALL:=ζh hall
     have HPK:=ζh hpk
     have HGS:=ζh hgs
     clear hall hpk hno hgs hgd h
     go_wp2_with fail
     go_loopw [22] (fun i wr=>∃ k:Nat,k≤chain.length∧i=.int .i64 k∧CntIs wr b ((chain.take k).foldl (downUse n) l)∧Mod (fun i=>i=b) w2 wr) (fun i _=>chain.length - (intOf i).toNat)
     case atStart=>exact ⟨0,by omega,rfl,hl2,Mod.refl _ _⟩
     case round =>
      obtain ⟨k,hk,rfl,hlr,hm⟩:=hrel
      by_cases hlt:k < chain.length
      · obtain ⟨g,hgk⟩:∃ g,chain[k]?=some g:=⟨_,ζg hlt⟩
        obtain ⟨b',off,rfl,hc0⟩:=intsAt_get h1 hgk
        have hbb:b'≠b:=hsep (fun e=>by rw [e] at hlt;simp at hlt) b' rfl
        have hc:=((hm2.mono (fun _ x=>x.elim)).trans hm).keeps hc0 hbb
        have hgg:=HGS.out g (ζm hgk)
        have hnot:=nodup_take_not hnd hgk
        have hsame:=foldl_other (downUse_len n) (downUse_other n) (chain.take k) g l hl1.len (fun y hy=>HGS.out y (List.mem_of_mem_take hy)) hnot
        have hsucc:=foldl_take_succ (f:=downUse n) (l:=l) hgk
        have hlb:=HALL.out g (ζm hgk)
        have hub:=HPK.out g
        obtain ⟨m,rfl,hm64⟩:=groupB_nat hgg
        have hgl:=ofS_nat hlr.len hm64
        generalize (chain.take k).foldl (downUse n) l=L at *
        rw [hsame] at hgl
        obtain ⟨c,hcc⟩:∃ c,c=ofS l m:=⟨_,rfl⟩
        rw [←hcc] at hgl hub hlb
        obtain ⟨c0,c1,c2,c3⟩:=hlr.cell hgl
        have hbr:=hbx.keep hm hnb
        have hbr0:=hbr.cell 0
        simp only [ζa,ζb] at hbr0
        have hf0:=hlr.blk.frozen (m * 4)
        have hset1:=hlr.set (i:=0) (v:=.int .i64 (c.use - n)) (c':={ c with use:=c.use - n }) (by omega) hgl rfl
        rw [Nat.add_zero] at hset1
        have hmi:(m:Int) < 64:=by omega
        have hmi0:0≤(m:Int):=by omega
        have hup:downUse n L m=L.set m { c with use:=c.use - n }:=by
         unfold downUse;rw [Int.toNat_natCast,hsame,←hcc]
        rw [←hup,←hsucc] at hset1
        have HS:=ζh hset1
        clear hset1 hup hsucc hsame hgl hcc hgk hnot hgg
        go_wp2_with fail
        go_still_tail 13,(by kernel_rfl)
        go_wp2_with fail
        go_roundw
        case rel=>exact ⟨k+1,by omega,by go_num,HS.out.keepN (Mod.refl _ _).drew,(Mod.setCell hm (.inl rfl) _).drew⟩
        case measure=>simp [intOf];omega
      · obtain rfl:k=chain.length:=by omega
        rw [List.take_length] at hlr
        go_wp2_with fail
        go_ret
        exact ⟨rfl,((((Mod.alloc' _ _ _).trans hm1).trans hm2).mono (fun _ x=>x.elim)).trans hm,hlr⟩
   · have hgg:=hgs _ hin
     obtain ⟨m,hm',hm64⟩:=groupB_nat hgg
     have e2:giveE l chain n=2:=by unfold giveE;rw [hr,if_pos rfl,hm',if_pos (by omega)]
     have e3:giveS l chain n=l:=by unfold giveS;rw [hr,if_pos rfl,hm',if_pos (by omega)]
     rw [e2,e3]
     clear e2 e3 hyes hin hgg
     go_enter Tryz.func86,Tryz.ntmps86
     go_wp2_with fail
     refine (right_any chain _ n _ (h.keep (Mod.alloc' (fun _=>False) _ _) (fun _ _ x=>x))).mono ?_
     rw [hr]
     clear hr
     rintro e w1 ⟨rfl,hm1⟩
     have hbx:=(Blk.new w #[.int .i64 n] 3).keep hm1 (fun x=>x)
     have hbx0:=hbx.cell 0
     simp only [ζa,ζb] at hbx0
     have hl1:=(hl.keepN (Mod.alloc' _ _ _)).keepN hm1
     have h1:=(h.keep (Mod.alloc' (fun _=>False) _ _) (fun _ _ x=>x)).keep hm1 (fun _ _ x=>x)
     go_wp2_with fail
     refine (cntFirst_any b l chain _ _ #[.pointer (some ⟨w.heap.size,0,none⟩)] (giveP n) _ hl1 h1 hgs (fun c w' hc hw'=>giveP_any w.heap.size n c w' (hw'.keeps hbx0 (fun x=>x))) enter_give).mono ?_
     rw [hm']
     clear hm' hgs hgd h h1
     rintro e w2 ⟨rfl,hm2⟩
     go_wp2_with fail
     go_ret
     exact ⟨rfl,((((Mod.alloc' _ _ _).trans hm1).trans hm2).mono (fun _ x=>x.elim)),hl1.keepN hm2⟩
end Cnt

namespace Cnt
open Go.RowKit
def Cnt.fine (c:Cnt):Prop:=0≤c.use∧c.use≤c.peak∧c.peak≤1099511627776∧0≤c.limit∧c.limit≤1099511627776
def CFine (l:List Cnt):Prop:=∀ c∈l,c.fine
theorem zero_fine:Cnt.zero.fine:=by refine ⟨?_,?_,?_,?_,?_⟩<;>simp [Cnt.zero]
theorem ofS_fine {l:List Cnt} (h:CFine l) (g:Int):(ofS l g).fine:=by
 unfold ofS
 split
 · rw [List.getD_eq_getElem?_getD]
   cases hx:l[g.toNat]? with
   | none=>exact zero_fine
   | some c=>exact h c (ζm hx)
 · exact zero_fine
def tryW (l:List Cnt) (chain:List Int) (n:Int):List Cnt :=
 if rightB chain n then
  (if 0≤firstS l (tryP n) chain then l.set (firstS l (tryP n) chain).toNat { ofS l (firstS l (tryP n) chain) with failed:=wrap64 ((ofS l (firstS l (tryP n) chain)).failed+1) }
  else chain.foldl (upUse n) l)
 else l
theorem tryPW_any (nb:Nat) (n:Int) (c:Cnt) (hc:c.fine) (hn:0≤n∧n≤1099511627776) (w:World) (hw:w.cell? ⟨nb,0,none⟩=some (.int .i64 n)) :
 Calls Tryz.prog 274 #[.agg (ecCnt c).toArray,.pointer (some ⟨nb,0,none⟩)] w fun e w'=>e=.returned (.bool (tryP n c))∧Mod (fun _=>False) w w':=by
 obtain ⟨g1,g2,g3,g4,g5⟩:=hc
 obtain ⟨n0,n1⟩:=hn
 have hnl:=lt_of_cell hw
 by_cases hp:0 < n
 · have hd:decide (0 < n)=true:=by simp;omega
   have e1:tryP n c=decide (c.limit < c.use+n):=by unfold tryP;rw [hd,Bool.true_and]
   rw [e1]
   clear e1
   unfold ecCnt
   go_enter Tryz.func274,Tryz.ntmps274
   go_wp2_with fail
   go_ret
   exact ⟨rfl,Mod.alloc' _ _ _⟩
 · have hd:decide (0 < n)=false:=by simp;omega
   have e1:tryP n c=false:=by unfold tryP;rw [hd,Bool.false_and]
   rw [e1]
   clear e1
   unfold ecCnt
   go_enter Tryz.func274,Tryz.ntmps274
   go_wp2_with fail
   go_ret
   exact ⟨rfl,Mod.alloc' _ _ _⟩
theorem tryW_any (b:Nat) (l:List Cnt) (chain:List Int) (v:Value) (n:Int) (w:World) (hl:CntIs w b l) (h:IntsAt w v chain) (hgd:CFine l) (hsep:chain≠[]→∀ g,v.ownBlock=some g→g≠b) :
 Calls Tryz.prog 253 #[.pointer (some ⟨b,0,none⟩),v,.int .i64 n] w fun e w' =>
  e=.returned (.tuple #[.int .i64 (tryG l chain n),.int .i64 (tryE l chain n)])∧Mod (fun i=>i=b) w w'∧CntIs w' b (tryW l chain n):=by
 obtain ⟨a,cp,rfl,hcap,hmax,_⟩:=id h
 unfold maxLen at hmax
 have hbl:=hl.blk.lt
 cases hr:rightB chain n with
 | false =>
   have e1:tryG l chain n=-1:=by unfold tryG;rw [hr];rfl
   have e2:tryE l chain n=1:=by unfold tryE;rw [hr];rfl
   have e3:tryW l chain n=l:=by unfold tryW;rw [hr];rfl
   rw [e1,e2,e3]
   clear e1 e2 e3
   go_enter Tryz.func253,Tryz.ntmps253
   go_wp2_with fail
   refine (right_any chain _ n _ (h.keep (Mod.alloc' (fun _=>False) _ _) (fun _ _ x=>x))).mono ?_
   rw [hr]
   clear hr
   rintro e w1 ⟨rfl,hm1⟩
   go_wp2_with fail
   go_ret2
   exact ⟨rfl,((Mod.alloc' _ _ _).trans hm1).mono (fun _ x=>x.elim),(hl.keepN (Mod.alloc' _ _ _)).keepN hm1⟩
 | true =>
   obtain ⟨hgs,hnd,hn0,hn1⟩:=rightB_groups hr
   obtain ⟨r,hrr⟩:∃ r,r=firstS l (tryP n) chain:=⟨_,rfl⟩
   rcases firstS_mem l (tryP n) chain with hno | ⟨hin,hyes⟩
   · have e1:tryG l chain n=-1:=by unfold tryG;rw [hr,if_pos rfl,hno]
     have e2:tryE l chain n=0:=by unfold tryE;rw [hr,if_pos rfl,hno];rfl
     have e3:tryW l chain n=chain.foldl (upUse n) l:=by unfold tryW;rw [hr,if_pos rfl,hno];rfl
     rw [e1,e2,e3]
     clear e1 e2 e3
     go_enter Tryz.func253,Tryz.ntmps253
     go_wp2_with fail
     refine (right_any chain _ n _ (h.keep (Mod.alloc' (fun _=>False) _ _) (fun _ _ x=>x))).mono ?_
     rw [hr]
     clear hr
     rintro e w1 ⟨rfl,hm1⟩
     have hbx:=(Blk.new w #[.int .i64 n] 3).keep hm1 (fun x=>x)
     have hbx0:=hbx.cell 0
     simp only [ζa,ζb] at hbx0
     have hl1:=(hl.keepN (Mod.alloc' _ _ _)).keepN hm1
     have h1:=(h.keep (Mod.alloc' (fun _=>False) _ _) (fun _ _ x=>x)).keep hm1 (fun _ _ x=>x)
     go_wp2_with fail
     refine (cntFirst_any b l chain _ _ #[.pointer (some ⟨w.heap.size,0,none⟩)] (tryP n) _ hl1 h1 hgs (fun c w' hc hw'=>tryPW_any w.heap.size n c (hgd c hc) ⟨hn0,hn1⟩ w' (hw'.keeps hbx0 (fun x=>x))) enter_try).mono ?_
     rw [hno]
     rintro e w2 ⟨rfl,hm2⟩
     have hl2:=hl1.keepN hm2
     have hbx:=hbx.keep hm2 (fun x=>x)
     have h2:=h1.keep hm2 (fun _ _ x=>x)
     have hnb:w.heap.size≠b:=by omega
     have hall:∀ g∈chain,(ofS l g).use+n≤1099511627776:=by
      intro g hg
      obtain ⟨g1,g2,g3,g4,g5⟩:=ofS_fine hgd g
      have hp:=firstS_all hno (fun x hx=>groupB_nonneg (hgs x hx)) g hg
      unfold tryP at hp
      by_cases hp0:0 < n
      · have hd:decide (0 < n)=true:=by simp;omega
        rw [hd,Bool.true_and,decide_eq_false_iff_not] at hp
        omega
      · omega
     have hpk:∀ g,0≤(ofS l g).use:=fun g=>(ofS_fine hgd g).1
     have HALL:=ζh hall
     have HPK:=ζh hpk
     have HNO:=ζh hno
     have HGS:=ζh hgs
     clear hall hpk hno hgs hgd hrr h
     go_wp2_with fail
     go_loopw [37] (fun i wr=>∃ k:Nat,k≤chain.length∧i=.int .i64 k∧CntIs wr b ((chain.take k).foldl (upUse n) l)∧Mod (fun i=>i=b) w2 wr) (fun i _=>chain.length - (intOf i).toNat)
     case atStart=>exact ⟨0,by omega,rfl,hl2,Mod.refl _ _⟩
     case round =>
      obtain ⟨k,hk,rfl,hlr,hm⟩:=hrel
      by_cases hlt:k < chain.length
      · obtain ⟨g,hgk⟩:∃ g,chain[k]?=some g:=⟨_,ζg hlt⟩
        obtain ⟨b',off,rfl,hc0⟩:=intsAt_get h1 hgk
        have hbb:b'≠b:=hsep (fun e=>by rw [e] at hlt;simp at hlt) b' rfl
        have hc:=((hm2.mono (fun _ x=>x.elim)).trans hm).keeps hc0 hbb
        have hgg:=HGS.out g (ζm hgk)
        have hnot:=nodup_take_not hnd hgk
        have hsame:=foldl_other (upUse_len n) (upUse_other n) (chain.take k) g l hl1.len (fun y hy=>HGS.out y (List.mem_of_mem_take hy)) hnot
        have hsucc:=foldl_take_succ (f:=upUse n) (l:=l) hgk
        have hub:=HALL.out g (ζm hgk)
        have hlb:=HPK.out g
        obtain ⟨m,rfl,hm64⟩:=groupB_nat hgg
        have hgl:=ofS_nat hlr.len hm64
        generalize (chain.take k).foldl (upUse n) l=L at *
        rw [hsame] at hgl
        obtain ⟨c,hcc⟩:∃ c,c=ofS l m:=⟨_,rfl⟩
        rw [←hcc] at hgl hub hlb
        obtain ⟨c0,c1,c2,c3⟩:=hlr.cell hgl
        have hbr:=hbx.keep hm hnb
        have hbr0:=hbr.cell 0
        simp only [ζa,ζb] at hbr0
        have hf0:=hlr.blk.frozen (m * 4)
        have hf3:=hlr.blk.frozen (m * 4+3)
        have hset1:=hlr.set (i:=0) (v:=.int .i64 (c.use+n)) (c':={ c with use:=c.use+n }) (by omega) hgl rfl
        rw [Nat.add_zero] at hset1
        have hA:=hset1.keepN (Mod.refl _ _).drew
        have hmA:Mod (fun i=>i=b) w2 (wr.setCell ⟨b,m * 4,none⟩ (.int .i64 (c.use+n))).drew:=(Mod.setCell hm (.inl rfl) _).drew
        have hup:upUse n L m=L.set m { c with use:=c.use+n,peak:=max c.peak (c.use+n) }:=by
         unfold upUse;rw [Int.toNat_natCast,hsame,←hcc]
        have hl64:=hlr.len
        have HUP:=ζh (hsucc.trans hup)
        clear hset1 hup hsucc hsame hgl hcc hgk hnot hgg
        go_wp2_with fail
        go_still_tail 8,(by kernel_rfl)
        go_wp2_with fail
        clear hlr c0 c1 c2 c3 hc hbr hbr0 hf0
        generalize (wr.setCell ⟨b,m * 4,none⟩ (.int .i64 (c.use+n))).drew=wA at *
        have hgA:(L.set m { c with use:=c.use+n })[m]?=some { c with use:=c.use+n }:=by rw [List.getElem?_set,if_pos rfl,if_pos (by omega)]
        obtain ⟨d0,d1,d2,d3⟩:=hA.cell hgA
        have df3:=hA.blk.frozen (m * 4+3)
        have hset2:=hA.set (k:=m) (i:=3) (v:=.int .i64 (max c.peak (c.use+n))) (c':={ c with use:=c.use+n,peak:=max c.peak (c.use+n) }) (by omega) hgA rfl
        rw [List.set_set,←HUP.out] at hset2
        have HS2:=ζh hset2
        have hmx:(if c.peak < c.use+n then c.use+n else c.peak)=max c.peak (c.use+n):=by rw [Int.max_def];split<;>split<;>omega
        clear hset2 hgA
        go_still_tail 12,(by kernel_rfl)
        go_wp2_with fail
        go_roundw
        case rel=>exact ⟨k+1,by omega,by go_num,HS2.out.keepN (Mod.refl _ _).drew,(Mod.setCell hmA (.inl rfl) _).drew⟩
        case measure=>simp [intOf];omega
      · obtain rfl:k=chain.length:=by omega
        rw [List.take_length] at hlr
        go_wp2_with fail
        go_ret2
        exact ⟨rfl,((((Mod.alloc' _ _ _).trans hm1).trans hm2).mono (fun _ x=>x.elim)).trans hm,hlr⟩
   · have hgg:=hgs _ hin
     obtain ⟨m,hm',hm64⟩:=groupB_nat hgg
     obtain ⟨c,hc⟩:∃ c,c=ofS l (firstS l (tryP n) chain):=⟨_,rfl⟩
     have e1:tryG l chain n=m:=by unfold tryG;rw [hr,if_pos rfl,hm']
     have e2:tryE l chain n=22:=by unfold tryE;rw [hr,if_pos rfl,hm',if_pos (by omega)]
     have e3:tryW l chain n=l.set m { c with failed:=wrap64 (c.failed+1) }:=by unfold tryW;rw [hr,if_pos rfl,←hc,hm',if_pos (by omega),Int.toNat_natCast]
     rw [e1,e2,e3]
     clear e1 e2 e3
     have hl0:=ofS_nat hl.len hm64
     rw [←hm',←hc] at hl0
     clear hc hyes hin hgg hrr
     go_enter Tryz.func253,Tryz.ntmps253
     go_wp2_with fail
     refine (right_any chain _ n _ (h.keep (Mod.alloc' (fun _=>False) _ _) (fun _ _ x=>x))).mono ?_
     rw [hr]
     clear hr
     rintro e w1 ⟨rfl,hm1⟩
     have hbx:=(Blk.new w #[.int .i64 n] 3).keep hm1 (fun x=>x)
     have hbx0:=hbx.cell 0
     simp only [ζa,ζb] at hbx0
     have hl1:=(hl.keepN (Mod.alloc' _ _ _)).keepN hm1
     have h1:=(h.keep (Mod.alloc' (fun _=>False) _ _) (fun _ _ x=>x)).keep hm1 (fun _ _ x=>x)
     go_wp2_with fail
     refine (cntFirst_any b l chain _ _ #[.pointer (some ⟨w.heap.size,0,none⟩)] (tryP n) _ hl1 h1 hgs (fun c w' hc hw'=>tryPW_any w.heap.size n c (hgd c hc) ⟨hn0,hn1⟩ w' (hw'.keeps hbx0 (fun x=>x))) enter_try).mono ?_
     rw [hm']
     clear hm' hgs hgd h h1
     rintro e w2 ⟨rfl,hm2⟩
     have hl2:=hl1.keepN hm2
     obtain ⟨c0,c1,c2,c3⟩:=hl2.cell hl0
     have hf2:=hl2.blk.frozen (m * 4+2)
     have hmi:(m:Int) < 64:=by omega
     have hmi0:0≤(m:Int):=by omega
     have hset:=hl2.set (i:=2) (v:=.int .i64 (wrap64 (c.failed+1))) (c':={ c with failed:=wrap64 (c.failed+1) }) (by omega) hl0 rfl
     have HS:=ζh hset
     clear hset hl0
     go_wp2_with fail
     go_still_tail 12,(by kernel_rfl)
     go_wp2_with fail
     go_ret2
     exact ⟨rfl,(Mod.setCell (S:=fun i=>i=b) (p:=⟨b,m * 4+2,none⟩) ((((Mod.alloc' _ _ _).trans hm1).trans hm2).mono (fun _ x=>x.elim)) (.inl rfl) _).drew,HS.out.keepN (Mod.refl _ _).drew⟩
theorem giveW_any (b:Nat) (l:List Cnt) (chain:List Int) (v:Value) (n:Int) (w:World) (hl:CntIs w b l) (h:IntsAt w v chain) (hgd:CFine l) (hsep:chain≠[]→∀ g,v.ownBlock=some g→g≠b) :
 Calls Tryz.prog 86 #[.pointer (some ⟨b,0,none⟩),v,.int .i64 n] w fun e w' =>
  e=.returned (.int .i64 (giveE l chain n))∧Mod (fun i=>i=b) w w'∧CntIs w' b (giveS l chain n):=by
 obtain ⟨a,cp,rfl,hcap,hmax,_⟩:=id h
 unfold maxLen at hmax
 have hbl:=hl.blk.lt
 cases hr:rightB chain n with
 | false =>
   have e2:giveE l chain n=1:=by unfold giveE;rw [hr];rfl
   have e3:giveS l chain n=l:=by unfold giveS;rw [hr];rfl
   rw [e2,e3]
   clear e2 e3
   go_enter Tryz.func86,Tryz.ntmps86
   go_wp2_with fail
   refine (right_any chain _ n _ (h.keep (Mod.alloc' (fun _=>False) _ _) (fun _ _ x=>x))).mono ?_
   rw [hr]
   clear hr
   rintro e w1 ⟨rfl,hm1⟩
   go_wp2_with fail
   go_ret
   exact ⟨rfl,((Mod.alloc' _ _ _).trans hm1).mono (fun _ x=>x.elim),(hl.keepN (Mod.alloc' _ _ _)).keepN hm1⟩
 | true =>
   obtain ⟨hgs,hnd,hn0,hn1⟩:=rightB_groups hr
   rcases firstS_mem l (giveP n) chain with hno | ⟨hin,hyes⟩
   · have e2:giveE l chain n=0:=by unfold giveE;rw [hr,if_pos rfl,hno];rfl
     have e3:giveS l chain n=chain.foldl (downUse n) l:=by unfold giveS;rw [hr,if_pos rfl,hno];rfl
     rw [e2,e3]
     clear e2 e3
     go_enter Tryz.func86,Tryz.ntmps86
     go_wp2_with fail
     refine (right_any chain _ n _ (h.keep (Mod.alloc' (fun _=>False) _ _) (fun _ _ x=>x))).mono ?_
     rw [hr]
     clear hr
     rintro e w1 ⟨rfl,hm1⟩
     have hbx:=(Blk.new w #[.int .i64 n] 3).keep hm1 (fun x=>x)
     have hbx0:=hbx.cell 0
     simp only [ζa,ζb] at hbx0
     have hl1:=(hl.keepN (Mod.alloc' _ _ _)).keepN hm1
     have h1:=(h.keep (Mod.alloc' (fun _=>False) _ _) (fun _ _ x=>x)).keep hm1 (fun _ _ x=>x)
     go_wp2_with fail
     refine (cntFirst_any b l chain _ _ #[.pointer (some ⟨w.heap.size,0,none⟩)] (giveP n) _ hl1 h1 hgs (fun c w' hc hw'=>giveP_any w.heap.size n c w' (hw'.keeps hbx0 (fun x=>x))) enter_give).mono ?_
     rw [hno]
     rintro e w2 ⟨rfl,hm2⟩
     have hl2:=hl1.keepN hm2
     have hbx:=hbx.keep hm2 (fun x=>x)
     have hnb:w.heap.size≠b:=by omega
     have hall:=firstS_give hno (fun x hx=>groupB_nonneg (hgs x hx))
     have hpk:∀ g,(ofS l g).use≤1099511627776:=fun g=>by have:=ofS_fine hgd g;unfold Cnt.fine at this;omega
     have HALL:=ζh hall
     have HPK:=ζh hpk
     have HGS:=ζh hgs
     clear hall hpk hno hgs hgd h
     go_wp2_with fail
     go_loopw [22] (fun i wr=>∃ k:Nat,k≤chain.length∧i=.int .i64 k∧CntIs wr b ((chain.take k).foldl (downUse n) l)∧Mod (fun i=>i=b) w2 wr) (fun i _=>chain.length - (intOf i).toNat)
     case atStart=>exact ⟨0,by omega,rfl,hl2,Mod.refl _ _⟩
     case round =>
      obtain ⟨k,hk,rfl,hlr,hm⟩:=hrel
      by_cases hlt:k < chain.length
      · obtain ⟨g,hgk⟩:∃ g,chain[k]?=some g:=⟨_,ζg hlt⟩
        obtain ⟨b',off,rfl,hc0⟩:=intsAt_get h1 hgk
        have hbb:b'≠b:=hsep (fun e=>by rw [e] at hlt;simp at hlt) b' rfl
        have hc:=((hm2.mono (fun _ x=>x.elim)).trans hm).keeps hc0 hbb
        have hgg:=HGS.out g (ζm hgk)
        have hnot:=nodup_take_not hnd hgk
        have hsame:=foldl_other (downUse_len n) (downUse_other n) (chain.take k) g l hl1.len (fun y hy=>HGS.out y (List.mem_of_mem_take hy)) hnot
        have hsucc:=foldl_take_succ (f:=downUse n) (l:=l) hgk
        have hlb:=HALL.out g (ζm hgk)
        have hub:=HPK.out g
        obtain ⟨m,rfl,hm64⟩:=groupB_nat hgg
        have hgl:=ofS_nat hlr.len hm64
        generalize (chain.take k).foldl (downUse n) l=L at *
        rw [hsame] at hgl
        obtain ⟨c,hcc⟩:∃ c,c=ofS l m:=⟨_,rfl⟩
        rw [←hcc] at hgl hub hlb
        obtain ⟨c0,c1,c2,c3⟩:=hlr.cell hgl
        have hbr:=hbx.keep hm hnb
        have hbr0:=hbr.cell 0
        simp only [ζa,ζb] at hbr0
        have hf0:=hlr.blk.frozen (m * 4)
        have hset1:=hlr.set (i:=0) (v:=.int .i64 (c.use - n)) (c':={ c with use:=c.use - n }) (by omega) hgl rfl
        rw [Nat.add_zero] at hset1
        have hmi:(m:Int) < 64:=by omega
        have hmi0:0≤(m:Int):=by omega
        have hup:downUse n L m=L.set m { c with use:=c.use - n }:=by
         unfold downUse;rw [Int.toNat_natCast,hsame,←hcc]
        rw [←hup,←hsucc] at hset1
        have HS:=ζh hset1
        clear hset1 hup hsucc hsame hgl hcc hgk hnot hgg
        go_wp2_with fail
        go_still_tail 13,(by kernel_rfl)
        go_wp2_with fail
        go_roundw
        case rel=>exact ⟨k+1,by omega,by go_num,HS.out.keepN (Mod.refl _ _).drew,(Mod.setCell hm (.inl rfl) _).drew⟩
        case measure=>simp [intOf];omega
      · obtain rfl:k=chain.length:=by omega
        rw [List.take_length] at hlr
        go_wp2_with fail
        go_ret
        exact ⟨rfl,((((Mod.alloc' _ _ _).trans hm1).trans hm2).mono (fun _ x=>x.elim)).trans hm,hlr⟩
   · have hgg:=hgs _ hin
     obtain ⟨m,hm',hm64⟩:=groupB_nat hgg
     have e2:giveE l chain n=2:=by unfold giveE;rw [hr,if_pos rfl,hm',if_pos (by omega)]
     have e3:giveS l chain n=l:=by unfold giveS;rw [hr,if_pos rfl,hm',if_pos (by omega)]
     rw [e2,e3]
     clear e2 e3 hyes hin hgg
     go_enter Tryz.func86,Tryz.ntmps86
     go_wp2_with fail
     refine (right_any chain _ n _ (h.keep (Mod.alloc' (fun _=>False) _ _) (fun _ _ x=>x))).mono ?_
     rw [hr]
     clear hr
     rintro e w1 ⟨rfl,hm1⟩
     have hbx:=(Blk.new w #[.int .i64 n] 3).keep hm1 (fun x=>x)
     have hbx0:=hbx.cell 0
     simp only [ζa,ζb] at hbx0
     have hl1:=(hl.keepN (Mod.alloc' _ _ _)).keepN hm1
     have h1:=(h.keep (Mod.alloc' (fun _=>False) _ _) (fun _ _ x=>x)).keep hm1 (fun _ _ x=>x)
     go_wp2_with fail
     refine (cntFirst_any b l chain _ _ #[.pointer (some ⟨w.heap.size,0,none⟩)] (giveP n) _ hl1 h1 hgs (fun c w' hc hw'=>giveP_any w.heap.size n c w' (hw'.keeps hbx0 (fun x=>x))) enter_give).mono ?_
     rw [hm']
     clear hm' hgs hgd h h1
     rintro e w2 ⟨rfl,hm2⟩
     go_wp2_with fail
     go_ret
     exact ⟨rfl,((((Mod.alloc' _ _ _).trans hm1).trans hm2).mono (fun _ x=>x.elim)),hl1.keepN hm2⟩
end Cnt

namespace Cnt
open Go.RowKit
theorem upUse_at (n:Int) (l:List Cnt) (g:Int) (hl:l.length=64) (hg:groupB g=true):ofS (upUse n l g) g={ ofS l g with use:=(ofS l g).use+n,peak:=max (ofS l g).peak ((ofS l g).use+n) }:=by
 obtain ⟨m,rfl,hm⟩:=groupB_nat hg
 unfold upUse
 rw [Int.toNat_natCast,ofS_set hl m _ _ hm,if_pos rfl]
theorem downUse_at (n:Int) (l:List Cnt) (g:Int) (hl:l.length=64) (hg:groupB g=true):ofS (downUse n l g) g={ ofS l g with use:=(ofS l g).use - n }:=by
 obtain ⟨m,rfl,hm⟩:=groupB_nat hg
 unfold downUse
 rw [Int.toNat_natCast,ofS_set hl m _ _ hm,if_pos rfl]
theorem foldl_at {f:List Cnt→Int→List Cnt} {u:Cnt→Cnt} (hf:∀ l g,(f l g).length=l.length) (ho:∀ l g x,l.length=64→groupB g=true→x≠g→ofS (f l g) x=ofS l x)
 (ha:∀ l g,l.length=64→groupB g=true→ofS (f l g) g=u (ofS l g)) (c:List Int) (x:Int):∀ l,l.length=64→(∀ g∈c,groupB g=true)→c.Nodup→ofS (c.foldl f l) x=if x∈c then u (ofS l x) else ofS l x:=by
 induction c with
 | nil=>intro l _ _ _;simp
 | cons g c ih =>
   intro l hl hg hn
   rw [List.nodup_cons] at hn
   rw [List.foldl_cons,ih _ (by rw [hf];exact hl) (fun y hy=>hg y (List.mem_cons_of_mem _ hy)) hn.2]
   by_cases hx:x=g
   · subst hx
     rw [if_neg hn.1,if_pos List.mem_cons_self,ha l x hl (hg x List.mem_cons_self)]
   · rw [ho l g x hl (hg g List.mem_cons_self) hx]
     by_cases hc:x∈c
     · rw [if_pos hc,if_pos (List.mem_cons_of_mem _ hc)]
     · rw [if_neg hc,if_neg (by simp [hx,hc])]
def upC (n:Int) (c:Cnt):Cnt:={ c with use:=c.use+n,peak:=max c.peak (c.use+n) }
def downC (n:Int) (c:Cnt):Cnt:={ c with use:=c.use - n }
theorem CGood.of {F:Int} {l:List Cnt} (hl:l.length=64) (h:∀ g,groupB g=true→(ofS l g).good F):CGood F l:=by
 intro c hc
 obtain ⟨k,hk,rfl⟩:=List.getElem_of_mem hc
 have h1:=ofS_nat hl (k:=k) (by omega)
 rw [ζg hk] at h1
 injection h1 with h1
 rw [h1]
 exact h k (by unfold groupB;simp;omega)
theorem CGood.mono {F F':Int} {l:List Cnt} (h:CGood F l) (hf:F≤F'):CGood F' l:=fun c hc=>by
 have:=h c hc
 unfold Cnt.good at *
 omega
end Cnt
end Go.Proofs.YtkfoeonggmlebaaGreatDoor
