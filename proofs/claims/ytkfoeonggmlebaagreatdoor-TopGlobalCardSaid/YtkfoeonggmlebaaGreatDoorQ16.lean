/-
  Contracts of the program's functions, and plain facts, towards the laws of millpondtop. No condition beyond those that each theorem bears.
-/
import Derived.Test.YtkfoeonggmlebaaGreatDoorQ07
import Derived.Test.YtkfoeonggmlebaaGreatDoorQ11
import Derived.Test.YtkfoeonggmlebaaGreatDoorQ12
import Derived.Test.YtkfoeonggmlebaaGreatDoorQ15
import Derived.Test.YtkfoeonggmlebaaGreatDoorQAA
set_option maxRecDepth 100000
set_option maxHeartbeats 4000000
namespace Go.Proofs.YtkfoeonggmlebaaGreatDoor
namespace Gen
open Go.RowKit
def grpG (G:GL) (id:Int):Int:=((getA id G).getD (0,0)).1
def ageG (G:GL) (id:Int):Int:=((getA id G).getD (0,0)).2
def orderG (G:GL) (gs:List Int):List Int:=srt (ageG G) ((keysA G).filter fun id=>decide (grpG G id∈gs))
theorem gens_look1 {w:World} {mb:Nat} {G:GL} (h:MapA ekInt ekTwo w mb G) (id:Int) :
 (Instr.lookup 105 (.map (some mb)) (.int .i64 id) false).run Tryz.prog w=.ok (.agg #[.int .i64 (grpG G id),.int .i64 (ageG G id)]) w:=by
 have:=h.lookup_one key_int Tryz.underlying105 (zero_one w) id
 rw [show ekInt id=.int .i64 id from rfl] at this
 rw [this]
 unfold grpG ageG
 cases getA id G<;>rfl
theorem isNaN_any (x:Int) (w:World):Calls Tryz.prog 249 #[.int .i64 x] w fun e w'=>e=.returned (.bool false)∧w=w':=by
 go_enter Tryz.func249,Tryz.ntmps249
 go_wp2_with fail
 go_ret
 exact ⟨by simp,rfl⟩
def cmpI (x y:Int):Int:=if x < y then -1 else if y < x then 1 else 0
theorem compare_any (x y:Int) (w:World):Calls Tryz.prog 222 #[.int .i64 x,.int .i64 y] w fun e w'=>e=.returned (.int .i64 (cmpI x y))∧w=w':=by
 unfold cmpI
 have hx:=isNaN_any x w
 have hy:=isNaN_any y w
 by_cases h1:x < y
 · rw [if_pos h1]
   have d1:decide (x < y)=true:=decide_eq_true h1
   clear h1
   go_enter Tryz.func222,Tryz.ntmps222
   go_wp2_with (first | (go_at_call 249;refine hx.mono ?_;rintro e w1 ⟨rfl,rfl⟩) | (go_at_call 249;refine hy.mono ?_;rintro e w1 ⟨rfl,rfl⟩))
   go_ret
   exact ⟨rfl,rfl⟩
 · rw [if_neg h1]
   have d1:decide (x < y)=false:=decide_eq_false h1
   by_cases h2:y < x
   · rw [if_pos h2]
     have d2:decide (y < x)=true:=decide_eq_true h2
     clear h1 h2
     go_enter Tryz.func222,Tryz.ntmps222
     go_wp2_with (first | (go_at_call 249;refine hx.mono ?_;rintro e w1 ⟨rfl,rfl⟩) | (go_at_call 249;refine hy.mono ?_;rintro e w1 ⟨rfl,rfl⟩))
     go_ret
     exact ⟨rfl,rfl⟩
   · rw [if_neg h2]
     have d2:decide (y < x)=false:=decide_eq_false h2
     clear h1 h2
     go_enter Tryz.func222,Tryz.ntmps222
     go_wp2_with (first | (go_at_call 249;refine hx.mono ?_;rintro e w1 ⟨rfl,rfl⟩) | (go_at_call 249;refine hy.mono ?_;rintro e w1 ⟨rfl,rfl⟩))
     go_ret
     exact ⟨rfl,rfl⟩
theorem fld_one0 (w:World) (x y:Int):(Instr.field 228 (.agg #[.int .i64 x,.int .i64 y]) 0).run Tryz.prog w=.ok (.int .i64 x) w:=by kernel_rfl
theorem fld_one1 (w:World) (x y:Int):(Instr.field 228 (.agg #[.int .i64 x,.int .i64 y]) 1).run Tryz.prog w=.ok (.int .i64 y) w:=by kernel_rfl
theorem order1_any (b mb:Nat) (G:GL) (gs:List Int) (gv:Value) (id:Int) (lk gk:Nat) (w:World) (h:GensAt w b mb G) (hl:Blk w lk #[.pointer (some ⟨b,0,none⟩)] 80) (hg:Blk w gk #[gv] 30) (hi:IntsAt w gv gs) :
 Calls Tryz.prog 219 #[.int .i64 id,.pointer (some ⟨gk,0,none⟩),.pointer (some ⟨lk,0,none⟩)] w fun e w'=>e=.returned (.bool (!decide (grpG G id∈gs)))∧Mod (fun _=>False) w w':=by
 have hlk:=gens_look1 (h.keepN (Mod.refl _ w).drew).map id
 have c0:=hl.cell 0
 have c1:=hg.cell 0
 simp only [ζa,ζb] at c0 c1
 have c2:=h.head
 have hct:=Tre.contains_any gs gv (grpG G id) w.drew (hi.keep (Mod.refl (fun _=>False) w).drew (fun _ _ x=>x))
 obtain ⟨x,hx⟩:∃ x,x=grpG G id:=⟨_,rfl⟩
 obtain ⟨d,hd⟩:∃ d,d=decide (grpG G id∈gs):=⟨_,rfl⟩
 rw [←hd] at hct ⊢
 rw [←hx] at hlk hct
 have hfl:=fld_one0
 clear hx hd hl hg h hi
 go_enter Tryz.func219,Tryz.ntmps219
 go_wp2_with fail
 go_still_tail 8,(by kernel_rfl)
 go_wp2_with (go_at_call 156;refine hct.mono ?_;rintro e w1 ⟨rfl,rfl⟩)
 go_ret
 exact ⟨rfl,(Mod.refl _ w).drew⟩
theorem order2_any (b mb:Nat) (G:GL) (x y:Int) (lk:Nat) (w:World) (h:GensAt w b mb G) (hl:Blk w lk #[.pointer (some ⟨b,0,none⟩)] 80) :
 Calls Tryz.prog 221 #[.int .i64 x,.int .i64 y,.pointer (some ⟨lk,0,none⟩)] w fun e w'=>e=.returned (.int .i64 (cmpI (ageG G y) (ageG G x)))∧Mod (fun _=>False) w w':=by
 have hlx:=gens_look1 (h.keepN (Mod.refl _ w).drew).map x
 have hly:=gens_look1 (h.keepN (Mod.refl _ w).drew).map y
 have c0:=hl.cell 0
 simp only [ζa,ζb] at c0
 have c2:=h.head
 have hct:=compare_any (ageG G y) (ageG G x) w.drew
 have hfl:=fld_one1
 clear hl h
 go_enter Tryz.func221,Tryz.ntmps221
 go_wp2_with fail
 go_still_tail 14,(by kernel_rfl)
 go_wp2_with (go_at_call 222;refine hct.mono ?_;rintro e w1 ⟨rfl,rfl⟩)
 go_ret
 exact ⟨rfl,(Mod.refl _ w).drew⟩
theorem cmpI_less (a b:Int):decide (cmpI b a < 0)=decide (b < a):=by
 unfold cmpI
 by_cases h:b < a
 · simp [h]
 · by_cases h':a < b<;>simp [h,h']
def GFit (G:GL):Prop:=(∀ e∈G,0≤e.1∧e.1≤16777216)∧G.length≤1000000
theorem keysA_len {α:Type} (G:List (Int × α)):(keysA G).length=G.length:=by unfold keysA;rw [(sortI_perm _).length_eq,List.length_map]
theorem RowI.of {w:World} {base n:Nat} {v:Value} {xs:List Int} (h:w.ownsRow base 3 1 v n (xs.map encI)) (hn:n=xs.length):(v=.slice none 0 0∧xs=[])∨∃ g cap,v=.slice (some ⟨g,0,none⟩) xs.length cap∧base≤g∧RowI w g cap xs:=by
 subst hn
 rcases id h.2 with ⟨rfl,h0⟩ | ⟨g,cap,cur,rfl,hb,r⟩
 · exact .inl ⟨rfl,List.length_eq_zero_iff.1 h0⟩
 · exact .inr ⟨g,cap,rfl,hb,ownsRow_base h (Nat.zero_le _)⟩
theorem order_any (b mb:Nat) (G:GL) (gs:List Int) (gv:Value) (w:World) (h:GensAt w b mb G) (hfit:GFit G) (hi:IntsAt w gv gs) :
 Calls Tryz.prog 165 #[.pointer (some ⟨b,0,none⟩),gv] w fun e w' =>
  ∃ v,e=.returned v∧Mod (fun _=>False) w w'∧w'.ownsRow w.heap.size 3 1 v (orderG G gs).length ((orderG G gs).map encI):=by
 have hwf:∀ e∈G,(Lit.int .i64 e.1).wf=true:=by
  intro e he
  have:=hfit.1 e he
  have e1:IntKind.i64.min=-9223372036854775808:=by decide
  have e2:IntKind.i64.max=9223372036854775807:=by decide
  simp [Lit.wf,e1,e2]
  omega
 obtain ⟨ga,gc,rfl⟩:=ints_form hi
 have hm:=h.map
 have hbl:=h.blk.lt
 have H0:=ζh h
 have HF:=ζh hfit
 have c0:=h.head
 clear h hfit
 go_enter Tryz.func165,Tryz.ntmps165
 go_upto_region 1 with fail
 obtain ⟨w1,hw1⟩:∃ w1,w1=(w.alloc (.cells #[.pointer (some ⟨b,0,none⟩)] 80)).alloc (.cells #[.slice ga gs.length gc] 30):=⟨_,rfl⟩
 have bl:=(Blk.new w #[.pointer (some ⟨b,0,none⟩)] 80).alloc (.cells #[.slice ga gs.length gc] 30)
 have bg:=Blk.new (w.alloc (.cells #[.pointer (some ⟨b,0,none⟩)] 80)) #[.slice ga gs.length gc] 30
 have m1:Mod (fun _=>False) w w1:=by rw [hw1];exact (Mod.alloc' _ _ _).alloc _
 have s1:w1.heap.size=w.heap.size+2:=by rw [hw1];simp
 rw [World.size_alloc] at bg
 rw [←hw1] at bl bg ⊢
 have S1:=ζh s1
 clear hw1 s1
 have h1:=H0.out.keepN m1
 have c1:=h1.head
 have b0:=bl.cell 0
 have b1:=bg.cell 0
 simp only [ζa,ζb] at b0 b1
 have hs:=sortedG_any mb G w1 h1.map hwf HF.out.2
 clear c0 hm
 go_upto_region 2 with (first
  | (go_at_call 218;refine (keysG_any (some mb) _).mono ?_;rintro e w2 ⟨rfl,rfl⟩)
  | (go_at_call 202;refine hs.mono ?_;rintro e w3 ⟨v,rfl,hm3,hr3⟩;obtain ⟨va,vc,rfl⟩:=ownsRow_form hr3;have c4:=hm3.keeps b0 (fun x=>x);have c5:=hm3.keeps b1 (fun x=>x)))
 have h3:=h1.keepN hm3
 have hi3:=(hi.keep m1 (fun _ _ x=>x)).keep hm3 (fun _ _ x=>x)
 have bl3:=bl.keep hm3 (fun x=>x)
 have bg3:=bg.keep hm3 (fun x=>x)
 have hlt3:=h3.blk.lt
 have hmlt:=h3.map.lt
 have sz3:=hm3.size
 have m03:=m1.trans hm3
 rcases RowI.of hr3 rfl with ⟨e1,e2⟩ | ⟨g,cap,e1,hge,hrow⟩
 · have hz:orderG G gs=[]:=by unfold orderG;rw [e2];rfl
   rw [e1]
   clear hwf hi hbl bl bg h1 c1 b0 b1 hs hr3 c4 c5 hi3 bl3 bg3 m1 hm3 e1 e2
   refine (delfunc_nil _ _ _).mono ?_
   rintro e w4 ⟨rfl,rfl⟩
   go_wp2_with fail
   refine (stablefunc_nil _ _ _).mono ?_
   rintro e w5 ⟨rfl,hm5⟩
   go_wp2_with fail
   go_ret
   refine ⟨_,rfl,m03.trans hm5,?_⟩
   rw [hz]
   exact ⟨rfl,.inl ⟨rfl,rfl⟩⟩
 · have hgl:w.heap.size+2≤g:=by have:=S1.out;omega
   have hgne:∀ w':World,Mod (fun x=>x=g) w3 w'→GensAt w' b mb G∧Blk w' w.heap.size #[.pointer (some ⟨b,0,none⟩)] 80∧Blk w' (w.heap.size+1) #[.slice ga gs.length gc] 30∧IntsAt w' (.slice ga gs.length gc) gs:=by
    intro w' hm'
    have hb1:=H0.out.blk.lt
    have hb2:=H0.out.map.lt
    refine ⟨h3.keep hm' (by omega) (by omega),bl3.keep hm' (by omega),bg3.keep hm' (by omega),?_⟩
    refine hi.keep (S:=fun x=>x=g) ((m03.mono (fun _ x=>x.elim)).trans hm') (fun x hx=>by omega)
   have ht:TestAt (fun id=>!decide (grpG G id∈gs)) 219 #[.pointer (some ⟨w.heap.size+1,0,none⟩),.pointer (some ⟨w.heap.size,0,none⟩)] g w3:=by
    refine ⟨fun x w' hm'=>?_,enters_of Tryz.func219 (by kernel_rfl) rfl⟩
    obtain ⟨k1,k2,k3,k4⟩:=hgne _ hm'
    exact order1_any b mb G gs _ x w.heap.size (w.heap.size+1) w' k1 k2 k3 k4
   have hfl:((keysA G).filter fun x=>!(fun id=>!decide (grpG G id∈gs)) x)=(keysA G).filter fun id=>decide (grpG G id∈gs):=by
    congr 1;funext x;simp
   have hdf:=delfunc_any _ _ _ g cap (keysA G) w3 hrow ht
   rw [hfl] at hdf
   obtain ⟨Z,hZ⟩:∃ Z,Z=(keysA G).filter fun id=>decide (grpG G id∈gs):=⟨_,rfl⟩
   rw [←hZ] at hdf
   have hZl:Z.length≤1000000:=by
    rw [hZ]
    refine Nat.le_trans (List.length_filter_le _ _) ?_
    rw [keysA_len];exact HF.out.2
   have hord:orderG G gs=srt (ageG G) Z:=by rw [hZ];rfl
   have HO:=ζh hord
   have HNE:=ζh hgne
   rw [e1]
   clear hwf hi hbl bl bg h1 c1 b0 b1 hs hr3 c4 c5 hi3 bl3 bg3 m1 hm3 e1 hord hZ hfl ht hgne hrow
   refine hdf.mono ?_
   rintro e w4 ⟨rfl,hm4,hr4⟩
   have hc:CmpAt (ageG G) (fun x y=>cmpI (ageG G y) (ageG G x)) 221 #[.pointer (some ⟨w.heap.size,0,none⟩)] g w4:=by
    refine ⟨fun x y w' hm'=>?_,fun x y=>cmpI_less _ _,enters_of Tryz.func221 (by kernel_rfl) rfl⟩
    obtain ⟨k1,k2,_,_⟩:=HNE.out _ (hm4.trans hm')
    exact order2_any b mb G x y w.heap.size w' k1 k2
   have HSF:=ζh (stablefunc_any _ _ _ _ g cap Z w4 hr4 hc hZl)
   clear hc hr4 hdf
   go_wp2_with fail
   refine HSF.out.mono ?_
   rintro e w5 ⟨rfl,hm5,hr5⟩
   go_wp2_with fail
   go_ret
   have hl5:(srt (ageG G) Z).length=Z.length:=srt_length _ _
   refine ⟨_,rfl,m03.trans' (hm4.trans hm5) (fun i hi e=>by omega),?_⟩
   rw [HO.out]
   have:=ownsRow_ge hr5
   unfold RowI at hr5
   rw [hl5] at hr5 ⊢
   rcases id hr5.2 with ⟨h0,_⟩ | ⟨g',cap',cur,hv,hb,r⟩
   · cases h0
   · refine ⟨hr5.1,.inr ⟨g',cap',cur,hv,?_,r⟩⟩
     injection hv with e1 _ _
     injection e1 with e1
     injection e1 with e1 _ _
     omega
def addGU (id g:Int) (old:Bool) (G:GL):GL:=if 0≤id∧id≤16777216∧0≤g∧g≤16777216 then addG id g old G else G
theorem gaddU_any (b mb:Nat) (G:GL) (id g:Int) (old:Bool) (w:World) (h:GensAt w b mb G) :
 Calls Tryz.prog 259 #[.pointer (some ⟨b,0,none⟩),.int .i64 id,.int .i64 g,.bool old] w fun e w'=>(∃ n:Int,e=.returned (.int .i64 n))∧Mod (fun x=>x=mb) w w'∧GensAt w' b mb (addGU id g old G):=by
 unfold addGU
 by_cases h1:id < 0
 · rw [if_neg (by omega)]
   have d1:decide (id < 0)=true:=decide_eq_true h1
   have HH:=ζh h
   clear h h1
   go_enter Tryz.func259,Tryz.ntmps259
   go_wp2_with fail
   go_ret
   exact ⟨⟨_,rfl⟩,Mod.refl _ _,HH.out⟩
 · have d1:decide (id < 0)=false:=decide_eq_false h1
   by_cases h2:16777216 < id
   · rw [if_neg (by omega)]
     have d2:decide (16777216 < id)=true:=decide_eq_true h2
     have HH:=ζh h
     clear h h1 h2
     go_enter Tryz.func259,Tryz.ntmps259
     go_wp2_with fail
     go_ret
     exact ⟨⟨_,rfl⟩,Mod.refl _ _,HH.out⟩
   · have d2:decide (16777216 < id)=false:=decide_eq_false h2
     by_cases h3:g < 0
     · rw [if_neg (by omega)]
       have d3:decide (g < 0)=true:=decide_eq_true h3
       have HH:=ζh h
       clear h h1 h2 h3
       go_enter Tryz.func259,Tryz.ntmps259
       go_wp2_with fail
       go_ret
       exact ⟨⟨_,rfl⟩,Mod.refl _ _,HH.out⟩
     · have d3:decide (g < 0)=false:=decide_eq_false h3
       by_cases h4:16777216 < g
       · rw [if_neg (by omega)]
         have d4:decide (16777216 < g)=true:=decide_eq_true h4
         have HH:=ζh h
         clear h h1 h2 h3 h4
         go_enter Tryz.func259,Tryz.ntmps259
         go_wp2_with fail
         go_ret
         exact ⟨⟨_,rfl⟩,Mod.refl _ _,HH.out⟩
       · rw [if_pos (by omega)]
         exact gadd_any b mb G id g old w h (by omega) (by omega)
end Gen
end Go.Proofs.YtkfoeonggmlebaaGreatDoor
