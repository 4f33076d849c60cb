/-
  The law TopOom, of millpondtop: for every input it returns true. (No condition: the tied card of the given row.)
-/
import Derived.Test.YtkfoeonggmlebaaGreatDoorCards
import Derived.Test.YtkfoeonggmlebaaGreatDoorTie
import Derived.Test.YtkfoeonggmlebaaGreatDoorQ49
import Derived.Test.YtkfoeonggmlebaaGreatDoorQ50
set_option maxRecDepth 100000
set_option maxHeartbeats 4000000
namespace Go.Proofs.YtkfoeonggmlebaaGreatDoor
open Go Go.ChangeShapes Go.WideShapes Go.ChangeAt Go.RowKit
set_option linter.unusedVariables false in
theorem topOom_lifted (os:Os) (started:os.Started) (H:Type) (enc:TypeId × Value→H) :
 ReturnsInHanded {} Tryz.checked os 3 .any (fun w args=>(Rows.topOomSpec.pre enc Tryz.prog Tryz.f3 [] false w args∧laidMetH Tryz.prog laidL w)∧sizedMet enc Tryz.prog Tryz.f3 (OpenSpec.ofChange Rows.topOomSpec) false w args) (Rows.topOomSpec.post enc Tryz.prog Tryz.f3 false true false false):=by
 refine returnsInHanded_of_change_and (C:=Tryz.checked) (X:=fun w _=>laidMetH Tryz.prog laidL w) (fun _ _ _ hh h=>h.of_heap hh) own started (by kernel_rfl) Tryz.func3
  (ChangeSpec.witness_shaped (enc:=enc) (C:=Tryz.checked) (os:=os) (X:=fun w _=>laidMetH Tryz.prog laidL w) false (World.doorLaid Tryz.prog 400 os) #[.int .i64 0,.int .i64 0,.bool false] 8 rfl (World.shaped_of_RefB (by kernel_rfl) (by kernel_rfl)) (by kernel_rfl) (by kernel_rfl) (by kernel_rfl) (door_met os _)) ?_
 intro W base args ds gs before hval0 hW _ _ hL _
 have hval:∀ (j:Nat) t v,Tryz.f3.params[j]?=some t→args[j]?=some v→Value.okWide Tryz.prog W .any base t v:=hval0
 have hW':=hW
 obtain ⟨p,q,hA0,hV,rfl,hfz,hnd⟩:=hW
 have hA:DataW.TrodAll enc Tryz.prog W 0 (fun _=>true) true Tryz.f3.params.toList args.toList ds p:=hA0
 rw [Tryz.params3] at hA hval
 obtain ⟨v0,vs0,d0,ds0,p0,q0,hargs,rfl,rfl,h0,r0⟩:=trodAll_cons hA
 obtain ⟨v1,vs1,d1,ds1,p1,q1,rfl,rfl,rfl,h1,r1⟩:=trodAll_cons r0
 obtain ⟨v2,vs2,d2,ds2,p2,q2,rfl,rfl,rfl,h2,r2⟩:=trodAll_cons r1
 obtain ⟨rfl,rfl,rfl⟩:=trodAll_nil r2
 obtain rfl:args=#[v0,v1,v2]:=by cases args;simp_all
 obtain ⟨rfl,rfl⟩:=trodVars_none hV
 have k0:=h0
 have lt0:∀ x∈p0,x.block < W.heap.size:=by obtain ⟨m,hm⟩:=k0;exact DataW.trod_lt m _ _ _ hm
 obtain ⟨x0,rfl,rfl,rfl,g0⟩:=open_int Tryz.underlying3 (hval 0 3 v0 rfl rfl) h0
 have k1:=h1
 have lt1:∀ x∈p1,x.block < W.heap.size:=by obtain ⟨m,hm⟩:=k1;exact DataW.trod_lt m _ _ _ hm
 obtain ⟨x1,rfl,rfl,rfl,g1⟩:=open_int Tryz.underlying3 (hval 1 3 v1 rfl rfl) h1
 have k2:=h2
 have lt2:∀ x∈p2,x.block < W.heap.size:=by obtain ⟨m,hm⟩:=k2;exact DataW.trod_lt m _ _ _ hm
 obtain ⟨x2,rfl,rfl,rfl⟩:=open_bool Tryz.underlying4 (hval 2 4 v2 rfl rfl) h2
 have hTab:=tab_of_laid hL
 clear hA0 hval0 hL
 refine (law_oom x0 x1 x2 W hTab).mono fun e W' ⟨he,bel0⟩=>?_
 have bel:=Mod.none bel0
 subst he
 exact ⟨_,rfl,_,_,_,[],_,[],hW',trodAll_mk1 (shut_bool Tryz.underlying4 _),(trodAll_cons_mk (Below.trod laidOut (by kernel_rfl) (of_decide_eq_true (by kernel_rfl)) k0 bel lt0) (trodAll_cons_mk (Below.trod laidOut (by kernel_rfl) (of_decide_eq_true (by kernel_rfl)) k1 bel lt1) (trodAll_cons_mk (Below.trod laidOut (by kernel_rfl) (of_decide_eq_true (by kernel_rfl)) k2 bel lt2) trodAll_mk0))),rfl,bel.frame _,fun h=>by cases h⟩
theorem topOom_c1:(Rows.topOomRow.inPlace==Tryz.prog.inPlace 3)=true:=by kernel_rfl
theorem topOom_c2:(Rows.topOomRow.unfollowed==Tryz.prog.unfollowed 3)=true:=by kernel_rfl
theorem topOom_c3:(Rows.topOomRow.recurses==Tryz.prog.recurses 3)=true:=by kernel_rfl
theorem topOom_c4:(Rows.topOomRow.named==Tryz.prog.varsNamed 3)=true:=by kernel_rfl
theorem topOom_closed:joinedFacts Tryz.prog 3 Tryz.f3 Rows.topOomSpec Rows.topOomRow=true:=by
 simp only [joinedFacts,Bool.and_eq_true]
 repeat' apply And.intro
 all_goals first | with_reducible exact topOom_c1 | with_reducible exact topOom_c2 | with_reducible exact topOom_c3 | with_reducible exact topOom_c4 | (as_aux_lemma=>kernel_rfl)
theorem topOom_row_holds:Rows.TopOomSaid :=
 OpenClaim.holds_of_wide 3 Tryz.f3 rfl rfl rfl rfl rfl rfl rfl ⟨rfl,rfl,rfl,rfl,rfl⟩ rfl rfl rfl rfl rfl (by kernel_rfl) Tryz.func3 topOom_closed
  (of_decide_eq_true (by kernel_rfl)) (by unfold Func.isWrapper;first | (rw [if_pos (by decide +kernel)];kernel_rfl) | (rw [if_neg (by decide +kernel)];exact ⟨rfl,rfl⟩))
  (fun os started H enc _=>topOom_lifted os started H enc)
theorem topOom_card:Rows.TopOomCardSaid :=
 Claim7.holds_tied_plain_at .later [] [.data] true (true, "97a6602075dae6aead2acb84f9ee991abeb6b2157d398fc00d2e2efb5b73e084") false
  topOom_row_holds (fun _ h=>by cases h) (by kernel_rfl) (fun _ h=>by cases h) topOom_row_tie rfl ⟨rfl,rfl⟩ (by kernel_rfl) rfl
  (fun f fn hf hfn=>by
    obtain rfl:f=3:=Option.some.inj ((show Tryz.prog.funcNamed "millpond/millpondtop.TopOom"=some 3 by kernel_rfl).symm.trans hf) |>.symm
    obtain rfl:fn=Tryz.f3:=(Option.some.inj (Tryz.func3.symm.trans hfn)).symm
    exact ⟨by kernel_rfl,fun j t ht=>by
     rw [Tryz.params3] at ht
     have hm:t∈[ 3,3,4 ]:=by simpa using Array.mem_of_getElem? ht
     have hall:([ 3,3,4 ].all fun u=>!Tryz.prog.wantsStandIn u)=true:=by kernel_rfl
     exact (show Tryz.prog.wantsStandIn t=false by simpa using List.all_eq_true.1 hall t hm)⟩)
  (by kernel_rfl)
end Go.Proofs.YtkfoeonggmlebaaGreatDoor
