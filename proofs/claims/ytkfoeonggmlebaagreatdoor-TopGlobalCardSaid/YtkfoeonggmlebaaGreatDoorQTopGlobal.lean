/-
  The law TopGlobal, of millpondtop: for every input it returns true. (No condition: the tied card of the given row.)
-/
import Derived.Test.YtkfoeonggmlebaaGreatDoorCards
import Derived.Test.YtkfoeonggmlebaaGreatDoorTie
import Derived.Test.YtkfoeonggmlebaaGreatDoorQ48
import Derived.Test.YtkfoeonggmlebaaGreatDoorQ50
set_option maxRecDepth 100000
set_option maxHeartbeats 4000000
namespace Go.Proofs.YtkfoeonggmlebaaGreatDoor
open Go Go.ChangeShapes Go.WideShapes Go.ChangeAt Go.RowKit
set_option linter.unusedVariables false in
theorem topGlobal_lifted (os:Os) (started:os.Started) (H:Type) (enc:TypeId × Value→H) :
 ReturnsInHanded {} Tryz.checked os 8 .any (fun w args=>(Rows.topGlobalSpec.pre enc Tryz.prog Tryz.f8 [] false w args∧laidMetH Tryz.prog laidL w)∧sizedMet enc Tryz.prog Tryz.f8 (OpenSpec.ofChange Rows.topGlobalSpec) false w args) (Rows.topGlobalSpec.post enc Tryz.prog Tryz.f8 false true false false):=by
 refine returnsInHanded_of_change_and (C:=Tryz.checked) (X:=fun w _=>laidMetH Tryz.prog laidL w) (fun _ _ _ hh h=>h.of_heap hh) own started (by kernel_rfl) Tryz.func8
  (ChangeSpec.witness_shaped (enc:=enc) (C:=Tryz.checked) (os:=os) (X:=fun w _=>laidMetH Tryz.prog laidL w) false (World.doorLaid Tryz.prog 400 os) #[.int .i64 0,.int .i64 0] 8 rfl (World.shaped_of_RefB (by kernel_rfl) (by kernel_rfl)) (by kernel_rfl) (by kernel_rfl) (by kernel_rfl) (door_met os _)) ?_
 intro W base args ds gs before hval0 hW _ _ hL _
 have hval:∀ (j:Nat) t v,Tryz.f8.params[j]?=some t→args[j]?=some v→Value.okWide Tryz.prog W .any base t v:=hval0
 have hW':=hW
 obtain ⟨p,q,hA0,hV,rfl,hfz,hnd⟩:=hW
 have hA:DataW.TrodAll enc Tryz.prog W 0 (fun _=>true) true Tryz.f8.params.toList args.toList ds p:=hA0
 rw [Tryz.params8] at hA hval
 obtain ⟨v0,vs0,d0,ds0,p0,q0,hargs,rfl,rfl,h0,r0⟩:=trodAll_cons hA
 obtain ⟨v1,vs1,d1,ds1,p1,q1,rfl,rfl,rfl,h1,r1⟩:=trodAll_cons r0
 obtain ⟨rfl,rfl,rfl⟩:=trodAll_nil r1
 obtain rfl:args=#[v0,v1]:=by cases args;simp_all
 obtain ⟨rfl,rfl⟩:=trodVars_none hV
 have k0:=h0
 have lt0:∀ x∈p0,x.block < W.heap.size:=by obtain ⟨m,hm⟩:=k0;exact DataW.trod_lt m _ _ _ hm
 obtain ⟨x0,rfl,rfl,rfl,g0⟩:=open_int Tryz.underlying3 (hval 0 3 v0 rfl rfl) h0
 have k1:=h1
 have lt1:∀ x∈p1,x.block < W.heap.size:=by obtain ⟨m,hm⟩:=k1;exact DataW.trod_lt m _ _ _ hm
 obtain ⟨x1,rfl,rfl,rfl,g1⟩:=open_int Tryz.underlying3 (hval 1 3 v1 rfl rfl) h1
 have hTab:=tab_of_laid hL
 clear hA0 hval0 hL
 refine (law_global x0 x1 W hTab).mono fun e W' ⟨he,bel0⟩=>?_
 have bel:=Mod.none bel0
 subst he
 exact ⟨_,rfl,_,_,_,[],_,[],hW',trodAll_mk1 (shut_bool Tryz.underlying4 _),(trodAll_cons_mk (Below.trod laidOut (by kernel_rfl) (of_decide_eq_true (by kernel_rfl)) k0 bel lt0) (trodAll_cons_mk (Below.trod laidOut (by kernel_rfl) (of_decide_eq_true (by kernel_rfl)) k1 bel lt1) trodAll_mk0)),rfl,bel.frame _,fun h=>by cases h⟩
theorem topGlobal_c1:(Rows.topGlobalRow.inPlace==Tryz.prog.inPlace 8)=true:=by kernel_rfl
theorem topGlobal_c2:(Rows.topGlobalRow.unfollowed==Tryz.prog.unfollowed 8)=true:=by kernel_rfl
theorem topGlobal_c3:(Rows.topGlobalRow.recurses==Tryz.prog.recurses 8)=true:=by kernel_rfl
theorem topGlobal_c4:(Rows.topGlobalRow.named==Tryz.prog.varsNamed 8)=true:=by kernel_rfl
theorem topGlobal_closed:joinedFacts Tryz.prog 8 Tryz.f8 Rows.topGlobalSpec Rows.topGlobalRow=true:=by
 simp only [joinedFacts,Bool.and_eq_true]
 repeat' apply And.intro
 all_goals first | with_reducible exact topGlobal_c1 | with_reducible exact topGlobal_c2 | with_reducible exact topGlobal_c3 | with_reducible exact topGlobal_c4 | (as_aux_lemma=>kernel_rfl)
theorem topGlobal_row_holds:Rows.TopGlobalSaid :=
 OpenClaim.holds_of_wide 8 Tryz.f8 rfl rfl rfl rfl rfl rfl rfl ⟨rfl,rfl,rfl,rfl,rfl⟩ rfl rfl rfl rfl rfl (by kernel_rfl) Tryz.func8 topGlobal_closed
  (of_decide_eq_true (by kernel_rfl)) (by unfold Func.isWrapper;first | (rw [if_pos (by decide +kernel)];kernel_rfl) | (rw [if_neg (by decide +kernel)];exact ⟨rfl,rfl⟩))
  (fun os started H enc _=>topGlobal_lifted os started H enc)
theorem topGlobal_card:Rows.TopGlobalCardSaid :=
 Claim7.holds_tied_plain_at .later [] [.data] true (true, "97a6602075dae6aead2acb84f9ee991abeb6b2157d398fc00d2e2efb5b73e084") false
  topGlobal_row_holds (fun _ h=>by cases h) (by kernel_rfl) (fun _ h=>by cases h) topGlobal_row_tie rfl ⟨rfl,rfl⟩ (by kernel_rfl) rfl
  (fun f fn hf hfn=>by
    obtain rfl:f=8:=Option.some.inj ((show Tryz.prog.funcNamed "millpond/millpondtop.TopGlobal"=some 8 by kernel_rfl).symm.trans hf) |>.symm
    obtain rfl:fn=Tryz.f8:=(Option.some.inj (Tryz.func8.symm.trans hfn)).symm
    exact ⟨by kernel_rfl,fun j t ht=>by
     rw [Tryz.params8] at ht
     have hm:t∈[ 3,3 ]:=by simpa using Array.mem_of_getElem? ht
     have hall:([ 3,3 ].all fun u=>!Tryz.prog.wantsStandIn u)=true:=by kernel_rfl
     exact (show Tryz.prog.wantsStandIn t=false by simpa using List.all_eq_true.1 hall t hm)⟩)
  (by kernel_rfl)
end Go.Proofs.YtkfoeonggmlebaaGreatDoor
