/-
  TreeChains: a chain ends at the root, each one's parent behind it; who is below a group has it in its chain, and just those: the law returns true for every input, and changes nothing that was there.
-/
import Derived.Test.YtgndpoemgailcaaTreeF
import Derived.Test.YtgndpoemgailcaaTreeQ
namespace Go.Proofs.Ytgndpoemgailcaa
open Go.RowKit Go.ChangeShapes Go.WideShapes Go.ChangeAt

set_option maxRecDepth 100000 in
set_option maxHeartbeats 4000000 in
theorem law_chains (l : List (Int × Bool)) (v : Value) (n x : Int) (w : World) (h : RowsAt ec2 2 w v l) :
    Calls Try.prog 4 #[v, .int .i64 n, .int .i64 x] w fun e w' => e = .returned (.bool true) ∧ Mod (fun _ => False) w w' := by
  obtain ⟨va, vc, rfl, hcap, hmax, hcell⟩ := act_cells h
  unfold maxLen at hmax
  clear h
  go_enter Try.func4, Try.ntmps4
  go_wp2_with fail
  refine (works_any _).mono ?_
  rintro e w1 ⟨rfl, hm1⟩
  by_cases h100 : 100 < l.length
  · have hd : decide (100 < l.length) = true := by simp [h100]
    go_wp2_with fail
    go_ret
    exact ⟨rfl, hm1⟩
  have hd : decide (100 < l.length) = false := by simp; omega
  have hl100 : l.length ≤ 100 := by omega
  clear h100
  go_wp2_with fail
  clear hd
  refine (new_any _).mono ?_
  rintro e w2 ⟨b, g0, c0, rfl, hm2, hT2, hb2, hg2⟩
  have hm02 : Mod (fun _ => False) w w2 := hm1.trans hm2
  have hs1 := hm1.size
  go_wp2_with fail
  go_loopw [9] (fun i wr => ∃ (k : Nat) (g c : Nat) (L : List Grp), k ≤ l.length ∧ i = .int .i64 k ∧ TreeAt wr b g c L ∧ w.heap.size ≤ g ∧ Mod (fun _ => False) w wr) (fun i _ => l.length - (intOf i).toNat)
  case atStart => exact ⟨0, g0, c0, newT, by omega, rfl, hT2, by omega, hm02⟩
  case round =>
    obtain ⟨k, g, c, L, hk, rfl, hT, hgw, hm⟩ := hrel
    by_cases hlt : k < l.length
    · obtain ⟨a, ha⟩ : ∃ a, l[k]? = some a := ⟨_, List.getElem?_eq_getElem hlt⟩
      obtain ⟨ab, aoff, rfl, d0, d1⟩ := hcell k a ha
      have e0 := hm.keeps d0 (fun x => x)
      have e1 := hm.keeps d1 (fun x => x)
      have HC := Lib.hid hcell
      clear hcell d0 d1 ha
      obtain ⟨wo, rfl⟩ : ∃ wo : World, wo = wr := ⟨_, rfl⟩
      cases hoff : a.2 with
      | true =>
        rw [hoff] at e1
        clear hoff
        go_wp2_with fail
        refine (remove_any b g c L a.1 _ hT).mono ?_
        rintro e w3 ⟨rfl, hm3, hT3⟩
        go_wp2_with fail
        go_roundw
        case rel => exact ⟨k + 1, g, c, _, by omega, by go_num, hT3, hgw, hm.trans' hm3 (fun i hi h => by omega)⟩
        case measure => simp [intOf]; omega
      | false =>
        rw [hoff] at e1
        clear hoff
        go_wp2_with fail
        refine (add_any b g c L a.1 _ hT).mono ?_
        rintro e w3 ⟨g3, c3, rfl, hm3, hT3, hg3⟩
        have hms := hm.size
        go_wp2_with fail
        go_roundw
        case rel => exact ⟨k + 1, g3, c3, _, by omega, by go_num, hT3, by omega, hm.trans' hm3 (fun i hi h => by omega)⟩
        case measure => simp [intOf]; omega
    · obtain rfl : k = l.length := by omega
      obtain ⟨wo, rfl⟩ : ∃ wo : World, wo = wr := ⟨_, rfl⟩
      have HC := Lib.hid hcell
      clear hcell
      have hG := hT.good
      have hchl := chain_le hG n
      go_wp2_with fail
      refine (chain_any b g c L n _ hT).mono ?_
      rintro e w3 ⟨v3, rfl, hm3, hi3⟩
      have hT3 := hT.keepN hm3
      obtain ⟨a3, k3, rfl, _⟩ := id hi3
      go_wp2_with fail
      refine (live_any b g c L n _ hT3).mono ?_
      cases hl : liveB L n with
      | false =>
        have hI := Lib.hid hi3
        clear hi3
        rw [chain_dead hl]
        rintro e w4 ⟨rfl, rfl⟩
        have q1 := depthL_dead hl
        have q2 := parL_dead hl
        have q3 := belowL_dead hl
        clear hl
        go_wp2_with fail
        refine (depth_any b g c L n _ hT3).mono ?_
        rw [q1]
        rintro e w5 ⟨rfl, hm5⟩
        have hT5 := hT3.keepN hm5
        go_wp2_with fail
        refine (parent_any b g c L n _ hT5).mono ?_
        rw [q2]
        rintro e w6 ⟨rfl, rfl⟩
        go_wp2_with fail
        refine (below_any b g c L n _ hT5).mono ?_
        rw [q3]
        rintro e w6 ⟨v6, rfl, hm6, hi6⟩
        obtain ⟨a6, k6, rfl, _⟩ := id hi6
        go_wp2_with fail
        go_ret
        exact ⟨rfl, ((hm.trans hm3).trans hm5).trans hm6⟩
      | true =>
        obtain ⟨p1, p2, p3⟩ := ups_len hG hl
        have hat := ups_at hG _ n (Nat.lt_succ_self _) hl
        have hbin := below_in hG hl x
        have hdl : depthL L n = ((chainL L n).length : Int) - 1 := rfl
        have hch := chain_live hl
        rw [← hch] at p1 p2 p3 hat
        obtain ⟨cs, hcs⟩ : ∃ cs, cs = chainL L n := ⟨_, rfl⟩
        rw [← hcs] at p1 p2 p3 hat hi3 hbin hdl hchl ⊢
        clear hch hcs
        obtain ⟨b3, o3, rfl, r0⟩ := intsAt_get hi3 p2
        obtain ⟨_, _, eq3, r1⟩ := intsAt_get hi3 p3
        injection eq3 with eq3
        injection eq3 with eq3 eq4
        subst eq3 eq4
        rw [Nat.add_zero] at r0
        have HI := Lib.hid hi3
        have HAT := Lib.hid hat
        have HL := Lib.hid hl
        have HB := Lib.hid hbin
        have t3 : (n != n) = false := by simp
        clear hi3 hat hl hbin p2 p3
        rintro e w4 ⟨rfl, rfl⟩
        go_wp2_with fail
        refine (depth_any b g c L n _ hT3).mono ?_
        rw [hdl]
        clear hdl
        rintro e w5 ⟨rfl, hm5⟩
        have hT5 := hT3.keepN hm5
        have hm5a := hm5
        have t4 : ((cs.length : Int) - 1 != (cs.length : Int) - 1) = false := by simp
        have hm05 : Mod (fun _ => False) w w5 := (hm.trans hm3).trans hm5
        go_wp2_with fail
        clear r0 r1 t3 t4 hm5 hm3 hm
        go_loopw [11] (fun i wr => ∃ k : Nat, k ≤ cs.length ∧ i = .int .i64 k ∧ Mod (fun _ => False) w5 wr) (fun i _ => cs.length - (intOf i).toNat)
        case atStart => exact ⟨0, by omega, rfl, Mod.refl _ _⟩
        case round =>
          obtain ⟨k, hk, rfl, hmr⟩ := hrel
          have hTr := hT5.keepN hmr
          by_cases hlt2 : k < cs.length
          · obtain ⟨y, hy⟩ : ∃ y, cs[k]? = some y := ⟨_, List.getElem?_eq_getElem hlt2⟩
            obtain ⟨hly, huy⟩ := HAT.out k y hy
            obtain ⟨_, _, eq3, r2'⟩ := intsAt_get HI.out hy
            injection eq3 with eq3
            injection eq3 with eq3 eq4
            subst eq3 eq4
            have r2 := (hmr.keeps (hm5a.keeps r2' (fun x => x)) (fun x => x))
            have hpy : parL L y = (cs[k + 1]?).getD (-1) := by rw [parL_live hly, huy]
            have hkI : (k : Int) < cs.length := by omega
            clear r2' huy hy
            obtain ⟨wo2, rfl⟩ : ∃ wo2 : World, wo2 = wr := ⟨_, rfl⟩
            by_cases hnx : k + 1 < cs.length
            case' pos =>
              obtain ⟨z, hz⟩ : ∃ z, cs[k + 1]? = some z := ⟨_, List.getElem?_eq_getElem hnx⟩
              obtain ⟨_, _, eq3, r3'⟩ := intsAt_get HI.out hz
              injection eq3 with eq3
              injection eq3 with eq3 eq4
              subst eq3 eq4
              have r3 := (hmr.keeps (hm5a.keeps r3' (fun x => x)) (fun x => x))
              rw [hz] at hpy
              have hpy : parL L y = z := hpy
              have d5 : decide ((k : Int) + 1 < cs.length) = true := by simp; omega
              clear r3' hz
            case' neg =>
              obtain ⟨z, hz⟩ : ∃ z : Int, z = -1 := ⟨_, rfl⟩
              rw [List.getElem?_eq_none (by omega)] at hpy
              have hpy : parL L y = z := by rw [hz]; exact hpy
              have d5 : decide ((k : Int) + 1 < cs.length) = false := by simp; omega
              subst hz
            all_goals
              have hpz := Lib.hid hpy
              have HLY := Lib.hid hly
              clear hpy hly
              go_wp2_with fail
              refine (parent_any b g c L y _ hTr).mono ?_
              rw [hpz.out]
              rintro e w6 ⟨rfl, rfl⟩
              go_wp2_with fail
              refine (live_any b g c L y _ hTr).mono ?_
              rw [HLY.out]
              rintro e w6 ⟨rfl, rfl⟩
              go_wp2_with fail
              go_roundw
              case rel => exact ⟨k + 1, by omega, by go_num, hmr⟩
              case measure => simp [intOf]; omega
          · obtain rfl : k = cs.length := by omega
            have hi7 := HI.out.keep ((Mod.refl (fun _ => False) _).trans (hm5a.trans hmr)) (fun _ _ x => x)
            go_wp2_with fail
            refine (below_any b g c L x _ hTr).mono ?_
            rintro e w7 ⟨v7, rfl, hm7, hi8⟩
            have hi9 := hi7.keep hm7 (fun _ _ x => x)
            obtain ⟨a8, k8, rfl, _⟩ := id hi8
            clear hi7
            go_wp2_with fail
            refine (in_any _ _ n _ hi8).mono ?_
            rw [HB.out]
            rintro e w8 ⟨rfl, rfl⟩
            go_wp2_with fail
            refine (in_any _ _ x _ hi9).mono ?_
            rintro e w8 ⟨rfl, rfl⟩
            generalize decide (x ∈ cs) = bb
            have tt : (bb == bb) = true := by simp
            go_wp2_with fail
            go_ret
            exact ⟨rfl, (hm05.trans hmr).trans hm7⟩

set_option linter.unusedVariables false in
set_option maxRecDepth 100000 in
theorem treeChains_lifted (os : Os) (started : os.Started) (H : Type) (enc : TypeId × Value → H) :
    ReturnsInHanded {} Try.checked os 4 .any (Rows.treeChainsSpec.pre6 enc Try.prog Try.f4 Rows.treeChainsRow.domain false) (Rows.treeChainsSpec.post enc Try.prog Try.f4 false true false false) := by
  refine returnsInHanded_of_change (C := Try.checked) own started (by kernel_rfl) Try.func4
    (ChangeSpec.witness6 (enc := enc) (C := Try.checked) false ⟨#[], #[.slice none 0 0, .int .i64 0, .int .i64 0], []⟩ 8 (by kernel_rfl) (by kernel_rfl) (by kernel_rfl) (by kernel_rfl)) ?_
  intro W base args ds gs before hval0 hW hcnd _
  have hval : ∀ (j : Nat) t v, Try.f4.params[j]? = some t → args[j]? = some v → Value.okWide Try.prog W .any base t v := hval0
  have hW' := hW
  obtain ⟨p, q, hA0, hV, rfl, hfz, hnd⟩ := hW
  have hA : DataW.TrodAll enc Try.prog W 0 (fun _ => true) true Try.f4.params.toList args.toList ds p := hA0
  rw [Try.params4] at hA hval
  obtain ⟨v0, vs0, d0, ds0, p0, q0, hargs, rfl, rfl, h0, r0⟩ := trodAll_cons hA
  obtain ⟨v1, vs1, d1, ds1, p1, q1, rfl, rfl, rfl, h1, r1⟩ := trodAll_cons r0
  obtain ⟨v2, vs2, d2, ds2, p2, q2, rfl, rfl, rfl, h2, r2⟩ := trodAll_cons r1
  obtain ⟨rfl, rfl, rfl⟩ := trodAll_nil r2
  obtain rfl : args = #[v0, v1, v2] := by cases args; simp_all
  obtain ⟨rfl, rfl⟩ := trodVars_none hV
  have k0 := h0
  have lt0 : ∀ x ∈ p0, x.block < W.heap.size := by obtain ⟨m, hm⟩ := k0; exact DataW.trod_lt m _ _ _ hm
  obtain ⟨x0, s0, g0⟩ := arg_slice Try.underlying22 (hval 0 22 v0 rfl rfl) (dec_slice (ec := ec2) 2 Try.underlying22 (by kernel_rfl) ec2_len (by decide) dec_act) h0
  have k1 := h1
  have lt1 : ∀ x ∈ p1, x.block < W.heap.size := by obtain ⟨m, hm⟩ := k1; exact DataW.trod_lt m _ _ _ hm
  obtain ⟨x1, rfl, rfl, rfl, g1⟩ := open_int Try.underlying3 (hval 1 3 v1 rfl rfl) h1
  have k2 := h2
  have lt2 : ∀ x ∈ p2, x.block < W.heap.size := by obtain ⟨m, hm⟩ := k2; exact DataW.trod_lt m _ _ _ hm
  obtain ⟨x2, rfl, rfl, rfl, g2⟩ := open_int Try.underlying3 (hval 2 3 v2 rfl rfl) h2
  clear hA0 hval0
  refine (law_chains x0 v0 x1 x2 W s0).mono fun e W' ⟨he, bel0⟩ => ?_
  have bel := Mod.none bel0
  subst he
  exact ⟨_, rfl, _, _, _, [], _, [], hW', trodAll_mk1 (shut_bool Try.underlying4 _), (trodAll_cons_mk (Below.trod laidOut (by kernel_rfl) (of_decide_eq_true (by kernel_rfl)) k0 bel lt0) (trodAll_cons_mk (Below.trod laidOut (by kernel_rfl) (of_decide_eq_true (by kernel_rfl)) k1 bel lt1) (trodAll_cons_mk (Below.trod laidOut (by kernel_rfl) (of_decide_eq_true (by kernel_rfl)) k2 bel lt2) trodAll_mk0))), rfl, bel.frame _, fun h => by cases h⟩

theorem treeChains_holds : Rows.TreeChainsSaid :=
  OpenClaim.holds_of_wide 4 Try.f4 rfl rfl rfl rfl rfl rfl rfl ⟨rfl, rfl, rfl, rfl, rfl⟩ rfl rfl rfl rfl rfl (by kernel_rfl) Try.func4 (by kernel_rfl)
    (of_decide_eq_true (by kernel_rfl)) (by unfold Func.isWrapper; first | (rw [if_pos (by decide +kernel)]; kernel_rfl) | (rw [if_neg (by decide +kernel)]; exact ⟨rfl, rfl⟩))
    (fun os started H enc _ => treeChains_lifted os started H enc)
#print axioms treeChains_holds

end Go.Proofs.Ytgndpoemgailcaa
