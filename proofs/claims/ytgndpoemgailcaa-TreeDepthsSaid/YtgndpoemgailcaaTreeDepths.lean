/-
  TreeDepths: who is just below one is one deeper; all below are the kids and itself, each once; nothing is eight deep: the law returns true for every input, and changes nothing that was there.
-/
import Derived.Test.YtgndpoemgailcaaTreeF
import Derived.Test.YtgndpoemgailcaaTreeQ
namespace Go.Proofs.Ytgndpoemgailcaa
open Go.RowKit Go.ChangeShapes Go.WideShapes Go.ChangeAt

set_option maxRecDepth 100000 in
set_option maxHeartbeats 4000000 in
theorem law_depths (l : List (Int × Bool)) (v : Value) (n : Int) (w : World) (h : RowsAt ec2 2 w v l) :
    Calls Try.prog 6 #[v, .int .i64 n] w fun e w' => e = .returned (.bool true) ∧ Mod (fun _ => False) w w' := by
  obtain ⟨va, vc, rfl, hcap, hmax, hcell⟩ := act_cells h
  unfold maxLen at hmax
  clear h
  go_enter Try.func6, Try.ntmps6
  go_wp2_with fail
  refine (works_any _).mono ?_
  rintro e w1 ⟨rfl, hm1⟩
  by_cases h100 : 100 < l.length
  · have hd : decide (100 < l.length) = true := by simp [h100]
    go_wp2_with fail
    go_ret
    exact ⟨rfl, hm1⟩
  have hd : decide (100 < l.length) = false := by simp; omega
  have hl100 : l.length ≤ 100 := by omega
  clear h100
  go_wp2_with fail
  clear hd
  refine (new_any _).mono ?_
  rintro e w2 ⟨b, g0, c0, rfl, hm2, hT2, hb2, hg2⟩
  have hm02 : Mod (fun _ => False) w w2 := hm1.trans hm2
  have hs1 := hm1.size
  go_wp2_with fail
  go_loopw [7] (fun i wr => ∃ (k : Nat) (g c : Nat) (L : List Grp), k ≤ l.length ∧ i = .int .i64 k ∧ TreeAt wr b g c L ∧ w.heap.size ≤ g ∧ Mod (fun _ => False) w wr) (fun i _ => l.length - (intOf i).toNat)
  case atStart => exact ⟨0, g0, c0, newT, by omega, rfl, hT2, by omega, hm02⟩
  case round =>
    obtain ⟨k, g, c, L, hk, rfl, hT, hgw, hm⟩ := hrel
    by_cases hlt : k < l.length
    · obtain ⟨a, ha⟩ : ∃ a, l[k]? = some a := ⟨_, List.getElem?_eq_getElem hlt⟩
      obtain ⟨ab, aoff, rfl, d0, d1⟩ := hcell k a ha
      have e0 := hm.keeps d0 (fun x => x)
      have e1 := hm.keeps d1 (fun x => x)
      have HC := Lib.hid hcell
      clear hcell d0 d1 ha
      obtain ⟨wo, rfl⟩ : ∃ wo : World, wo = wr := ⟨_, rfl⟩
      cases hoff : a.2 with
      | true =>
        rw [hoff] at e1
        clear hoff
        go_wp2_with fail
        refine (remove_any b g c L a.1 _ hT).mono ?_
        rintro e w3 ⟨rfl, hm3, hT3⟩
        go_wp2_with fail
        go_roundw
        case rel => exact ⟨k + 1, g, c, _, by omega, by go_num, hT3, hgw, hm.trans' hm3 (fun i hi h => by omega)⟩
        case measure => simp [intOf]; omega
      | false =>
        rw [hoff] at e1
        clear hoff
        go_wp2_with fail
        refine (add_any b g c L a.1 _ hT).mono ?_
        rintro e w3 ⟨g3, c3, rfl, hm3, hT3, hg3⟩
        have hms := hm.size
        go_wp2_with fail
        go_roundw
        case rel => exact ⟨k + 1, g3, c3, _, by omega, by go_num, hT3, by omega, hm.trans' hm3 (fun i hi h => by omega)⟩
        case measure => simp [intOf]; omega
    · obtain rfl : k = l.length := by omega
      obtain ⟨wo, rfl⟩ : ∃ wo : World, wo = wr := ⟨_, rfl⟩
      have HC := Lib.hid hcell
      clear hcell
      have hG := hT.good
      have hkl := kids_len_le hG n
      go_wp2_with fail
      refine (depth_any b g c L n _ hT).mono ?_
      rintro e w3 ⟨rfl, hm3⟩
      have hT3 := hT.keepN hm3
      go_wp2_with fail
      refine (kids_any b g c L n _ hT3).mono ?_
      obtain ⟨K, hK⟩ : ∃ K, K = kidsL L n := ⟨_, rfl⟩
      rw [← hK] at hkl ⊢
      have HK := Lib.hid hK
      clear hK
      rintro e w4 ⟨v4, rfl, hm4, hi4⟩
      obtain ⟨a4, k4, rfl, _⟩ := id hi4
      have hT4 := hT3.keepN hm4
      have hm04 : Mod (fun _ => False) w w4 := (hm.trans hm3).trans hm4
      go_wp2_with fail
      go_loopw [10, 11] (fun s i wr => ∃ (k m : Nat), k ≤ K.length ∧ i = .int .i64 k ∧ s = .int .i64 m ∧ m = 1 + ((K.take k).map (fun y => (belowL L y).length)).sum ∧ m ≤ 1 + 64 * k ∧ Mod (fun _ => False) w4 wr) (fun _ i _ => K.length - (intOf i).toNat)
      case atStart => exact ⟨0, 1, by omega, rfl, rfl, by simp, by omega, Mod.refl _ _⟩
      case round =>
        obtain ⟨k, m, hk2, rfl, rfl, hms, hm64, hmr⟩ := hrel
        have HMS := Lib.hid hms
        clear hms
        obtain ⟨wp, rfl⟩ : ∃ wp : World, wp = wr := ⟨_, rfl⟩
        have hTr := hT4.keepN hmr
        by_cases hlt2 : k < K.length
        · obtain ⟨y, hy⟩ : ∃ y, K[k]? = some y := ⟨_, List.getElem?_eq_getElem hlt2⟩
          obtain ⟨bb, oo, rfl, r0'⟩ := intsAt_get hi4 hy
          have r0 := hmr.keeps r0' (fun x => x)
          have hyk : y ∈ kidsL L n := by rw [← HK.out]; exact List.mem_of_getElem? hy
          obtain ⟨f1, f2⟩ := kid_facts hG hyk
          have hbl := below_len_le hG y
          have hsum := sum_take_succ (fun y => (belowL L y).length) hy
          have F1 := Lib.hid f1
          have F2 := Lib.hid f2
          have HS := Lib.hid hsum
          have HI := Lib.hid hi4
          have t1 : (depthL L n + 1 != depthL L n + 1) = false := by simp
          have t2 : (n != n) = false := by simp
          have hdle : -1 ≤ depthL L n ∧ depthL L n ≤ 7 := by have := chain_le hG n; unfold depthL; omega
          have hkI : (k : Int) < K.length := by omega
          clear f1 f2 hsum hyk hy r0' hi4
          go_wp2_with fail
          refine (depth_any b g c L y _ hTr).mono ?_
          rw [F1.out]
          rintro e w5 ⟨rfl, hm5⟩
          have hT5 := hTr.keepN hm5
          have r1 := hm5.keeps r0 (fun x => x)
          go_wp2_with fail
          refine (parent_any b g c L y _ hT5).mono ?_
          rw [F2.out]
          rintro e w6 ⟨rfl, rfl⟩
          go_wp2_with fail
          refine (below_any b g c L y _ hT5).mono ?_
          rintro e w7 ⟨v7, rfl, hm7, hi7⟩
          obtain ⟨a7, k7, rfl, _⟩ := id hi7
          go_wp2_with fail
          go_roundw
          case rel => exact ⟨k + 1, m + (belowL L y).length, by omega, by go_num, by go_num, by rw [HMS.out, HS.out]; omega, by omega, (hmr.trans hm5).trans hm7⟩
          case measure => simp [intOf]; omega
        · obtain rfl : k = K.length := by omega
          have HI := Lib.hid hi4
          clear hi4
          go_wp2_with fail
          refine (live_any b g c L n _ hTr).mono ?_
          cases hl : liveB L n with
          | false =>
            have t1 : depthL L n = -1 := depthL_dead hl
            have t2 : K.length = 0 := by rw [HK.out, kidsL_dead hl]; rfl
            rw [t1, t2]
            clear t1 hl
            rintro e w5 ⟨rfl, rfl⟩
            go_wp2_with fail
            go_ret
            exact ⟨rfl, hm04.trans hmr⟩
          | true =>
            have hbs := below_sum hG hl
            rw [← HK.out] at hbs
            have hms := HMS.out
            rw [List.take_length] at hms
            have hbm : (belowL L n).length = m := by rw [hbs, hms]
            have hd0 : 0 ≤ depthL L n := by have := (ups_len hG hl).1; unfold depthL; rw [chain_live hl]; omega
            have hd7 : depthL L n ≤ 7 := by have := chain_le hG n; unfold depthL; omega
            have t1 : decide (0 ≤ depthL L n) = true := by simp; omega
            have t2 : decide (depthL L n ≤ 7) = true := by simp; omega
            have t3 : ((m : Int) == (m : Int)) = true := by simp
            have HBM := Lib.hid hbm
            clear hbs hms hbm hl
            rintro e w5 ⟨rfl, rfl⟩
            go_wp2_with fail
            refine (below_any b g c L n _ hTr).mono ?_
            rintro e w7 ⟨v7, rfl, hm7, hi7⟩
            obtain ⟨a7, k7, rfl, _⟩ := id hi7
            rw [HBM.out] at *
            go_wp2_with fail
            go_ret
            exact ⟨rfl, (hm04.trans hmr).trans hm7⟩

set_option linter.unusedVariables false in
set_option maxRecDepth 100000 in
theorem treeDepths_lifted (os : Os) (started : os.Started) (H : Type) (enc : TypeId × Value → H) :
    ReturnsInHanded {} Try.checked os 6 .any (Rows.treeDepthsSpec.pre6 enc Try.prog Try.f6 Rows.treeDepthsRow.domain false) (Rows.treeDepthsSpec.post enc Try.prog Try.f6 false true false false) := by
  refine returnsInHanded_of_change (C := Try.checked) own started (by kernel_rfl) Try.func6
    (ChangeSpec.witness6 (enc := enc) (C := Try.checked) false ⟨#[], #[.slice none 0 0, .int .i64 0], []⟩ 8 (by kernel_rfl) (by kernel_rfl) (by kernel_rfl) (by kernel_rfl)) ?_
  intro W base args ds gs before hval0 hW hcnd _
  have hval : ∀ (j : Nat) t v, Try.f6.params[j]? = some t → args[j]? = some v → Value.okWide Try.prog W .any base t v := hval0
  have hW' := hW
  obtain ⟨p, q, hA0, hV, rfl, hfz, hnd⟩ := hW
  have hA : DataW.TrodAll enc Try.prog W 0 (fun _ => true) true Try.f6.params.toList args.toList ds p := hA0
  rw [Try.params6] at hA hval
  obtain ⟨v0, vs0, d0, ds0, p0, q0, hargs, rfl, rfl, h0, r0⟩ := trodAll_cons hA
  obtain ⟨v1, vs1, d1, ds1, p1, q1, rfl, rfl, rfl, h1, r1⟩ := trodAll_cons r0
  obtain ⟨rfl, rfl, rfl⟩ := trodAll_nil r1
  obtain rfl : args = #[v0, v1] := by cases args; simp_all
  obtain ⟨rfl, rfl⟩ := trodVars_none hV
  have k0 := h0
  have lt0 : ∀ x ∈ p0, x.block < W.heap.size := by obtain ⟨m, hm⟩ := k0; exact DataW.trod_lt m _ _ _ hm
  obtain ⟨x0, s0, g0⟩ := arg_slice Try.underlying22 (hval 0 22 v0 rfl rfl) (dec_slice (ec := ec2) 2 Try.underlying22 (by kernel_rfl) ec2_len (by decide) dec_act) h0
  have k1 := h1
  have lt1 : ∀ x ∈ p1, x.block < W.heap.size := by obtain ⟨m, hm⟩ := k1; exact DataW.trod_lt m _ _ _ hm
  obtain ⟨x1, rfl, rfl, rfl, g1⟩ := open_int Try.underlying3 (hval 1 3 v1 rfl rfl) h1
  clear hA0 hval0
  refine (law_depths x0 v0 x1 W s0).mono fun e W' ⟨he, bel0⟩ => ?_
  have bel := Mod.none bel0
  subst he
  exact ⟨_, rfl, _, _, _, [], _, [], hW', trodAll_mk1 (shut_bool Try.underlying4 _), (trodAll_cons_mk (Below.trod laidOut (by kernel_rfl) (of_decide_eq_true (by kernel_rfl)) k0 bel lt0) (trodAll_cons_mk (Below.trod laidOut (by kernel_rfl) (of_decide_eq_true (by kernel_rfl)) k1 bel lt1) trodAll_mk0)), rfl, bel.frame _, fun h => by cases h⟩

theorem treeDepths_holds : Rows.TreeDepthsSaid :=
  OpenClaim.holds_of_wide 6 Try.f6 rfl rfl rfl rfl rfl rfl rfl ⟨rfl, rfl, rfl, rfl, rfl⟩ rfl rfl rfl rfl rfl (by kernel_rfl) Try.func6 (by kernel_rfl)
    (of_decide_eq_true (by kernel_rfl)) (by unfold Func.isWrapper; first | (rw [if_pos (by decide +kernel)]; kernel_rfl) | (rw [if_neg (by decide +kernel)]; exact ⟨rfl, rfl⟩))
    (fun os started H enc _ => treeDepths_lifted os started H enc)
#print axioms treeDepths_holds

end Go.Proofs.Ytgndpoemgailcaa
