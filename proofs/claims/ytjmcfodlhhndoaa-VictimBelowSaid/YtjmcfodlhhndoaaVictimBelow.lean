/-
  VictimBelow: all that are killed are below the target, and live; somebody is, just if somebody there has something; the one who has the most is among them: the law returns true for every input, and changes nothing that was there.
-/
import Derived.Test.YtjmcfodlhhndoaaVicQ
namespace Go.Proofs.Ytjmcfodlhhndoaa
open Go.RowKit Go.ChangeShapes Go.WideShapes Go.ChangeAt

set_option maxRecDepth 100000 in
set_option maxHeartbeats 8000000 in
theorem law_below (ns : List Int) (nv : Value) (ps : List Prc) (pv : Value) (t : Int) (wh : List Bool) (wv : Value) (w : World) (hn : IntsAt w nv ns) (hp : RowsAt ecP 3 w pv ps) (hw : RowsAt ecB 1 w wv wh) :
    Calls Try.prog 4 #[nv, pv, .int .i64 t, wv] w fun e w' => e = .returned (.bool true) ∧ Mod (fun _ => False) w w' := by
  obtain ⟨na, nc, rfl, ncap, nmax, _⟩ := id hn
  obtain ⟨pa, pc, rfl, pcap, pmax, hcell⟩ := prc_cells hp
  unfold maxLen at pmax
  obtain ⟨wa, wc, rfl, wcap, wmax, _⟩ := id hw
  have HN := Lib.hid hn
  have HP := Lib.hid hp
  have HW := Lib.hid hw
  have HC := Lib.hid hcell
  clear hn hp hw hcell
  go_enter Try.func4, Try.ntmps4
  go_wp2_with fail
  refine (works_any _).mono ?_
  rintro e w1 ⟨rfl, hm1⟩
  by_cases hb0 : 70 < ns.length
  · have hd : decide (70 < (ns.length : Int)) = true := by simp; omega
    go_wp2_with fail
    go_ret
    exact ⟨rfl, hm1⟩
  have hd0 : decide (70 < (ns.length : Int)) = false := by simp; omega
  have HB0 := Lib.hid hb0
  clear hb0
  by_cases hb1 : 70 < ps.length
  · have hd : decide (70 < (ps.length : Int)) = true := by simp; omega
    go_wp2_with fail
    go_ret
    exact ⟨rfl, hm1⟩
  have hd1 : decide (70 < (ps.length : Int)) = false := by simp; omega
  have HB1 := Lib.hid hb1
  clear hb1
  by_cases hb2 : 70 < wh.length
  · have hd : decide (70 < (wh.length : Int)) = true := by simp; omega
    go_wp2_with fail
    go_ret
    exact ⟨rfl, hm1⟩
  have hd2 : decide (70 < (wh.length : Int)) = false := by simp; omega
  have HB2 := Lib.hid hb2
  clear hb2
  have hpl : ps.length ≤ 1000 := by have := HB1.out; omega
  go_wp2_with fail
  clear hd0 hd1 hd2
  refine (grown_any ns _ _ (HN.out.keep hm1 (fun _ _ x => x))).mono ?_
  rintro e w2 ⟨b, g, c, R, L, rfl, hm2, hT2, hR2, _, _, _⟩
  have hm02 := hm1.trans hm2
  have hG := hT2.good
  go_wp2_with fail
  refine (doomed_any b g c L ps _ t wh _ _ hT2 (HP.out.keep ecP_len hm02 (fun _ _ x => x)) (HW.out.keep (fun _ => rfl) hm02 (fun _ _ x => x)) hpl).mono ?_
  obtain ⟨D, hD⟩ : ∃ D, D = doomL L ps t wh := ⟨_, rfl⟩
  rw [← hD]
  have hDl : D.length ≤ ps.length + 1 := by
    rw [hD]; unfold doomL
    split
    · simp
    · split
      · simp
      · exact Nat.le_succ_of_le (doomK_le _ _ _)
  have HD := Lib.hid hD
  clear hD
  rintro e w3 ⟨v3, rfl, hm3, hi3⟩
  obtain ⟨a3, k3, rfl, _⟩ := id hi3
  have hm03 := hm02.trans hm3
  go_wp2_with fail
  refine (below_any b g c L t _ (hT2.keepN hm3)).mono ?_
  obtain ⟨B, hB⟩ : ∃ B, B = belowL L t := ⟨_, rfl⟩
  rw [← hB]
  rintro e w4 ⟨v4, rfl, hm4, hi4⟩
  obtain ⟨a4, k4, rfl, _⟩ := id hi4
  have hm04 := hm03.trans hm4
  have HDI := Lib.hid (hi3.keep hm4 (fun _ _ x => x))
  have HBI := Lib.hid hi4
  have HBB := Lib.hid hB
  clear hi3 hi4 hB
  go_wp2_with fail
  go_loopw [14, 15] (fun m i wr => ∃ k : Nat, k ≤ ps.length ∧ i = .int .i64 k ∧ m = .int .i64 (pickK ps B k).2 ∧ Mod (fun _ => False) w4 wr) (fun _ i _ => ps.length - (intOf i).toNat)
  case atStart => exact ⟨0, by omega, rfl, rfl, Mod.refl _ _⟩
  case round =>
    obtain ⟨k, hk, rfl, rfl, hmr⟩ := hrel
    obtain ⟨wo, rfl⟩ : ∃ wo : World, wo = wr := ⟨_, rfl⟩
    by_cases hlt : k < ps.length
    · obtain ⟨p, hpk⟩ : ∃ p, ps[k]? = some p := ⟨_, List.getElem?_eq_getElem hlt⟩
      obtain ⟨ab, aoff, rfl, f0, f1, f2⟩ := HC.out k p hpk
      have M := hm04.trans hmr
      have e0 := M.keeps f0 (fun x => x)
      have e1 := M.keeps f1 (fun x => x)
      have e2 := M.keeps f2 (fun x => x)
      have hmost := pick_most (ins := B) hpk
      have hkI : (k : Int) < ps.length := by omega
      have hkN : 0 ≤ (k : Int) := by omega
      have HM := Lib.hid hmost
      clear f0 f1 f2 hpk hmost
      cases hl : p.live with
      | false =>
        rw [hl, Bool.false_and, if_neg (by decide)] at HM
        rw [hl] at e2
        clear hl
        go_wp2_with fail
        go_roundw
        case rel => exact ⟨k + 1, by omega, by go_num, by rw [HM.out], hmr⟩
        case measure => simp [intOf]; omega
      | true =>
        rw [hl, Bool.true_and] at HM
        rw [hl] at e2
        clear hl
        go_wp2_with fail
        refine (in_any B _ p.group _ (HBI.out.keep hmr (fun _ _ x => x))).mono ?_
        cases hin : decide (p.group ∈ B) with
        | false =>
          rw [hin, if_neg (by decide)] at HM
          clear hin
          rintro e w5 ⟨rfl, rfl⟩
          go_wp2_with fail
          go_roundw
          case rel => exact ⟨k + 1, by omega, by go_num, by rw [HM.out], hmr⟩
          case measure => simp [intOf]; omega
        | true =>
          rw [hin, if_pos rfl] at HM
          clear hin
          rintro e w5 ⟨rfl, rfl⟩
          go_wp2_with fail
          go_roundw
          case rel => exact ⟨k + 1, by omega, by go_num, (by rw [HM.out]; congr 1; split <;> omega), hmr⟩
          case measure => simp [intOf]; omega
    · obtain rfl : k = ps.length := by omega
      have hmo := doom_most (wh := wh) hG (L := L) (ps := ps) (t := t)
      rw [← HD.out, ← HBB.out] at hmo
      obtain ⟨mo1, mo2⟩ := hmo
      have MO1 := Lib.hid mo1
      have MO2 := Lib.hid mo2
      clear mo1 mo2
      have hm05 := hm04.trans hmr
      have HDI2 := Lib.hid (HDI.out.keep hmr (fun _ _ x => x))
      have HBI2 := Lib.hid (HBI.out.keep hmr (fun _ _ x => x))
      have hnn := pick_nonneg ps B ps.length
      obtain ⟨S, hS⟩ : ∃ S, S = (pickK ps B ps.length).2 := ⟨_, rfl⟩
      rw [← hS] at MO1 MO2 hnn ⊢
      clear hS
      go_wp2_with fail
      go_loopw [16, 17] (fun m i wr => ∃ k : Nat, k ≤ D.length ∧ i = .int .i64 k ∧ m = .int .i64 (hasK ps D k) ∧ Mod (fun _ => False) wo wr) (fun _ i _ => D.length - (intOf i).toNat)
      case atStart => exact ⟨0, by omega, rfl, rfl, Mod.refl _ _⟩
      case round =>
        obtain ⟨k, hk, rfl, rfl, hmq⟩ := hrel
        obtain ⟨wp, rfl⟩ : ∃ wp : World, wp = wr := ⟨_, rfl⟩
        by_cases hlt2 : k < D.length
        · obtain ⟨d, hdk⟩ : ∃ d, D[k]? = some d := ⟨_, List.getElem?_eq_getElem hlt2⟩
          obtain ⟨j, p, rfl, hj, hpj, hpl2, hpg⟩ := doom_each hG (show d ∈ doomL L ps t wh by rw [← HD.out]; exact List.mem_of_getElem? hdk)
          rw [← HBB.out] at hpg
          obtain ⟨ab, aoff, rfl, f0, f1, f2⟩ := HC.out j p hpj
          obtain ⟨db, doff, rfl, g0⟩ := intsAt_get HDI2.out hdk
          have M := hm05.trans hmq
          have e0 := M.keeps f0 (fun x => x)
          have e1 := M.keeps f1 (fun x => x)
          have e2 := M.keeps f2 (fun x => x)
          rw [hpl2] at e2
          have g1 := hmq.keeps g0 (fun x => x)
          have x0 := fun x : Ext wp => x.cell e0
          have x2 := fun x : Ext wp => x.cell e2
          have xd := fun x : Ext wp => x.cell g1
          have hin : ∀ x : Ext wp, Calls Try.prog 19 #[.slice a4 B.length k4, .int .i64 p.group] x.to fun e w' => e = .returned (.bool true) ∧ x.to = w' := fun x => by
            have := in_any B _ p.group _ ((HBI2.out.keep hmq (fun _ _ x => x)).keep x.ok (fun _ _ x => x))
            rw [decide_eq_true hpg] at this
            exact this
          have hsucc := hasK_succ (ps := ps) hdk
          rw [sizeAt_at hpj] at hsucc
          have HSU := Lib.hid hsucc
          have c0 : decide ((j : Int) < 0) = false := by simp
          have c1 : decide (ps.length ≤ j) = false := by simp; omega
          have c1' : decide ((ps.length : Int) ≤ (j : Int)) = false := by simp; omega
          have hjI : (j : Int) < ps.length := by omega
          have hjN : 0 ≤ (j : Int) := by omega
          have hkI : (k : Int) < D.length := by omega
          have hkN : 0 ≤ (k : Int) := by omega
          have HDK := Lib.hid hdk
          clear f0 f1 f2 g0 hpj hpl2 hpg hsucc hdk
          have hprev : (k = 0) ∨ ∃ (q : Int), 0 < k ∧ D[k - 1]? = some q ∧ q < (j : Int) := by
            by_cases hk0 : k = 0
            · exact .inl hk0
            · right
              obtain ⟨q, hq⟩ : ∃ q, D[k - 1]? = some q := ⟨_, List.getElem?_eq_getElem (by omega)⟩
              refine ⟨q, by omega, hq, ?_⟩
              have hso := doom_sorted L ps t wh
              rw [← HD.out] at hso
              have h1 := (List.getElem?_eq_some_iff.1 hq).2
              have h2 := (List.getElem?_eq_some_iff.1 HDK.out).2
              rw [← h1, ← h2]
              exact List.pairwise_iff_getElem.1 hso (k - 1) k (by omega) (by omega) (by omega)
          rcases hprev with hk0 | ⟨q, hk0, hq, hqj⟩
          case' inl =>
            have c3 : decide (0 < k) = false := decide_eq_false (by omega)
            clear hk0
          case' inr =>
            have c3 : decide (0 < (k : Int)) = true := by simp; omega
            have c4 : decide ((j : Int) ≤ q) = false := by simp; omega
            obtain ⟨_, _, eq3, g2'⟩ := intsAt_get HDI2.out hq
            injection eq3 with eq3
            injection eq3 with eq3 eq4
            subst eq3 eq4
            have g2 := hmq.keeps g2' (fun x => x)
            have xq := fun x : Ext wp => x.cell g2
            have hk1N : 0 ≤ (k : Int) - 1 := by omega
            have hk1I : (k : Int) - 1 < D.length := by omega
            have hknat : ((k : Int) - 1).toNat = k - 1 := by omega
            clear hq hqj g2' g2
          all_goals
            clear e0 e2 g1
            go_wp2_with fail
            refine wp_region_ext_lit (by kernel_rfl) (by kernel_rfl) ?_
            repeat (go_big_quiet_step (first | (go_at_call 19; exact quiet_ext_same (hin _)) | fail))
            refine wpQuiet_nil ?_
            rintro w9 ⟨⟨w9', hm9⟩, he⟩
            obtain rfl : w9 = w9' := he
            have g3 := xd ⟨w9, hm9⟩
            have e3 := hm9.keeps e1 (fun x => x)
            clear x0 x2 xd c0 c1 c1' c3
            go_wp2_with fail
            go_roundw
            case rel => exact ⟨k + 1, by omega, by go_num, (by rw [HSU.out]; congr 1; split <;> omega), hmq.trans hm9⟩
            case measure => simp [intOf]; omega
        · obtain rfl : k = D.length := by omega
          rw [MO1.out]
          have hmo2 := MO2.out
          have t1 : (S == S) = true := by simp
          by_cases hSp : 0 < S
          · have hDp : 0 < D.length := by omega
            have d1 : decide (0 < D.length) = true := by simp; omega
            have d1' : decide (0 < (D.length : Int)) = true := by simp; omega
            have d2 : decide (0 < S) = true := by simp [hSp]
            clear hmo2 hSp hDp
            go_wp2_with fail
            go_ret
            exact ⟨rfl, hm05.trans hmq⟩
          · have hDp : D.length = 0 := by omega
            have d1 : decide (0 < D.length) = false := decide_eq_false (by omega)
            have d1' : decide (0 < (D.length : Int)) = false := decide_eq_false (by omega)
            have d2 : decide (0 < S) = false := by simp; omega
            have HDp := Lib.hid hDp
            clear hmo2 hSp hDp
            go_wp2_with fail
            go_ret
            exact ⟨rfl, hm05.trans hmq⟩

set_option linter.unusedVariables false in
set_option maxRecDepth 100000 in
theorem victimBelow_lifted (os : Os) (started : os.Started) (H : Type) (enc : TypeId × Value → H) :
    ReturnsInHanded {} Try.checked os 4 .any (Rows.victimBelowSpec.pre6 enc Try.prog Try.f4 Rows.victimBelowRow.domain false) (Rows.victimBelowSpec.post enc Try.prog Try.f4 false true false false) := by
  refine returnsInHanded_of_change (C := Try.checked) own started (by kernel_rfl) Try.func4
    (ChangeSpec.witness6 (enc := enc) (C := Try.checked) false ⟨#[], #[.slice none 0 0, .slice none 0 0, .int .i64 0, .slice none 0 0], []⟩ 8 (by kernel_rfl) (by kernel_rfl) (by kernel_rfl) (by kernel_rfl)) ?_
  intro W base args ds gs before hval0 hW hcnd _
  have hval : ∀ (j : Nat) t v, Try.f4.params[j]? = some t → args[j]? = some v → Value.okWide Try.prog W .any base t v := hval0
  have hW' := hW
  obtain ⟨p, q, hA0, hV, rfl, hfz, hnd⟩ := hW
  have hA : DataW.TrodAll enc Try.prog W 0 (fun _ => true) true Try.f4.params.toList args.toList ds p := hA0
  rw [Try.params4] at hA hval
  obtain ⟨v0, vs0, d0, ds0, p0, q0, hargs, rfl, rfl, h0, r0⟩ := trodAll_cons hA
  obtain ⟨v1, vs1, d1, ds1, p1, q1, rfl, rfl, rfl, h1, r1⟩ := trodAll_cons r0
  obtain ⟨v2, vs2, d2, ds2, p2, q2, rfl, rfl, rfl, h2, r2⟩ := trodAll_cons r1
  obtain ⟨v3, vs3, d3, ds3, p3, q3, rfl, rfl, rfl, h3, r3⟩ := trodAll_cons r2
  obtain ⟨rfl, rfl, rfl⟩ := trodAll_nil r3
  obtain rfl : args = #[v0, v1, v2, v3] := by cases args; simp_all
  obtain ⟨rfl, rfl⟩ := trodVars_none hV
  have k0 := h0
  have lt0 : ∀ x ∈ p0, x.block < W.heap.size := by obtain ⟨m, hm⟩ := k0; exact DataW.trod_lt m _ _ _ hm
  obtain ⟨x0, s0, g0⟩ := arg_slice Try.underlying22 (hval 0 22 v0 rfl rfl) dec_ints h0
  have k1 := h1
  have lt1 : ∀ x ∈ p1, x.block < W.heap.size := by obtain ⟨m, hm⟩ := k1; exact DataW.trod_lt m _ _ _ hm
  obtain ⟨x1, s1, g1⟩ := arg_slice Try.underlying23 (hval 1 23 v1 rfl rfl) dec_procs h1
  have k2 := h2
  have lt2 : ∀ x ∈ p2, x.block < W.heap.size := by obtain ⟨m, hm⟩ := k2; exact DataW.trod_lt m _ _ _ hm
  obtain ⟨x2, rfl, rfl, rfl, g2⟩ := open_int Try.underlying3 (hval 2 3 v2 rfl rfl) h2
  have k3 := h3
  have lt3 : ∀ x ∈ p3, x.block < W.heap.size := by obtain ⟨m, hm⟩ := k3; exact DataW.trod_lt m _ _ _ hm
  obtain ⟨x3, s3, g3⟩ := arg_slice Try.underlying24 (hval 3 24 v3 rfl rfl) dec_bools h3
  clear hA0 hval0
  refine (law_below x0 v0 (x1.map mkP) v1 x2 x3 v3 W s0.ints (procs_of s1) s3).mono fun e W' ⟨he, bel0⟩ => ?_
  have bel := Mod.none bel0
  subst he
  exact ⟨_, rfl, _, _, _, [], _, [], hW', trodAll_mk1 (shut_bool Try.underlying4 _), (trodAll_cons_mk (Below.trod laidOut (by kernel_rfl) (of_decide_eq_true (by kernel_rfl)) k0 bel lt0) (trodAll_cons_mk (Below.trod laidOut (by kernel_rfl) (of_decide_eq_true (by kernel_rfl)) k1 bel lt1) (trodAll_cons_mk (Below.trod laidOut (by kernel_rfl) (of_decide_eq_true (by kernel_rfl)) k2 bel lt2) (trodAll_cons_mk (Below.trod laidOut (by kernel_rfl) (of_decide_eq_true (by kernel_rfl)) k3 bel lt3) trodAll_mk0)))), rfl, bel.frame _, fun h => by cases h⟩

theorem victimBelow_holds : Rows.VictimBelowSaid :=
  OpenClaim.holds_of_wide 4 Try.f4 rfl rfl rfl rfl rfl rfl rfl ⟨rfl, rfl, rfl, rfl, rfl⟩ rfl rfl rfl rfl rfl (by kernel_rfl) Try.func4 (by kernel_rfl)
    (of_decide_eq_true (by kernel_rfl)) (by unfold Func.isWrapper; first | (rw [if_pos (by decide +kernel)]; kernel_rfl) | (rw [if_neg (by decide +kernel)]; exact ⟨rfl, rfl⟩))
    (fun os started H enc _ => victimBelow_lifted os started H enc)
#print axioms victimBelow_holds

end Go.Proofs.Ytjmcfodlhhndoaa
