/-
  TreeFull: there is room for 64 groups, living or not; more are refused: the law returns true for every input, and changes nothing that was there.
-/
import Derived.Test.YtgndpoemgailcaaTreeF
import Derived.Test.YtgndpoemgailcaaTreeQ
namespace Go.Proofs.Ytgndpoemgailcaa
open Go.RowKit Go.ChangeShapes Go.WideShapes Go.ChangeAt

/-- The root lives, and is no deeper than nought. -/
theorem root_facts {l : List Grp} (h : TGood l) : liveB l 0 = true ∧ depthL l 0 = 0 := by
  have hl : liveB l 0 = true := live_of (k := 0) h.root
  refine ⟨hl, ?_⟩
  unfold depthL
  rw [chain_live hl, ups_cons h (g := 0) (by decide) h.root, ups_neg (by decide)]
  rfl

theorem add_root {l : List Grp} (h : TGood l) : addE l 0 = if 64 ≤ l.length then 3 else 0 := by
  obtain ⟨h1, h2⟩ := root_facts h
  unfold addE
  rw [h1, if_pos rfl, h2, if_neg (by decide)]

theorem addS_len (l : List Grp) (p : Int) : (addS l p).length = if addE l p = 0 then l.length + 1 else l.length := by
  unfold addS
  split <;> simp
theorem remS_len (l : List Grp) (p : Int) : (remS l p).length = l.length := by
  unfold remS
  split <;> simp

set_option maxRecDepth 100000 in
set_option maxHeartbeats 4000000 in
theorem law_full (n off : Int) (w : World) :
    Calls Try.prog 7 #[.int .i64 n, .int .i64 off] w fun e w' => e = .returned (.bool true) ∧ Mod (fun _ => False) w w' := by
  go_enter Try.func7, Try.ntmps7
  go_wp2_with fail
  refine (works_any _).mono ?_
  rintro e w1 ⟨rfl, hm1⟩
  by_cases h0 : n < 0
  · have hd : decide (n < 0) = true := by simp [h0]
    go_wp2_with fail
    go_ret
    exact ⟨rfl, hm1⟩
  have hd0 : decide (n < 0) = false := by simp; omega
  by_cases h1 : 80 < n
  · have hd : decide (80 < n) = true := by simp [h1]
    go_wp2_with fail
    go_ret
    exact ⟨rfl, hm1⟩
  have hd1 : decide (80 < n) = false := by simp; omega
  by_cases h2 : off < 1
  · have hd : decide (off < 1) = true := by simp [h2]
    go_wp2_with fail
    go_ret
    exact ⟨rfl, hm1⟩
  have hd2 : decide (off < 1) = false := by simp; omega
  by_cases h3 : 9 < off
  · have hd : decide (9 < off) = true := by simp [h3]
    go_wp2_with fail
    go_ret
    exact ⟨rfl, hm1⟩
  have hd3 : decide (9 < off) = false := by simp; omega
  obtain ⟨N, rfl⟩ : ∃ N : Nat, n = N := ⟨n.toNat, by omega⟩
  have hN : N ≤ 80 := by omega
  have ho : ¬ off = 0 := by omega
  have ho0 : (off == 0) = false := by rw [beq_eq_false_iff_ne]; exact ho
  have hz1 := Lib.hid h1
  have hz2 := Lib.hid h2
  have hz3 := Lib.hid h3
  clear h0 h1 h2 h3
  go_wp2_with fail
  clear hd0 hd1 hd2 hd3
  refine (new_any _).mono ?_
  rintro e w2 ⟨b, g0, c0, rfl, hm2, hT2, hb2, hg2⟩
  have hm02 : Mod (fun _ => False) w w2 := hm1.trans hm2
  have hs1 := hm1.size
  go_wp2_with fail
  go_loopw [7] (fun i wr => ∃ (k : Nat) (g c : Nat) (L : List Grp), k ≤ N ∧ i = .int .i64 k ∧ TreeAt wr b g c L ∧ L.length = min (k + 1) 64 ∧ w.heap.size ≤ g ∧ Mod (fun _ => False) w wr) (fun i _ => N - (intOf i).toNat)
  case atStart => exact ⟨0, g0, c0, newT, by omega, rfl, hT2, rfl, by omega, hm02⟩
  case round =>
    obtain ⟨k, g, c, L, hk, rfl, hT, hLl, hgw, hm⟩ := hrel
    obtain ⟨wo, rfl⟩ : ∃ wo : World, wo = wr := ⟨_, rfl⟩
    by_cases hlt : k < N
    · have hkI : (k : Int) < (N : Int) := by omega
      have hE := add_root hT.good
      have hms := hm.size
      by_cases hful : k < 63
      · have hE0 : addE L 0 = 0 := by rw [hE, if_neg (by omega)]
        have hG0 : addG L 0 = (k : Int) + 1 := by unfold addG; rw [if_pos hE0]; omega
        have hlen := addS_len L 0
        rw [if_pos hE0] at hlen
        have hlen2 : (addS L 0).length = min (k + 1 + 1) 64 := by omega
        have HL := Lib.hid hlen2
        have HLl := Lib.hid hLl
        have d1 : decide ((k : Int) < 63) = true := by simp; omega
        have d2 : ((k : Int) + 1 != (k : Int) + 1) = false := by simp
        clear hE hlen hlen2 hLl
        go_wp2_with fail
        refine (add_any b g c L 0 _ hT).mono ?_
        rw [hE0, hG0]
        clear hE0 hG0
        rintro e w3 ⟨g3, c3, rfl, hm3, hT3, hg3⟩
        have hmm := hm.trans' hm3 (fun i hi h => by omega)
        obtain ⟨wp, rfl⟩ : ∃ wp : World, wp = w3 := ⟨_, rfl⟩
        by_cases hrem : (k : Int) % off = 0
        · have d3 : ((k : Int) % off == 0) = true := by rw [beq_iff_eq]; exact hrem
          clear hrem
          go_wp2_with fail
          refine (remove_any b g3 c3 _ _ _ hT3).mono ?_
          rintro e w4 ⟨rfl, hm4, hT4⟩
          go_wp2_with fail
          go_roundw
          case rel => exact ⟨k + 1, g3, c3, _, by omega, by go_num, hT4, (remS_len _ _).trans HL.out, by omega, hmm.trans' hm4 (fun i hi h => by omega)⟩
          case measure => simp [intOf]; omega
        · have d3 : ((k : Int) % off == 0) = false := by rw [beq_eq_false_iff_ne]; exact hrem
          clear hrem
          go_wp2_with fail
          go_roundw
          case rel => exact ⟨k + 1, g3, c3, _, by omega, by go_num, hT3, HL.out, by omega, hmm⟩
          case measure => simp [intOf]; omega
      · have hE0 : addE L 0 = 3 := by rw [hE, if_pos (by omega)]
        have hG0 : addG L 0 = -1 := by unfold addG; rw [hE0]; rfl
        have hlen := addS_len L 0
        rw [hE0, if_neg (by decide)] at hlen
        have hlen2 : (addS L 0).length = min (k + 1 + 1) 64 := by omega
        have HL := Lib.hid hlen2
        have HLl := Lib.hid hLl
        have d1 : decide ((k : Int) < 63) = false := by simp; omega
        clear hE hlen hlen2 hLl
        go_wp2_with fail
        refine (add_any b g c L 0 _ hT).mono ?_
        rw [hE0, hG0]
        clear hE0 hG0
        rintro e w3 ⟨g3, c3, rfl, hm3, hT3, hg3⟩
        have hmm := hm.trans' hm3 (fun i hi h => by omega)
        obtain ⟨wp, rfl⟩ : ∃ wp : World, wp = w3 := ⟨_, rfl⟩
        go_wp2_with fail
        go_roundw
        case rel => exact ⟨k + 1, g3, c3, _, by omega, by go_num, hT3, HL.out, by omega, hmm⟩
        case measure => simp [intOf]; omega
    · obtain rfl : k = N := by omega
      by_cases h64 : 64 < (k : Int) + 1
      case' pos =>
        have hLl' : (L.length : Int) = 64 := by omega
        have tt : decide (64 < (k : Int) + 1) = true := by simp; omega
        have t2 : ((64 : Int) == 64) = true := rfl
      case' neg =>
        have hLl' : (L.length : Int) = (k : Int) + 1 := by omega
        have tt : decide (64 < (k : Int) + 1) = false := by simp; omega
        have t2 : ((k : Int) + 1 == (k : Int) + 1) = true := by simp
      all_goals
        clear hLl
        go_wp2_with fail
        refine (len_any b g c L _ hT).mono ?_
        rw [hLl']
        clear hLl'
        rintro e w3 ⟨rfl, rfl⟩
        go_wp2_with fail
        go_ret
        exact ⟨rfl, hm⟩

set_option linter.unusedVariables false in
set_option maxRecDepth 100000 in
theorem treeFull_lifted (os : Os) (started : os.Started) (H : Type) (enc : TypeId × Value → H) :
    ReturnsInHanded {} Try.checked os 7 .any (Rows.treeFullSpec.pre6 enc Try.prog Try.f7 Rows.treeFullRow.domain false) (Rows.treeFullSpec.post enc Try.prog Try.f7 false true false false) := by
  refine returnsInHanded_of_change (C := Try.checked) own started (by kernel_rfl) Try.func7
    (ChangeSpec.witness6 (enc := enc) (C := Try.checked) false ⟨#[], #[.int .i64 0, .int .i64 0], []⟩ 8 (by kernel_rfl) (by kernel_rfl) (by kernel_rfl) (by kernel_rfl)) ?_
  intro W base args ds gs before hval0 hW hcnd _
  have hval : ∀ (j : Nat) t v, Try.f7.params[j]? = some t → args[j]? = some v → Value.okWide Try.prog W .any base t v := hval0
  have hW' := hW
  obtain ⟨p, q, hA0, hV, rfl, hfz, hnd⟩ := hW
  have hA : DataW.TrodAll enc Try.prog W 0 (fun _ => true) true Try.f7.params.toList args.toList ds p := hA0
  rw [Try.params7] at hA hval
  obtain ⟨v0, vs0, d0, ds0, p0, q0, hargs, rfl, rfl, h0, r0⟩ := trodAll_cons hA
  obtain ⟨v1, vs1, d1, ds1, p1, q1, rfl, rfl, rfl, h1, r1⟩ := trodAll_cons r0
  obtain ⟨rfl, rfl, rfl⟩ := trodAll_nil r1
  obtain rfl : args = #[v0, v1] := by cases args; simp_all
  obtain ⟨rfl, rfl⟩ := trodVars_none hV
  have k0 := h0
  have lt0 : ∀ x ∈ p0, x.block < W.heap.size := by obtain ⟨m, hm⟩ := k0; exact DataW.trod_lt m _ _ _ hm
  obtain ⟨x0, rfl, rfl, rfl, g0⟩ := open_int Try.underlying3 (hval 0 3 v0 rfl rfl) h0
  have k1 := h1
  have lt1 : ∀ x ∈ p1, x.block < W.heap.size := by obtain ⟨m, hm⟩ := k1; exact DataW.trod_lt m _ _ _ hm
  obtain ⟨x1, rfl, rfl, rfl, g1⟩ := open_int Try.underlying3 (hval 1 3 v1 rfl rfl) h1
  clear hA0 hval0
  refine (law_full x0 x1 W).mono fun e W' ⟨he, bel0⟩ => ?_
  have bel := Mod.none bel0
  subst he
  exact ⟨_, rfl, _, _, _, [], _, [], hW', trodAll_mk1 (shut_bool Try.underlying4 _), (trodAll_cons_mk (Below.trod laidOut (by kernel_rfl) (of_decide_eq_true (by kernel_rfl)) k0 bel lt0) (trodAll_cons_mk (Below.trod laidOut (by kernel_rfl) (of_decide_eq_true (by kernel_rfl)) k1 bel lt1) trodAll_mk0)), rfl, bel.frame _, fun h => by cases h⟩

theorem treeFull_holds : Rows.TreeFullSaid :=
  OpenClaim.holds_of_wide 7 Try.f7 rfl rfl rfl rfl rfl rfl rfl ⟨rfl, rfl, rfl, rfl, rfl⟩ rfl rfl rfl rfl rfl (by kernel_rfl) Try.func7 (by kernel_rfl)
    (of_decide_eq_true (by kernel_rfl)) (by unfold Func.isWrapper; first | (rw [if_pos (by decide +kernel)]; kernel_rfl) | (rw [if_neg (by decide +kernel)]; exact ⟨rfl, rfl⟩))
    (fun os started H enc _ => treeFull_lifted os started H enc)
#print axioms treeFull_holds

end Go.Proofs.Ytgndpoemgailcaa
