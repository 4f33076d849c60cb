/-
  Contracts: victim's Whole; millpondref16's Whole and Pick.
-/
import Derived.Test.YtjmcfodlhhndoaaVicA
namespace Go.Proofs.Ytjmcfodlhhndoaa
open Go.RowKit Go.ChangeShapes Go.WideShapes Go.ChangeAt

theorem indexL_range (ns : List Int) (n : Int) : -1 ≤ indexL ns n ∧ indexL ns n < ns.length := by
  unfold indexL
  split
  next h =>
    have := List.idxOf_lt_length_of_mem h
    omega
  next => omega

set_option maxHeartbeats 1000000 in
theorem whole1_any (g : Int) (wh : List Bool) (wv : Value) (bb : Nat) (w : World) (hb : Blk w bb #[wv] 24) (h : RowsAt ecB 1 w wv wh) :
    Calls Try.prog 28 #[.int .i64 g, .pointer (some ⟨bb, 0, none⟩)] w fun e w' => e = .returned (.bool (isW wh g)) ∧ w = w' := by
  obtain ⟨va, vc, rfl, hcap, hmax, hcell⟩ := bool_cells h
  unfold maxLen at hmax
  have c0 := hb.cell 0
  simp only [List.getElem?_toArray, List.getElem?_cons_zero] at c0
  clear h
  by_cases h0 : 0 ≤ g
  · have d0 : decide (0 ≤ g) = true := by simp [h0]
    by_cases h1 : g < wh.length
    · have d1 : decide (g < wh.length) = true := by simp [h1]
      obtain ⟨k, rfl⟩ : ∃ k : Nat, g = k := ⟨g.toNat, by omega⟩
      obtain ⟨x, hx⟩ : ∃ x, wh[k]? = some x := ⟨_, List.getElem?_eq_getElem (by omega)⟩
      obtain ⟨b, off, rfl, c1⟩ := hcell k x hx
      have e : isW wh k = x := by unfold isW; rw [d0, d1, Int.toNat_natCast, List.getD_eq_getElem?_getD, hx]; rfl
      rw [e]
      have HC := Lib.hid hcell
      clear e hx hcell
      go_enter Try.func28, Try.ntmps28
      go_wp2_with fail
      go_ret
      exact ⟨rfl, rfl⟩
    · have d1 : decide (g < wh.length) = false := by simp; omega
      have e : isW wh g = false := by unfold isW; rw [d0, d1]; rfl
      rw [e]
      clear e hcell
      go_enter Try.func28, Try.ntmps28
      go_wp2_with fail
      go_ret
      exact ⟨rfl, rfl⟩
  · have d0 : decide (0 ≤ g) = false := by simp; omega
    have e : isW wh g = false := by unfold isW; rw [d0]; rfl
    rw [e]
    clear e hcell
    go_enter Try.func28, Try.ntmps28
    go_wp2_with fail
    go_ret
    exact ⟨rfl, rfl⟩

set_option maxRecDepth 100000 in
set_option maxHeartbeats 2000000 in
theorem whole_any (cs : List Int) (cv : Value) (t : Int) (wh : List Bool) (wv : Value) (w : World) (hc : IntsAt w cv cs) (h : RowsAt ecB 1 w wv wh) :
    Calls Try.prog 13 #[cv, .int .i64 t, wv] w fun e w' => e = .returned (.int .i64 (wholeL cs t wh)) ∧ Mod (fun _ => False) w w' := by
  obtain ⟨ca, cc, rfl, hcap, hmax, _⟩ := id hc
  unfold maxLen at hmax
  obtain ⟨wa, wc, rfl, _⟩ := id h
  obtain ⟨r, hr⟩ : ∃ r, r = wholeL cs t wh := ⟨_, rfl⟩
  rw [← hr]
  obtain ⟨hi1, hi2⟩ := indexL_range cs t
  obtain ⟨E, hE⟩ : ∃ E : Nat, indexL cs t = (E : Int) - 1 := ⟨(indexL cs t + 1).toNat, by omega⟩
  have hr2 : r = wholeD cs wh E := by rw [hr]; unfold wholeL; rw [hE]; congr 1; omega
  have hEl : E ≤ cs.length := by omega
  have HR := Lib.hid hr2
  have HH := Lib.hid h
  have HCS := Lib.hid hc
  have HE := Lib.hid hE
  clear hr hr2 hE hi1 hi2
  have hc2 := hc.keep (Mod.alloc' (fun _ => False) w (.cells #[.slice wa wh.length wc] 24)) (fun _ _ x => x)
  have HC2 := Lib.hid hc2
  clear hc2 h hc
  go_enter Try.func13, Try.ntmps13
  go_wp2_with fail
  refine (index_any cs _ t _ HC2.out).mono ?_
  rw [HE.out]
  rintro e w2 ⟨rfl, rfl⟩
  have b1 := Blk.new w #[.slice wa wh.length wc] 24
  have m1 := Mod.alloc' (fun _ => False) w (.cells #[.slice wa wh.length wc] 24)
  go_wp2_with fail
  go_loopw [9] (fun i wr => ∃ k : Nat, k ≤ E ∧ i = .int .i64 ((k : Int) - 1) ∧ Hid (r = wholeD cs wh k) ∧ Mod (fun _ => False) (w.alloc (.cells #[.slice wa wh.length wc] 24)) wr) (fun i _ => (intOf i + 1).toNat)
  case atStart => exact ⟨E, Nat.le_refl _, rfl, HR, Mod.refl _ _⟩
  case round =>
    obtain ⟨k, hk, rfl, hrk, hmr⟩ := hrel
    cases k with
    | zero =>
      obtain rfl : r = -1 := hrk.out
      have d0 : decide (0 ≤ ((0 : Nat) : Int) - 1) = false := by decide
      go_wp2_with fail
      go_ret
      exact ⟨rfl, m1.trans hmr⟩
    | succ k =>
      have e1 : ((k + 1 : Nat) : Int) - 1 = k := by omega
      rw [e1]
      obtain ⟨g, hg⟩ : ∃ g, cs[k]? = some g := ⟨_, List.getElem?_eq_getElem (by omega)⟩
      obtain ⟨b, off, rfl, c0'⟩ := intsAt_get HC2.out hg
      have c0 := hmr.keeps c0' (fun x => x)
      have hs := wholeD_succ (wh := wh) hg
      have hkI : (k : Int) < cs.length := by omega
      have hkN : 0 ≤ (k : Int) := by omega
      have HSU := Lib.hid hs
      clear e1 hs hg c0'
      obtain ⟨wo, rfl⟩ : ∃ wo : World, wo = wr := ⟨_, rfl⟩
      go_wp2_with fail
      refine (whole1_any g wh _ _ _ (b1.keep hmr (fun x => x)) (HH.out.keep (fun _ => rfl) (m1.trans hmr) (fun _ _ x => x))).mono ?_
      cases hw : isW wh g with
      | true =>
        obtain rfl : r = g := by rw [hrk.out, HSU.out, hw]; rfl
        clear hw
        rintro e w3 ⟨rfl, rfl⟩
        go_wp2_with fail
        go_ret
        exact ⟨rfl, m1.trans hmr⟩
      | false =>
        have hn : r = wholeD cs wh k := by rw [hrk.out, HSU.out, hw]; rfl
        have HN := Lib.hid hn
        clear hw hn
        rintro e w3 ⟨rfl, rfl⟩
        go_wp2_with fail
        go_roundw
        case rel => exact ⟨k, by omega, by go_num, HN, hmr⟩
        case measure => simp [intOf]

set_option maxRecDepth 100000 in
set_option maxHeartbeats 2000000 in
theorem refWhole_any (cs : List Int) (cv : Value) (t : Int) (wh : List Bool) (wv : Value) (w : World) (hc : IntsAt w cv cs) (h : RowsAt ecB 1 w wv wh) :
    Calls Try.prog 14 #[cv, .int .i64 t, wv] w fun e w' => e = .returned (.int .i64 (wholeL cs t wh)) ∧ w = w' := by
  obtain ⟨ca, cc, rfl, hcap, hmax, _⟩ := id hc
  unfold maxLen at hmax
  obtain ⟨wa, wc, rfl, wcap, wmax, hcell⟩ := bool_cells h
  unfold maxLen at wmax
  obtain ⟨r, hr⟩ : ∃ r, r = wholeL cs t wh := ⟨_, rfl⟩
  rw [← hr]
  have HR := Lib.hid hr
  have HCS := Lib.hid hc
  have HC := Lib.hid hcell
  clear hr hc h hcell
  go_enter Try.func14, Try.ntmps14
  go_wp2_with fail
  go_loopw [7, 8] (fun a i wr => ∃ k : Nat, k ≤ cs.length ∧ i = .int .i64 k ∧ a = .int .i64 (wholeD cs wh k) ∧ t ∉ cs.take k ∧ w = wr) (fun _ i _ => cs.length - (intOf i).toNat)
  case atStart => exact ⟨0, by omega, rfl, rfl, by simp, rfl⟩
  case round =>
    obtain ⟨k, hk, rfl, rfl, hnt, rfl⟩ := hrel
    have HNT := Lib.hid hnt
    clear hnt
    by_cases hlt : k < cs.length
    · obtain ⟨g, hg⟩ : ∃ g, cs[k]? = some g := ⟨_, List.getElem?_eq_getElem hlt⟩
      obtain ⟨b, off, rfl, c0⟩ := intsAt_get HCS.out hg
      have hs := wholeD_succ (wh := wh) hg
      have hkI : (k : Int) < cs.length := by omega
      have hkN : 0 ≤ (k : Int) := by omega
      have HSU := Lib.hid hs
      have HG := Lib.hid hg
      clear hs hg
      have hcase : (decide (0 ≤ g) = false ∧ isW wh g = false) ∨ (decide (0 ≤ g) = true ∧ decide (g < wh.length) = false ∧ isW wh g = false) ∨ (∃ (j : Nat) (x : Bool), g = j ∧ j < wh.length ∧ wh[j]? = some x ∧ isW wh g = x) := by
        by_cases h0 : 0 ≤ g
        · by_cases h1 : g < wh.length
          · right; right
            obtain ⟨j, rfl⟩ : ∃ j : Nat, g = j := ⟨g.toNat, by omega⟩
            obtain ⟨x, hx⟩ : ∃ x, wh[j]? = some x := ⟨_, List.getElem?_eq_getElem (by omega)⟩
            refine ⟨j, x, rfl, by omega, hx, ?_⟩
            unfold isW
            rw [decide_eq_true h0, decide_eq_true h1, Int.toNat_natCast, List.getD_eq_getElem?_getD, hx]; rfl
          · right; left
            have d0 : decide (0 ≤ g) = true := by simp [h0]
            have d1 : decide (g < wh.length) = false := by simp; omega
            exact ⟨d0, d1, by unfold isW; rw [d0, d1]; rfl⟩
        · left
          have d0 : decide (0 ≤ g) = false := by simp; omega
          exact ⟨d0, by unfold isW; rw [d0]; rfl⟩
      obtain ⟨A, hA⟩ : ∃ A, A = wholeD cs wh (k + 1) := ⟨_, rfl⟩
      by_cases hgt : g = t
      · have tt : (g == t) = true := by rw [beq_iff_eq]; exact hgt
        have hfin : r = A := by
          rw [HR.out, hA]; unfold wholeL; rw [indexL_at HNT.out (by rw [HG.out, hgt])]; congr 1
        have HF := Lib.hid hfin
        clear hfin hgt
        rcases hcase with ⟨d0, hw⟩ | ⟨d0, d1, hw⟩ | ⟨j, x, rfl, hj, hx, hw⟩
        case' inr.inr =>
          obtain ⟨b2, off2, rfl, c1⟩ := HC.out j x hx
          have d0 : decide (0 ≤ (j : Int)) = true := by simp
          have d1 : decide ((j : Int) < wh.length) = true := by simp; omega
          have hjI : (j : Int) < wh.length := by omega
          clear hx
          cases x
        all_goals
          have hA' := hA
          rw [HSU.out, hw] at hA'
          simp only [if_true, Bool.false_eq_true, if_false] at hA'
          clear hw hA
          subst hA'
          go_wp2_with fail
          go_ret
          rw [HF.out]
          exact ⟨rfl, rfl⟩
      · have tt : (g == t) = false := by rw [beq_eq_false_iff_ne]; exact hgt
        have hfin : t ∉ cs.take (k + 1) := by
          rw [take_succ_get HG.out]
          simp only [List.mem_append, List.mem_singleton, not_or]
          exact ⟨HNT.out, fun e => hgt e.symm⟩
        have HF := Lib.hid hfin
        clear hfin hgt
        rcases hcase with ⟨d0, hw⟩ | ⟨d0, d1, hw⟩ | ⟨j, x, rfl, hj, hx, hw⟩
        case' inr.inr =>
          obtain ⟨b2, off2, rfl, c1⟩ := HC.out j x hx
          have d0 : decide (0 ≤ (j : Int)) = true := by simp
          have d1 : decide ((j : Int) < wh.length) = true := by simp; omega
          have hjI : (j : Int) < wh.length := by omega
          clear hx
          cases x
        all_goals
          have hA' := hA
          rw [HSU.out, hw] at hA'
          simp only [if_true, Bool.false_eq_true, if_false] at hA'
          have HA := Lib.hid hA
          clear hw hA
          subst hA'
          go_wp2_with fail
          go_roundw
          case rel => exact ⟨k + 1, by omega, by go_num, by rw [← HA.out], HF.out, trivial⟩
          case measure => simp [intOf]; omega
    · obtain rfl : k = cs.length := by omega
      have hnt := HNT.out
      rw [List.take_length] at hnt
      obtain rfl : r = -1 := by rw [HR.out]; unfold wholeL indexL; rw [if_neg hnt]; rfl
      clear hnt
      go_wp2_with fail
      go_ret
      exact ⟨rfl, rfl⟩

end Go.Proofs.Ytjmcfodlhhndoaa
