/-
  VictimPicks: who is picked, which group is killed at once, and all that are killed, is just what the document says: the law returns true for every input, and changes nothing that was there.
-/
import Derived.Test.YtjmcfodlhhndoaaVicF
namespace Go.Proofs.Ytjmcfodlhhndoaa
open Go.RowKit Go.ChangeShapes Go.WideShapes Go.ChangeAt

set_option maxRecDepth 100000 in
set_option maxHeartbeats 4000000 in
theorem law_picks (ns : List Int) (nv : Value) (ps : List Prc) (pv : Value) (t : Int) (wh : List Bool) (wv : Value) (ins : List Int) (iv : Value) (w : World) (hn : IntsAt w nv ns) (hp : RowsAt ecP 3 w pv ps) (hw : RowsAt ecB 1 w wv wh) (hi : IntsAt w iv ins) :
    Calls Try.prog 3 #[nv, pv, .int .i64 t, wv, iv] w fun e w' => e = .returned (.bool true) ∧ Mod (fun _ => False) w w' := by
  obtain ⟨na, nc, rfl, ncap, nmax, _⟩ := id hn
  obtain ⟨pa, pc, rfl, pcap, pmax, _⟩ := id hp
  obtain ⟨wa, wc, rfl, wcap, wmax, _⟩ := id hw
  obtain ⟨ia, ic, rfl, icap, imax, _⟩ := id hi
  have HN := Lib.hid hn
  have HP := Lib.hid hp
  have HW := Lib.hid hw
  have HI := Lib.hid hi
  clear hn hp hw hi
  go_enter Try.func3, Try.ntmps3
  go_wp2_with fail
  refine (works_any _).mono ?_
  rintro e w1 ⟨rfl, hm1⟩
  by_cases hb0 : 70 < ns.length
  · have hd : decide (70 < (ns.length : Int)) = true := by simp; omega
    go_wp2_with fail
    go_ret
    exact ⟨rfl, hm1⟩
  have hd0 : decide (70 < (ns.length : Int)) = false := by simp; omega
  have HB0 := Lib.hid hb0
  clear hb0
  by_cases hb1 : 70 < ps.length
  · have hd : decide (70 < (ps.length : Int)) = true := by simp; omega
    go_wp2_with fail
    go_ret
    exact ⟨rfl, hm1⟩
  have hd1 : decide (70 < (ps.length : Int)) = false := by simp; omega
  have HB1 := Lib.hid hb1
  clear hb1
  by_cases hb2 : 70 < ins.length
  · have hd : decide (70 < (ins.length : Int)) = true := by simp; omega
    go_wp2_with fail
    go_ret
    exact ⟨rfl, hm1⟩
  have hd2 : decide (70 < (ins.length : Int)) = false := by simp; omega
  have HB2 := Lib.hid hb2
  clear hb2
  by_cases hb3 : 70 < wh.length
  · have hd : decide (70 < (wh.length : Int)) = true := by simp; omega
    go_wp2_with fail
    go_ret
    exact ⟨rfl, hm1⟩
  have hd3 : decide (70 < (wh.length : Int)) = false := by simp; omega
  have HB3 := Lib.hid hb3
  clear hb3
  have hpl : ps.length ≤ 1000 := by have := HB1.out; omega
  go_wp2_with fail
  clear hd0 hd1 hd2 hd3
  refine (grown_any ns _ _ (HN.out.keep hm1 (fun _ _ x => x))).mono ?_
  rintro e w2 ⟨b, g, c, R, L, rfl, hm2, hT2, hR2, _, _, _⟩
  have hm02 := hm1.trans hm2
  go_wp2_with fail
  refine (of_any ps _ _ (HP.out.keep ecP_len hm02 (fun _ _ x => x)) hpl).mono ?_
  rintro e w3 ⟨v3, rfl, hm3, hr3⟩
  obtain ⟨a3, k3, rfl, _⟩ := id hr3
  have hT3 := hT2.keepN hm3
  have hR3 := hR2.keepN hm3
  have hm03 := hm02.trans hm3
  have HR3 := Lib.hid hr3
  clear hr3
  go_wp2_with fail
  refine (pick_any ps _ ins _ _ (HP.out.keep ecP_len hm03 (fun _ _ x => x)) (HI.out.keep hm03 (fun _ _ x => x))).mono ?_
  rintro e w4 ⟨rfl, hm4⟩
  have hm04 := hm03.trans hm4
  go_wp2_with fail
  refine (refPick_any ps _ ins _ _ (HR3.out.keep ecP_len hm4 (fun _ _ x => x)) (HI.out.keep hm04 (fun _ _ x => x))).mono ?_
  rintro e w5 ⟨rfl, hm5⟩
  have hm05 := hm04.trans hm5
  have t1 : ((pickK ps ins ps.length).1 == (pickK ps ins ps.length).1) = true := by simp
  go_wp2_with fail
  refine (whole_any ins _ t wh _ _ (HI.out.keep hm05 (fun _ _ x => x)) (HW.out.keep (fun _ => rfl) hm05 (fun _ _ x => x))).mono ?_
  rintro e w6 ⟨rfl, hm6⟩
  have hm06 := hm05.trans hm6
  go_wp2_with fail
  refine (refWhole_any ins _ t wh _ _ (HI.out.keep hm06 (fun _ _ x => x)) (HW.out.keep (fun _ => rfl) hm06 (fun _ _ x => x))).mono ?_
  rintro e w7 ⟨rfl, rfl⟩
  have t2 : (wholeL ins t wh == wholeL ins t wh) = true := by simp
  have hT6 := hT3.keepN ((hm4.trans hm5).trans hm6)
  have hR6 := hR3.keepN ((hm4.trans hm5).trans hm6)
  go_wp2_with fail
  refine (doomed_any b g c L ps _ t wh _ _ hT6 (HP.out.keep ecP_len hm06 (fun _ _ x => x)) (HW.out.keep (fun _ => rfl) hm06 (fun _ _ x => x)) hpl).mono ?_
  rintro e w7 ⟨v7, rfl, hm7, hi7⟩
  obtain ⟨a7, k7, rfl, _⟩ := id hi7
  have hm07 := hm06.trans hm7
  go_wp2_with fail
  refine (refDoomed_any R L ps _ t wh _ _ (hR6.keepN hm7) (HR3.out.keep ecP_len (((hm4.trans hm5).trans hm6).trans hm7) (fun _ _ x => x)) (HW.out.keep (fun _ => rfl) hm07 (fun _ _ x => x)) hpl).mono ?_
  rintro e w8 ⟨v8, rfl, hm8, hi8⟩
  obtain ⟨a8, k8, rfl, _⟩ := id hi8
  go_wp2_with fail
  refine (row_any _ _ _ _ (hi7.keep hm8 (fun _ _ x => x)) hi8).mono ?_
  rintro e w9 ⟨rfl, hm9⟩
  go_wp2_with fail
  go_ret
  exact ⟨rfl, (hm07.trans hm8).trans hm9⟩

set_option linter.unusedVariables false in
set_option maxRecDepth 100000 in
theorem victimPicks_lifted (os : Os) (started : os.Started) (H : Type) (enc : TypeId × Value → H) :
    ReturnsInHanded {} Try.checked os 3 .any (Rows.victimPicksSpec.pre6 enc Try.prog Try.f3 Rows.victimPicksRow.domain false) (Rows.victimPicksSpec.post enc Try.prog Try.f3 false true false false) := by
  refine returnsInHanded_of_change (C := Try.checked) own started (by kernel_rfl) Try.func3
    (ChangeSpec.witness6 (enc := enc) (C := Try.checked) false ⟨#[], #[.slice none 0 0, .slice none 0 0, .int .i64 0, .slice none 0 0, .slice none 0 0], []⟩ 8 (by kernel_rfl) (by kernel_rfl) (by kernel_rfl) (by kernel_rfl)) ?_
  intro W base args ds gs before hval0 hW hcnd _
  have hval : ∀ (j : Nat) t v, Try.f3.params[j]? = some t → args[j]? = some v → Value.okWide Try.prog W .any base t v := hval0
  have hW' := hW
  obtain ⟨p, q, hA0, hV, rfl, hfz, hnd⟩ := hW
  have hA : DataW.TrodAll enc Try.prog W 0 (fun _ => true) true Try.f3.params.toList args.toList ds p := hA0
  rw [Try.params3] at hA hval
  obtain ⟨v0, vs0, d0, ds0, p0, q0, hargs, rfl, rfl, h0, r0⟩ := trodAll_cons hA
  obtain ⟨v1, vs1, d1, ds1, p1, q1, rfl, rfl, rfl, h1, r1⟩ := trodAll_cons r0
  obtain ⟨v2, vs2, d2, ds2, p2, q2, rfl, rfl, rfl, h2, r2⟩ := trodAll_cons r1
  obtain ⟨v3, vs3, d3, ds3, p3, q3, rfl, rfl, rfl, h3, r3⟩ := trodAll_cons r2
  obtain ⟨v4, vs4, d4, ds4, p4, q4, rfl, rfl, rfl, h4, r4⟩ := trodAll_cons r3
  obtain ⟨rfl, rfl, rfl⟩ := trodAll_nil r4
  obtain rfl : args = #[v0, v1, v2, v3, v4] := by cases args; simp_all
  obtain ⟨rfl, rfl⟩ := trodVars_none hV
  have k0 := h0
  have lt0 : ∀ x ∈ p0, x.block < W.heap.size := by obtain ⟨m, hm⟩ := k0; exact DataW.trod_lt m _ _ _ hm
  obtain ⟨x0, s0, g0⟩ := arg_slice Try.underlying22 (hval 0 22 v0 rfl rfl) dec_ints h0
  have k1 := h1
  have lt1 : ∀ x ∈ p1, x.block < W.heap.size := by obtain ⟨m, hm⟩ := k1; exact DataW.trod_lt m _ _ _ hm
  obtain ⟨x1, s1, g1⟩ := arg_slice Try.underlying23 (hval 1 23 v1 rfl rfl) dec_procs h1
  have k2 := h2
  have lt2 : ∀ x ∈ p2, x.block < W.heap.size := by obtain ⟨m, hm⟩ := k2; exact DataW.trod_lt m _ _ _ hm
  obtain ⟨x2, rfl, rfl, rfl, g2⟩ := open_int Try.underlying3 (hval 2 3 v2 rfl rfl) h2
  have k3 := h3
  have lt3 : ∀ x ∈ p3, x.block < W.heap.size := by obtain ⟨m, hm⟩ := k3; exact DataW.trod_lt m _ _ _ hm
  obtain ⟨x3, s3, g3⟩ := arg_slice Try.underlying24 (hval 3 24 v3 rfl rfl) dec_bools h3
  have k4 := h4
  have lt4 : ∀ x ∈ p4, x.block < W.heap.size := by obtain ⟨m, hm⟩ := k4; exact DataW.trod_lt m _ _ _ hm
  obtain ⟨x4, s4, g4⟩ := arg_slice Try.underlying22 (hval 4 22 v4 rfl rfl) dec_ints h4
  clear hA0 hval0
  refine (law_picks x0 v0 (x1.map mkP) v1 x2 x3 v3 x4 v4 W s0.ints (procs_of s1) s3 s4.ints).mono fun e W' ⟨he, bel0⟩ => ?_
  have bel := Mod.none bel0
  subst he
  exact ⟨_, rfl, _, _, _, [], _, [], hW', trodAll_mk1 (shut_bool Try.underlying4 _), (trodAll_cons_mk (Below.trod laidOut (by kernel_rfl) (of_decide_eq_true (by kernel_rfl)) k0 bel lt0) (trodAll_cons_mk (Below.trod laidOut (by kernel_rfl) (of_decide_eq_true (by kernel_rfl)) k1 bel lt1) (trodAll_cons_mk (Below.trod laidOut (by kernel_rfl) (of_decide_eq_true (by kernel_rfl)) k2 bel lt2) (trodAll_cons_mk (Below.trod laidOut (by kernel_rfl) (of_decide_eq_true (by kernel_rfl)) k3 bel lt3) (trodAll_cons_mk (Below.trod laidOut (by kernel_rfl) (of_decide_eq_true (by kernel_rfl)) k4 bel lt4) trodAll_mk0))))), rfl, bel.frame _, fun h => by cases h⟩

theorem victimPicks_holds : Rows.VictimPicksSaid :=
  OpenClaim.holds_of_wide 3 Try.f3 rfl rfl rfl rfl rfl rfl rfl ⟨rfl, rfl, rfl, rfl, rfl⟩ rfl rfl rfl rfl rfl (by kernel_rfl) Try.func3 (by kernel_rfl)
    (of_decide_eq_true (by kernel_rfl)) (by unfold Func.isWrapper; first | (rw [if_pos (by decide +kernel)]; kernel_rfl) | (rw [if_neg (by decide +kernel)]; exact ⟨rfl, rfl⟩))
    (fun os started H enc _ => victimPicks_lifted os started H enc)
#print axioms victimPicks_holds

end Go.Proofs.Ytjmcfodlhhndoaa
