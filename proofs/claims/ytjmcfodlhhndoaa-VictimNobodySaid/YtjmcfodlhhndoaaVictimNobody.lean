/-
  VictimNobody: where nobody has anything below the target, nobody is killed; nor for a target that there is not: the law returns true for every input, and changes nothing that was there.
-/
import Derived.Test.YtjmcfodlhhndoaaVicG
namespace Go.Proofs.Ytjmcfodlhhndoaa
open Go.RowKit Go.ChangeShapes Go.WideShapes Go.ChangeAt

set_option maxRecDepth 100000 in
set_option maxHeartbeats 8000000 in
theorem law_nobody (ns : List Int) (nv : Value) (ps : List Prc) (pv : Value) (t : Int) (wh : List Bool) (wv : Value) (w : World) (hn : IntsAt w nv ns) (hp : RowsAt ecP 3 w pv ps) (hw : RowsAt ecB 1 w wv wh) :
    Calls Try.prog 7 #[nv, pv, .int .i64 t, wv] w fun e w' => e = .returned (.bool true) ∧ Mod (fun _ => False) w w' := by
  obtain ⟨na, nc, rfl, ncap, nmax, _⟩ := id hn
  obtain ⟨pa, pc, rfl, pcap, pmax, _⟩ := id hp
  unfold maxLen at pmax
  obtain ⟨wa, wc, rfl, wcap, wmax, _⟩ := id hw
  have HN := Lib.hid hn
  have HP := Lib.hid hp
  have HW := Lib.hid hw
  clear hn hp hw
  go_enter Try.func7, Try.ntmps7
  go_wp2_with fail
  refine (works_any _).mono ?_
  rintro e w1 ⟨rfl, hm1⟩
  by_cases hb0 : 70 < ns.length
  · have hd : decide (70 < (ns.length : Int)) = true := by simp; omega
    go_wp2_with fail
    go_ret
    exact ⟨rfl, hm1⟩
  have hd0 : decide (70 < (ns.length : Int)) = false := by simp; omega
  have HB0 := Lib.hid hb0
  clear hb0
  by_cases hb1 : 70 < ps.length
  · have hd : decide (70 < (ps.length : Int)) = true := by simp; omega
    go_wp2_with fail
    go_ret
    exact ⟨rfl, hm1⟩
  have hd1 : decide (70 < (ps.length : Int)) = false := by simp; omega
  have HB1 := Lib.hid hb1
  clear hb1
  by_cases hb2 : 70 < wh.length
  · have hd : decide (70 < (wh.length : Int)) = true := by simp; omega
    go_wp2_with fail
    go_ret
    exact ⟨rfl, hm1⟩
  have hd2 : decide (70 < (wh.length : Int)) = false := by simp; omega
  have HB2 := Lib.hid hb2
  clear hb2
  have hpl : ps.length ≤ 1000 := by have := HB1.out; omega
  go_wp2_with fail
  clear hd0 hd1 hd2
  refine (grown_any ns _ _ (HN.out.keep hm1 (fun _ _ x => x))).mono ?_
  rintro e w2 ⟨b, g, c, R, L, rfl, hm2, hT2, hR2, _, _, _⟩
  have hm02 := hm1.trans hm2
  have HROW := Lib.hid (HP.out.keep ecP_len hm02 (fun _ _ x => x))
  go_wp2_with (at_builtin; first | (refine wpList_appNew rfl _ _ 23 rfl w2.heap.size 41 _ 3 24 Try.underlying23 info_proc rfl (by decide) (by decide) rfl pa ps.length pc rfl (ps.flatMap ecP) (flat_len ecP_len ps) (news_of_rows ecP_len (by decide) HROW.out) (one_ecP ps) (by omega) (Nat.le_refl _) ?_; intro v8 w8 o8 m8))
  have hT8 := hT2.keepN m8
  have hm08 := hm02.trans m8
  refine (ownBelow_any b g c L t _ hT8).mono ?_
  obtain ⟨B, hB⟩ : ∃ B, B = belowL L t := ⟨_, rfl⟩
  rintro e w9 ⟨v9, rfl, hm9, o9'⟩
  have o9 : w9.ownsRow w8.heap.size 3 1 v9 B.length (B.map encI) := by rw [hB]; exact o9'
  have HBB := Lib.hid hB
  clear o9' hB
  have hT9 := hT8.keepN hm9
  have o8' := ownsRow_keep o8 hm9 (fun _ _ x => x)
  have l8 := ownsRow_lt o8
  have L8 := Lib.hid l8
  obtain ⟨a8, c8, rfl⟩ := ownsRow_form o8
  obtain ⟨a9, c9, rfl⟩ := ownsRow_form o9
  have hm09 := hm08.trans hm9
  have hG := hT9.good
  have hbl := hT2.blk.lt
  have hgl := hT2.glt
  have hsz8 := m8.size
  have hsz9 := hm9.size
  clear l8
  go_wp2_with fail
  go_loopw [14] (fun i wr => ∃ k : Nat, k ≤ ps.length ∧ i = .int .i64 k ∧ wr.ownsRow w2.heap.size 41 3 (.slice a8 ps.length c8) ps.length ((zeroK B ps k).flatMap ecP) ∧ wr.ownsRow w8.heap.size 3 1 (.slice a9 B.length c9) B.length (B.map encI) ∧ Mod (fun i => some i = (Value.slice a8 ps.length c8).ownBlock) w9 wr) (fun i _ => ps.length - (intOf i).toNat)
  case atStart => exact ⟨0, by omega, rfl, o8', o9, Mod.refl _ _⟩
  case round =>
    obtain ⟨k, hk, rfl, hown, hob, hmr⟩ := hrel
    obtain ⟨wo, rfl⟩ : ∃ wo : World, wo = wr := ⟨_, rfl⟩
    by_cases hlt : k < ps.length
    · obtain ⟨p, hpk⟩ : ∃ p, ps[k]? = some p := ⟨_, List.getElem?_eq_getElem hlt⟩
      obtain ⟨g8, rfl⟩ : ∃ g8, a8 = some ⟨g8, 0, none⟩ := by
        rcases id hown.2 with ⟨_, h0⟩ | ⟨g', cap, cur, hv, _⟩
        · omega
        · injection hv with e1 _ _; exact ⟨g', e1⟩
      have hzp : (zeroK B ps k)[k]? = some p := by rw [zeroK_get hlt]; exact hpk
      have hzl := zeroK_len B ps k
      have q0 := hown.cellAt (k * 3 + 0) (by omega)
      rw [flat_get ecP_len _ k 0 (by omega), hzp, Nat.add_zero] at q0
      replace q0 : wo.cell? ⟨g8, k * 3, none⟩ = some (.int .i64 p.group) := q0
      have q1 := hown.cellAt (k * 3 + 1) (by omega)
      rw [flat_get ecP_len _ k 1 (by omega), hzp] at q1
      replace q1 : wo.cell? ⟨g8, k * 3 + 1, none⟩ = some (.int .i64 p.size) := q1
      have qf := frozen_row hown (k * 3 + 1)
      have hsucc := zeroK_succ (bl := B) hpk
      have hkI : (k : Int) < ps.length := by omega
      have hkN : 0 ≤ (k : Int) := by omega
      have hiB := Lib.hid (ints_of_row hob)
      have HS := Lib.hid hsucc
      have HZ := Lib.hid hzp
      have l8 := L8.out g8 rfl
      clear hpk hzp hsucc
      go_wp2_with fail
      refine (in_any B _ p.group _ hiB.out).mono ?_
      cases hin : decide (p.group ∈ B) with
      | false =>
        have hzr : zr B p = p := by unfold zr; rw [if_neg (of_decide_eq_false hin)]
        have hnext : zeroK B ps (k + 1) = zeroK B ps k := by
          rw [HS.out, hzr]
          have h1 := (List.getElem?_eq_some_iff.1 HZ.out)
          obtain ⟨h2, h3⟩ := h1
          rw [← h3, List.set_getElem_self]
        rw [← hnext] at hown
        clear hin hzr hnext
        rintro e w10 ⟨rfl, rfl⟩
        go_wp2_with fail
        go_roundw
        case rel => exact ⟨k + 1, by omega, by go_num, hown, hob, hmr⟩
        case measure => simp [intOf]; omega
      | true =>
        have hzr : zr B p = { p with size := 0 } := by unfold zr; rw [if_pos (of_decide_eq_true hin)]
        have hput := ownsRow_put hown (k * 3 + 1) (.int .i64 0)
        rw [flat_set ecP_len (.int .i64 0) { p with size := 0 } (zeroK B ps k) k 1 p (by omega) HZ.out rfl, ← hzr, ← HS.out] at hput
        have hob2 := ownsRow_keep hob (mod_setCell wo g8 (k * 3 + 1) (.int .i64 0)) (fun x hx e => by have := ownsRow_ge hob x hx; omega)
        have hm2' : Mod (fun i => some i = (Value.slice (some ⟨g8, 0, none⟩) ps.length c8).ownBlock) wo (wo.setCell ⟨g8, k * 3 + 1, none⟩ (.int .i64 0)) := (mod_setCell _ _ _ _).mono (fun i e => by rw [e]; rfl)
        clear hin hzr
        rintro e w10 ⟨rfl, rfl⟩
        go_wp2_with fail
        go_roundw
        case rel => exact ⟨k + 1, by omega, by go_num, hput, hob2, hmr.trans hm2'⟩
        case measure => simp [intOf]; omega
    · obtain rfl : k = ps.length := by omega
      have hm010 : Mod (fun _ => False) w wo := (hm02.trans (m8.trans hm9)).trans' hmr (fun i hi e => by
        have h1 := ownsRow_ge o8 i e.symm
        have := hm02.size
        omega)
      have hT10 : TreeAt wo b g c L := hT9.keep hmr (fun e => by have := ownsRow_ge o8 b e.symm; omega) (fun e => by have := ownsRow_ge o8 g e.symm; omega)
      have hz : zeroK B ps ps.length = ps.map (zr B) := zeroK_all B ps
      rw [hz] at hown
      have r10 : RowsAt ecP 3 wo (.slice a8 ps.length c8) (ps.map (zr B)) := rows_of_owns hown (by simp)
      have hdm : doomL L (ps.map (zr B)) t wh = [] := doom_nobody (fun p hp hg => by
        obtain ⟨q, _, rfl⟩ := List.mem_map.1 hp
        rw [← HBB.out] at hg
        unfold zr at hg ⊢
        split at hg
        · rename_i h; rw [if_pos h]; simp
        · rename_i h; exact absurd hg h)
      have hb64 : belowL L 64 = [] := belowL_dead (live_out (by have := hG.le; omega))
      have hd64 : doomL L ps 64 wh = [] := doom_nobody (fun p hp hg => by rw [hb64] at hg; cases hg)
      have D1 := Lib.hid hdm
      have D2 := Lib.hid hd64
      have R10 := Lib.hid r10
      clear hz hdm hb64 hd64 hown hob o8 o9 o8' r10
      go_wp2_with fail
      refine (doomed_any b g c L (ps.map (zr B)) _ t wh _ _ hT10 R10.out (HW.out.keep (fun _ => rfl) hm010 (fun _ _ x => x)) (by rw [List.length_map]; exact hpl)).mono ?_
      rw [D1.out]
      rintro e w11 ⟨v11, rfl, hm11, hi11⟩
      obtain ⟨a11, c11, rfl, _⟩ := id hi11
      clear hi11
      have hm011 := hm010.trans hm11
      go_wp2_with fail
      refine (doomed_any b g c L ps _ 64 wh _ _ (hT10.keepN hm11) (HP.out.keep ecP_len hm011 (fun _ _ x => x)) (HW.out.keep (fun _ => rfl) hm011 (fun _ _ x => x)) hpl).mono ?_
      rw [D2.out]
      rintro e w12 ⟨v12, rfl, hm12, hi12⟩
      obtain ⟨a12, c12, rfl, _⟩ := id hi12
      clear hi12
      go_wp2_with fail
      go_ret
      exact ⟨rfl, hm011.trans hm12⟩

set_option linter.unusedVariables false in
set_option maxRecDepth 100000 in
theorem victimNobody_lifted (os : Os) (started : os.Started) (H : Type) (enc : TypeId × Value → H) :
    ReturnsInHanded {} Try.checked os 7 .any (Rows.victimNobodySpec.pre6 enc Try.prog Try.f7 Rows.victimNobodyRow.domain false) (Rows.victimNobodySpec.post enc Try.prog Try.f7 false true false false) := by
  refine returnsInHanded_of_change (C := Try.checked) own started (by kernel_rfl) Try.func7
    (ChangeSpec.witness6 (enc := enc) (C := Try.checked) false ⟨#[], #[.slice none 0 0, .slice none 0 0, .int .i64 0, .slice none 0 0], []⟩ 8 (by kernel_rfl) (by kernel_rfl) (by kernel_rfl) (by kernel_rfl)) ?_
  intro W base args ds gs before hval0 hW hcnd _
  have hval : ∀ (j : Nat) t v, Try.f7.params[j]? = some t → args[j]? = some v → Value.okWide Try.prog W .any base t v := hval0
  have hW' := hW
  obtain ⟨p, q, hA0, hV, rfl, hfz, hnd⟩ := hW
  have hA : DataW.TrodAll enc Try.prog W 0 (fun _ => true) true Try.f7.params.toList args.toList ds p := hA0
  rw [Try.params7] at hA hval
  obtain ⟨v0, vs0, d0, ds0, p0, q0, hargs, rfl, rfl, h0, r0⟩ := trodAll_cons hA
  obtain ⟨v1, vs1, d1, ds1, p1, q1, rfl, rfl, rfl, h1, r1⟩ := trodAll_cons r0
  obtain ⟨v2, vs2, d2, ds2, p2, q2, rfl, rfl, rfl, h2, r2⟩ := trodAll_cons r1
  obtain ⟨v3, vs3, d3, ds3, p3, q3, rfl, rfl, rfl, h3, r3⟩ := trodAll_cons r2
  obtain ⟨rfl, rfl, rfl⟩ := trodAll_nil r3
  obtain rfl : args = #[v0, v1, v2, v3] := by cases args; simp_all
  obtain ⟨rfl, rfl⟩ := trodVars_none hV
  have k0 := h0
  have lt0 : ∀ x ∈ p0, x.block < W.heap.size := by obtain ⟨m, hm⟩ := k0; exact DataW.trod_lt m _ _ _ hm
  obtain ⟨x0, s0, g0⟩ := arg_slice Try.underlying22 (hval 0 22 v0 rfl rfl) dec_ints h0
  have k1 := h1
  have lt1 : ∀ x ∈ p1, x.block < W.heap.size := by obtain ⟨m, hm⟩ := k1; exact DataW.trod_lt m _ _ _ hm
  obtain ⟨x1, s1, g1⟩ := arg_slice Try.underlying23 (hval 1 23 v1 rfl rfl) dec_procs h1
  have k2 := h2
  have lt2 : ∀ x ∈ p2, x.block < W.heap.size := by obtain ⟨m, hm⟩ := k2; exact DataW.trod_lt m _ _ _ hm
  obtain ⟨x2, rfl, rfl, rfl, g2⟩ := open_int Try.underlying3 (hval 2 3 v2 rfl rfl) h2
  have k3 := h3
  have lt3 : ∀ x ∈ p3, x.block < W.heap.size := by obtain ⟨m, hm⟩ := k3; exact DataW.trod_lt m _ _ _ hm
  obtain ⟨x3, s3, g3⟩ := arg_slice Try.underlying24 (hval 3 24 v3 rfl rfl) dec_bools h3
  clear hA0 hval0
  refine (law_nobody x0 v0 (x1.map mkP) v1 x2 x3 v3 W s0.ints (procs_of s1) s3).mono fun e W' ⟨he, bel0⟩ => ?_
  have bel := Mod.none bel0
  subst he
  exact ⟨_, rfl, _, _, _, [], _, [], hW', trodAll_mk1 (shut_bool Try.underlying4 _), (trodAll_cons_mk (Below.trod laidOut (by kernel_rfl) (of_decide_eq_true (by kernel_rfl)) k0 bel lt0) (trodAll_cons_mk (Below.trod laidOut (by kernel_rfl) (of_decide_eq_true (by kernel_rfl)) k1 bel lt1) (trodAll_cons_mk (Below.trod laidOut (by kernel_rfl) (of_decide_eq_true (by kernel_rfl)) k2 bel lt2) (trodAll_cons_mk (Below.trod laidOut (by kernel_rfl) (of_decide_eq_true (by kernel_rfl)) k3 bel lt3) trodAll_mk0)))), rfl, bel.frame _, fun h => by cases h⟩

theorem victimNobody_holds : Rows.VictimNobodySaid :=
  OpenClaim.holds_of_wide 7 Try.f7 rfl rfl rfl rfl rfl rfl rfl ⟨rfl, rfl, rfl, rfl, rfl⟩ rfl rfl rfl rfl rfl (by kernel_rfl) Try.func7 (by kernel_rfl)
    (of_decide_eq_true (by kernel_rfl)) (by unfold Func.isWrapper; first | (rw [if_pos (by decide +kernel)]; kernel_rfl) | (rw [if_neg (by decide +kernel)]; exact ⟨rfl, rfl⟩))
    (fun os started H enc _ => victimNobody_lifted os started H enc)
#print axioms victimNobody_holds

end Go.Proofs.Ytjmcfodlhhndoaa
