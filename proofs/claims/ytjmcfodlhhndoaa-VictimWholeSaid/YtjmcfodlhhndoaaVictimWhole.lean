/-
  VictimWhole: where a group is killed at once, all of it that live are, and where none is, one alone: the law returns true for every input, and changes nothing that was there.
-/
import Derived.Test.YtjmcfodlhhndoaaVicW
namespace Go.Proofs.Ytjmcfodlhhndoaa
open Go.RowKit Go.ChangeShapes Go.WideShapes Go.ChangeAt

set_option maxRecDepth 100000 in
set_option maxHeartbeats 8000000 in
theorem law_whole (ns : List Int) (nv : Value) (ps : List Prc) (pv : Value) (t gg : Int) (w : World) (hn : IntsAt w nv ns) (hp : RowsAt ecP 3 w pv ps) :
    Calls Try.prog 5 #[nv, pv, .int .i64 t, .int .i64 gg] w fun e w' => e = .returned (.bool true) ∧ Mod (fun _ => False) w w' := by
  obtain ⟨na, nc, rfl, ncap, nmax, _⟩ := id hn
  obtain ⟨pa, pc, rfl, pcap, pmax, hcell⟩ := prc_cells hp
  unfold maxLen at pmax
  have HN := Lib.hid hn
  have HP := Lib.hid hp
  have HC := Lib.hid hcell
  clear hn hp hcell
  obtain ⟨iB, hiB, hzB, hsB, hbB⟩ := info_parts info_bool
  have hiBh := Lib.hid hiB
  have hzBh := Lib.hid hzB
  have hsBh := Lib.hid hsB
  have hbBh := Lib.hid hbB
  clear hiB hzB hsB hbB
  go_enter Try.func5, Try.ntmps5
  go_wp2_with fail
  refine (works_any _).mono ?_
  rintro e w1 ⟨rfl, hm1⟩
  by_cases hb0 : 70 < ns.length
  · have hd : decide (70 < (ns.length : Int)) = true := by simp; omega
    go_wp2_with fail
    go_ret
    exact ⟨rfl, hm1⟩
  have hd0 : decide (70 < (ns.length : Int)) = false := by simp; omega
  have HB0 := Lib.hid hb0
  clear hb0
  by_cases hb1 : 70 < ps.length
  · have hd : decide (70 < (ps.length : Int)) = true := by simp; omega
    go_wp2_with fail
    go_ret
    exact ⟨rfl, hm1⟩
  have hd1 : decide (70 < (ps.length : Int)) = false := by simp; omega
  have HB1 := Lib.hid hb1
  clear hb1
  by_cases hb2 : gg < 0
  · have hd : decide (gg < 0) = true := by simp; omega
    go_wp2_with fail
    go_ret
    exact ⟨rfl, hm1⟩
  have hd2 : decide (gg < 0) = false := by simp; omega
  have HB2 := Lib.hid hb2
  clear hb2
  by_cases hb3 : 63 < gg
  · have hd : decide (63 < gg) = true := by simp; omega
    go_wp2_with fail
    go_ret
    exact ⟨rfl, hm1⟩
  have hd3 : decide (63 < gg) = false := by simp; omega
  have HB3 := Lib.hid hb3
  clear hb3
  have hpl : ps.length ≤ 1000 := by have := HB1.out; omega
  obtain ⟨G, rfl⟩ : ∃ G : Nat, gg = G := ⟨gg.toNat, by have := HB2.out; omega⟩
  have hG64 : G < 64 := by have := HB3.out; omega
  have hGI : (G : Int) < 64 := by omega
  have hGN : 0 ≤ (G : Int) := by omega
  go_wp2_with fail
  clear hd0 hd1 hd2 hd3
  refine (grown_any ns _ _ (HN.out.keep hm1 (fun _ _ x => x))).mono ?_
  rintro e w2 ⟨b, g, c, R, L, rfl, hm2, hT2, hR2, _, _, _⟩
  have hm02 := hm1.trans hm2
  have hG := hT2.good
  go_wp2_with fail
  refine (doomed_any b g c L ps _ t [] _ _ hT2 (HP.out.keep ecP_len hm02 (fun _ _ x => x)) (bools_nil _) hpl).mono ?_
  rw [doom_one]
  have hvc := vicL_cases (L := L) (ps := ps) (t := t)
  have hdef : doomL L ps t (oneW G) = if vicL L ps t < 0 then [] else if atOnce L ps t (oneW G) < 0 then [vicL L ps t] else doomK ps (belowL L (atOnce L ps t (oneW G))) ps.length := rfl
  rcases hvc with ⟨hneg, _⟩ | ⟨j, p, hvj, hj, hpj, hpl2, hpg⟩
  · rw [if_pos hneg] at hdef ⊢
    have HD := Lib.hid hdef
    clear hdef hneg
    rintro e w3 ⟨v3, rfl, hm3, hi3⟩
    obtain ⟨a3, k3, rfl, _⟩ := id hi3
    clear hi3
    have hm03 := hm02.trans hm3
    have hT3 := hT2.keepN hm3
    go_wp2_with (at_make; refine wpList_make_full _ rfl _ _ 24 rfl w3.heap.size 4 iB _ 1 Try.underlying24 hiBh.out hzBh.out hsBh.out .i64 .i64 64 64 64 rfl rfl rfl rfl (by rw [hbBh.out]; decide) (by unfold maxLen; omega) (Nat.le_refl _) ?_; intro w4 o4 gr4; rw [made_bools] at o4; have z0 := o4.cellAt G (by omega); rw [List.getElem?_replicate, if_pos hG64] at z0; have zf := frozen_row o4 G)
    have hm4 : Mod (fun _ => False) w3 w4 := (Mod.refl _ _).grown gr4 (fun k hk => by cases hk)
    have hput := ownsRow_put o4 G (.bool true)
    rw [one_cells] at hput
    have rW : RowsAt ecB 1 _ _ (oneW G) := rows_owns (ec := ecB) (sz := 1) (fun _ => rfl) hput (by simp [oneW])
    have hm5 : Mod (fun i => w3.heap.size ≤ i) w3 (w4.setCell ⟨w3.heap.size, G, none⟩ (.bool true)) := (hm4.mono (fun _ x => x.elim)).trans' (mod_setCell _ _ _ _) (fun i hi e => by omega)
    have hm05 : Mod (fun _ => False) w (w4.setCell ⟨w3.heap.size, G, none⟩ (.bool true)) := hm03.trans' hm5 (fun i hi h => by have := hm03.size; omega)
    have hT5 : TreeAt (w4.setCell ⟨w3.heap.size, G, none⟩ (.bool true)) b g c L := hT3.keep hm5 (by have := hT3.blk.lt; omega) (by have := hT3.glt; omega)
    refine (doomed_any b g c L ps _ t (oneW G) _ _ hT5 (HP.out.keep ecP_len hm05 (fun _ _ x => x)) rW hpl).mono ?_
    rw [HD.out]
    rintro e w6 ⟨v6, rfl, hm6, hi6⟩
    obtain ⟨a6, k6, rfl, _⟩ := id hi6
    clear hi6 z0 zf
    go_wp2_with fail
    go_ret
    exact ⟨rfl, hm05.trans hm6⟩
  · have hone : (if vicL L ps t < 0 then ([] : List Int) else [vicL L ps t]) = [(j : Int)] := by rw [hvj, if_neg (by omega)]
    rw [hone]
    have hat : atOnce L ps t (oneW G) = if (G : Int) ∈ chainL L p.group ∧ (G : Int) ∈ belowL L t then (G : Int) else -1 := by
      unfold atOnce
      rw [hvj, grpOf_at hpj]
      exact whole_one hG hG64 hpg
    rw [if_neg (show ¬ vicL L ps t < 0 by rw [hvj]; omega), hvj] at hdef
    obtain ⟨D, hD⟩ : ∃ D, D = doomL L ps t (oneW G) := ⟨_, rfl⟩
    rw [← hD] at hdef
    have HD := Lib.hid hD
    have HDEF := Lib.hid hdef
    have HAT := Lib.hid hat
    clear hdef hone hat hvj hpl2 hpg hD
    rintro e w3 ⟨v3, rfl, hm3, hi3⟩
    obtain ⟨a3, k3, rfl, _⟩ := id hi3
    obtain ⟨b3, o3, rfl, r0⟩ := intsAt_get hi3 (j := 0) rfl
    rw [Nat.add_zero] at r0
    clear hi3
    have hm03 := hm02.trans hm3
    have hT3 := hT2.keepN hm3
    go_wp2_with (at_make; refine wpList_make_full _ rfl _ _ 24 rfl w3.heap.size 4 iB _ 1 Try.underlying24 hiBh.out hzBh.out hsBh.out .i64 .i64 64 64 64 rfl rfl rfl rfl (by rw [hbBh.out]; decide) (by unfold maxLen; omega) (Nat.le_refl _) ?_; intro w4 o4 gr4; rw [made_bools] at o4; have z0 := o4.cellAt G (by omega); rw [List.getElem?_replicate, if_pos hG64] at z0; have zf := frozen_row o4 G)
    have hm4 : Mod (fun _ => False) w3 w4 := (Mod.refl _ _).grown gr4 (fun k hk => by cases hk)
    have hput := ownsRow_put o4 G (.bool true)
    rw [one_cells] at hput
    have rW : RowsAt ecB 1 _ _ (oneW G) := rows_owns (ec := ecB) (sz := 1) (fun _ => rfl) hput (by simp [oneW])
    have hm5 : Mod (fun i => w3.heap.size ≤ i) w3 (w4.setCell ⟨w3.heap.size, G, none⟩ (.bool true)) := (hm4.mono (fun _ x => x.elim)).trans' (mod_setCell _ _ _ _) (fun i hi e => by omega)
    have hm05 : Mod (fun _ => False) w (w4.setCell ⟨w3.heap.size, G, none⟩ (.bool true)) := hm03.trans' hm5 (fun i hi h => by have := hm03.size; omega)
    have hT5 : TreeAt (w4.setCell ⟨w3.heap.size, G, none⟩ (.bool true)) b g c L := hT3.keep hm5 (by have := hT3.blk.lt; omega) (by have := hT3.glt; omega)
    have r5 := hm5.keeps r0 (by have := lt_of_cell r0; omega)
    obtain ⟨w5, hw5⟩ : ∃ w5, w5 = w4.setCell ⟨w3.heap.size, G, none⟩ (.bool true) := ⟨_, rfl⟩
    rw [← hw5] at rW hm05 hT5 r5 ⊢
    clear hw5 hm5 hput o4 gr4 z0 zf hm4 r0
    refine (doomed_any b g c L ps _ t (oneW G) _ _ hT5 (HP.out.keep ecP_len hm05 (fun _ _ x => x)) rW hpl).mono ?_
    rw [← HD.out]
    rintro e w6 ⟨v6, rfl, hm6, hi6⟩
    obtain ⟨a6, k6, rfl, _⟩ := id hi6
    have hm06 := hm05.trans hm6
    have hT6 := hT5.keepN hm6
    have r6 := hm6.keeps r5 (fun x => x)
    obtain ⟨ab, aoff, rfl, f0, f1, f2⟩ := HC.out j p hpj
    have q0 := hm06.keeps f0 (fun x => x)
    have hjI : (j : Int) < ps.length := by omega
    have hjN : 0 ≤ (j : Int) := by omega
    have HI6 := Lib.hid hi6
    clear r5 f0 f1 f2 hpj hi6 rW
    go_wp2_with fail
    refine (chain_any b g c L p.group _ hT6).mono ?_
    rintro e w7 ⟨v7, rfl, hm7, hi7⟩
    obtain ⟨a7, k7, rfl, _⟩ := id hi7
    have hm07 := hm06.trans hm7
    have hT7 := hT6.keepN hm7
    have r7 := hm7.keeps r6 (fun x => x)
    have HI7 := Lib.hid (HI6.out.keep hm7 (fun _ _ x => x))
    clear q0 r6
    go_wp2_with fail
    refine (in_any _ _ (G : Int) _ hi7).mono ?_
    clear hi7
    by_cases hc : (G : Int) ∈ chainL L p.group
    · rw [decide_eq_true hc]
      rintro e w8 ⟨rfl, rfl⟩
      go_wp2_with fail
      refine (below_any b g c L t _ hT7).mono ?_
      rintro e w9 ⟨v9, rfl, hm9, hi9⟩
      obtain ⟨a9, k9, rfl, _⟩ := id hi9
      have hm09 := hm07.trans hm9
      have hT9 := hT7.keepN hm9
      have r9 := hm9.keeps r7 (fun x => x)
      have HI9 := Lib.hid (HI7.out.keep hm9 (fun _ _ x => x))
      go_wp2_with fail
      refine (in_any _ _ (G : Int) _ hi9).mono ?_
      clear hi9
      by_cases hb : (G : Int) ∈ belowL L t
      · rw [decide_eq_true hb]
        have h1 := HAT.out
        rw [if_pos ⟨hc, hb⟩] at h1
        have h2 := HDEF.out
        rw [h1, if_neg (by omega)] at h2
        have HDD := Lib.hid h2
        clear h1 h2 hc hb r7
        rintro e w10 ⟨rfl, rfl⟩
        go_wp2_with fail
        refine (below_any b g c L (G : Int) _ hT9).mono ?_
        obtain ⟨B, hB⟩ : ∃ B, B = belowL L (G : Int) := ⟨_, rfl⟩
        rw [← hB] at HDD ⊢
        clear hB
        rintro e w11 ⟨v11, rfl, hm11, hi11⟩
        obtain ⟨a11, k11, rfl, _⟩ := id hi11
        have hm011 := hm09.trans hm11
        have HI11 := Lib.hid (HI9.out.keep hm11 (fun _ _ x => x))
        have HB11 := Lib.hid hi11
        clear hi11 r9
        go_wp2_with fail
        go_loopw [17, 18] (fun m i wr => ∃ k : Nat, k ≤ ps.length ∧ i = .int .i64 k ∧ m = .int .i64 (doomK ps B k).length ∧ Mod (fun _ => False) w11 wr) (fun _ i _ => ps.length - (intOf i).toNat)
        case atStart => exact ⟨0, by omega, rfl, rfl, Mod.refl _ _⟩
        case round =>
          obtain ⟨k, hk, rfl, rfl, hmr⟩ := hrel
          obtain ⟨wo, rfl⟩ : ∃ wo : World, wo = wr := ⟨_, rfl⟩
          by_cases hlt : k < ps.length
          · obtain ⟨p2, hpk⟩ : ∃ p2, ps[k]? = some p2 := ⟨_, List.getElem?_eq_getElem hlt⟩
            obtain ⟨_, _, eq3, f0, f1, f2⟩ := HC.out k p2 hpk
            injection eq3 with eq3
            injection eq3 with eq3 eq4
            subst eq3 eq4
            have M := hm011.trans hmr
            have e0 := M.keeps f0 (fun x => x)
            have e2 := M.keeps f2 (fun x => x)
            have hsucc := doomK_len_succ (ins := B) hpk
            have hkle := doomK_le ps B k
            have hkI : (k : Int) < ps.length := by omega
            have hkN : 0 ≤ (k : Int) := by omega
            have HM := Lib.hid hsucc
            have HPK := Lib.hid hpk
            clear f0 f1 f2 hpk hsucc
            cases hl : p2.live with
            | false =>
              rw [hl, Bool.false_and, if_neg (by decide)] at HM
              rw [hl] at e2
              clear hl
              go_wp2_with fail
              go_roundw
              case rel => exact ⟨k + 1, by omega, by go_num, by rw [HM.out], hmr⟩
              case measure => simp [intOf]; omega
            | true =>
              rw [hl, Bool.true_and] at HM
              rw [hl] at e2
              have HL2 := Lib.hid hl
              clear hl
              go_wp2_with fail
              refine (in_any B _ p2.group _ (HB11.out.keep hmr (fun _ _ x => x))).mono ?_
              cases hin : decide (p2.group ∈ B) with
              | false =>
                rw [hin, if_neg (by decide)] at HM
                clear hin
                rintro e w12 ⟨rfl, rfl⟩
                go_wp2_with fail
                go_roundw
                case rel => exact ⟨k + 1, by omega, by go_num, by rw [HM.out], hmr⟩
                case measure => simp [intOf]; omega
              | true =>
                rw [hin, if_pos rfl] at HM
                have hkD : decide ((k : Int) ∈ D) = true := by
                  rw [decide_eq_true_eq, HDD.out, mem_doomK]
                  exact ⟨k, p2, rfl, hlt, HPK.out, HL2.out, of_decide_eq_true hin⟩
                have HKD := Lib.hid hkD
                clear hin hkD
                rintro e w12 ⟨rfl, rfl⟩
                go_wp2_with fail
                refine (in_any D _ (k : Int) _ (HI11.out.keep hmr (fun _ _ x => x))).mono ?_
                rw [HKD.out]
                rintro e w12 ⟨rfl, rfl⟩
                go_wp2_with fail
                go_roundw
                case rel => exact ⟨k + 1, by omega, by go_num, by rw [HM.out]; go_num, hmr⟩
                case measure => simp [intOf]; omega
          · obtain rfl : k = ps.length := by omega
            have hDl : D.length = (doomK ps B ps.length).length := by rw [HDD.out]
            rw [← hDl]
            have tt : ((D.length : Int) == (D.length : Int)) = true := by simp
            clear hDl
            go_wp2_with fail
            go_ret
            exact ⟨rfl, hm011.trans hmr⟩
      · rw [decide_eq_false hb]
        have h1 := HAT.out
        rw [if_neg (fun h => hb h.2)] at h1
        have h2 := HDEF.out
        rw [h1, if_pos (by decide)] at h2
        have hi := HI9.out
        rw [h2] at hi
        rw [h2]
        obtain ⟨b6, o6, rfl, s0⟩ := intsAt_get hi (j := 0) rfl
        rw [Nat.add_zero] at s0
        have tt : ((j : Int) == (j : Int)) = true := by simp
        clear h1 h2 hi hc hb r7
        rintro e w10 ⟨rfl, rfl⟩
        go_wp2_with fail
        go_quiet (fail)
        go_wp2_with fail
        go_ret
        exact ⟨rfl, hm09.drewN _⟩
    · rw [decide_eq_false hc]
      have h1 := HAT.out
      rw [if_neg (fun h => hc h.1)] at h1
      have h2 := HDEF.out
      rw [h1, if_pos (by decide)] at h2
      have hi := HI7.out
      rw [h2] at hi
      rw [h2]
      obtain ⟨b6, o6, rfl, s0⟩ := intsAt_get hi (j := 0) rfl
      rw [Nat.add_zero] at s0
      have tt : ((j : Int) == (j : Int)) = true := by simp
      clear h1 h2 hi hc
      rintro e w8 ⟨rfl, rfl⟩
      go_wp2_with fail
      go_quiet (fail)
      go_wp2_with fail
      go_ret
      exact ⟨rfl, hm07.drewN _⟩

set_option linter.unusedVariables false in
set_option maxRecDepth 100000 in
theorem victimWhole_lifted (os : Os) (started : os.Started) (H : Type) (enc : TypeId × Value → H) :
    ReturnsInHanded {} Try.checked os 5 .any (Rows.victimWholeSpec.pre6 enc Try.prog Try.f5 Rows.victimWholeRow.domain false) (Rows.victimWholeSpec.post enc Try.prog Try.f5 false true false false) := by
  refine returnsInHanded_of_change (C := Try.checked) own started (by kernel_rfl) Try.func5
    (ChangeSpec.witness6 (enc := enc) (C := Try.checked) false ⟨#[], #[.slice none 0 0, .slice none 0 0, .int .i64 0, .int .i64 0], []⟩ 8 (by kernel_rfl) (by kernel_rfl) (by kernel_rfl) (by kernel_rfl)) ?_
  intro W base args ds gs before hval0 hW hcnd _
  have hval : ∀ (j : Nat) t v, Try.f5.params[j]? = some t → args[j]? = some v → Value.okWide Try.prog W .any base t v := hval0
  have hW' := hW
  obtain ⟨p, q, hA0, hV, rfl, hfz, hnd⟩ := hW
  have hA : DataW.TrodAll enc Try.prog W 0 (fun _ => true) true Try.f5.params.toList args.toList ds p := hA0
  rw [Try.params5] at hA hval
  obtain ⟨v0, vs0, d0, ds0, p0, q0, hargs, rfl, rfl, h0, r0⟩ := trodAll_cons hA
  obtain ⟨v1, vs1, d1, ds1, p1, q1, rfl, rfl, rfl, h1, r1⟩ := trodAll_cons r0
  obtain ⟨v2, vs2, d2, ds2, p2, q2, rfl, rfl, rfl, h2, r2⟩ := trodAll_cons r1
  obtain ⟨v3, vs3, d3, ds3, p3, q3, rfl, rfl, rfl, h3, r3⟩ := trodAll_cons r2
  obtain ⟨rfl, rfl, rfl⟩ := trodAll_nil r3
  obtain rfl : args = #[v0, v1, v2, v3] := by cases args; simp_all
  obtain ⟨rfl, rfl⟩ := trodVars_none hV
  have k0 := h0
  have lt0 : ∀ x ∈ p0, x.block < W.heap.size := by obtain ⟨m, hm⟩ := k0; exact DataW.trod_lt m _ _ _ hm
  obtain ⟨x0, s0, g0⟩ := arg_slice Try.underlying22 (hval 0 22 v0 rfl rfl) dec_ints h0
  have k1 := h1
  have lt1 : ∀ x ∈ p1, x.block < W.heap.size := by obtain ⟨m, hm⟩ := k1; exact DataW.trod_lt m _ _ _ hm
  obtain ⟨x1, s1, g1⟩ := arg_slice Try.underlying23 (hval 1 23 v1 rfl rfl) dec_procs h1
  have k2 := h2
  have lt2 : ∀ x ∈ p2, x.block < W.heap.size := by obtain ⟨m, hm⟩ := k2; exact DataW.trod_lt m _ _ _ hm
  obtain ⟨x2, rfl, rfl, rfl, g2⟩ := open_int Try.underlying3 (hval 2 3 v2 rfl rfl) h2
  have k3 := h3
  have lt3 : ∀ x ∈ p3, x.block < W.heap.size := by obtain ⟨m, hm⟩ := k3; exact DataW.trod_lt m _ _ _ hm
  obtain ⟨x3, rfl, rfl, rfl, g3⟩ := open_int Try.underlying3 (hval 3 3 v3 rfl rfl) h3
  clear hA0 hval0
  refine (law_whole x0 v0 (x1.map mkP) v1 x2 x3 W s0.ints (procs_of s1)).mono fun e W' ⟨he, bel0⟩ => ?_
  have bel := Mod.none bel0
  subst he
  exact ⟨_, rfl, _, _, _, [], _, [], hW', trodAll_mk1 (shut_bool Try.underlying4 _), (trodAll_cons_mk (Below.trod laidOut (by kernel_rfl) (of_decide_eq_true (by kernel_rfl)) k0 bel lt0) (trodAll_cons_mk (Below.trod laidOut (by kernel_rfl) (of_decide_eq_true (by kernel_rfl)) k1 bel lt1) (trodAll_cons_mk (Below.trod laidOut (by kernel_rfl) (of_decide_eq_true (by kernel_rfl)) k2 bel lt2) (trodAll_cons_mk (Below.trod laidOut (by kernel_rfl) (of_decide_eq_true (by kernel_rfl)) k3 bel lt3) trodAll_mk0)))), rfl, bel.frame _, fun h => by cases h⟩

theorem victimWhole_holds : Rows.VictimWholeSaid :=
  OpenClaim.holds_of_wide 5 Try.f5 rfl rfl rfl rfl rfl rfl rfl ⟨rfl, rfl, rfl, rfl, rfl⟩ rfl rfl rfl rfl rfl (by kernel_rfl) Try.func5 (by kernel_rfl)
    (of_decide_eq_true (by kernel_rfl)) (by unfold Func.isWrapper; first | (rw [if_pos (by decide +kernel)]; kernel_rfl) | (rw [if_neg (by decide +kernel)]; exact ⟨rfl, rfl⟩))
    (fun os started H enc _ => victimWhole_lifted os started H enc)
#print axioms victimWhole_holds

end Go.Proofs.Ytjmcfodlhhndoaa
