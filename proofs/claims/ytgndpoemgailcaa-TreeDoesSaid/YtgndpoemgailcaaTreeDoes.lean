/-
  TreeDoes: whatever groups are made, and go, each call answers, and who is above, and below, is just what the document says: the law returns true for every input, and changes nothing that was there.
-/
import Derived.Test.YtgndpoemgailcaaTreeT
namespace Go.Proofs.Ytgndpoemgailcaa
open Go.RowKit Go.ChangeShapes Go.WideShapes Go.ChangeAt

theorem sep_trees {w : World} {b g c : Nat} {R : RP} {l l' : List Grp} (h : TreeAt w b g c l) (hr : RTreeAt w R l') : ∀ i, R.own i → i ≠ b ∧ i ≠ g := by
  rintro i (rfl | rfl | rfl)
  · exact ⟨hr.blk.ne h.blk (by decide), fun e => ownsRow_ne_blk h.row hr.blk (by decide) g rfl e.symm⟩
  · exact ⟨ownsRow_ne_blk hr.ups h.blk (by decide) _ rfl, fun e => ownsRow_ne_row hr.ups h.row (by decide) R.ub rfl (by rw [e]; rfl)⟩
  · exact ⟨ownsRow_ne_blk hr.here h.blk (by decide) _ rfl, fun e => ownsRow_ne_row hr.here h.row (by decide) R.hb rfl (by rw [e]; rfl)⟩

set_option maxRecDepth 100000 in
set_option maxHeartbeats 4000000 in
theorem law_does (l : List (Int × Bool)) (v : Value) (n : Int) (w : World) (h : RowsAt ec2 2 w v l) :
    Calls Try.prog 3 #[v, .int .i64 n] w fun e w' => e = .returned (.bool true) ∧ Mod (fun _ => False) w w' := by
  obtain ⟨va, vc, rfl, hcap, hmax, hcell⟩ := act_cells h
  unfold maxLen at hmax
  clear h
  go_enter Try.func3, Try.ntmps3
  go_wp2_with fail
  refine (works_any _).mono ?_
  rintro e w1 ⟨rfl, hm1⟩
  by_cases h100 : 100 < l.length
  · have hd : decide (100 < l.length) = true := by simp [h100]
    go_wp2_with fail
    go_ret
    exact ⟨rfl, hm1⟩
  have hd : decide (100 < l.length) = false := by simp; omega
  have hl100 : l.length ≤ 100 := by omega
  clear h100
  go_wp2_with fail
  clear hd
  refine (new_any _).mono ?_
  rintro e w2 ⟨b, g0, c0, rfl, hm2, hT2, hb2, hg2⟩
  go_wp2_with fail
  refine (refNew_any _).mono ?_
  rintro e w3 ⟨R0, rfl, hm3, hR3, hRw⟩
  have hT3 := hT2.keepN hm3
  have hs1 := hm1.size
  have hs2 := hm2.size
  have hm03 : Mod (fun _ => False) w w3 := (hm1.trans hm2).trans hm3
  have hRw0 : ∀ i, R0.own i → w.heap.size ≤ i := fun i hi => by have := hRw i hi; omega
  obtain ⟨rb, hrb⟩ : ∃ rb, rb = R0.rb := ⟨_, rfl⟩
  rw [← hrb]
  have HRB := Lib.hid hrb
  clear hrb hRw
  go_wp2_with fail
  go_loopw [8] (fun i wr => ∃ (k : Nat) (g c : Nat) (R : RP) (L : List Grp), k ≤ l.length ∧ i = .int .i64 k ∧ TreeAt wr b g c L ∧ RTreeAt wr R L ∧ Hid (rb = R.rb) ∧ w.heap.size ≤ g ∧ (∀ i, R.own i → w.heap.size ≤ i) ∧ Mod (fun _ => False) w wr) (fun i _ => l.length - (intOf i).toNat)
  case atStart => exact ⟨0, g0, c0, R0, newT, by omega, rfl, hT3, hR3, HRB, by omega, hRw0, hm03⟩
  case round =>
    obtain ⟨k, g, c, R, L, hk, rfl, hT, hR, hrb, hgw, hRo, hm⟩ := hrel
    obtain ⟨wo, rfl⟩ : ∃ wo : World, wo = wr := ⟨_, rfl⟩
    by_cases hlt : k < l.length
    · obtain ⟨a, ha⟩ : ∃ a, l[k]? = some a := ⟨_, List.getElem?_eq_getElem hlt⟩
      obtain ⟨ab, aoff, rfl, d0, d1⟩ := hcell k a ha
      have e0 := hm.keeps d0 (fun x => x)
      have e1 := hm.keeps d1 (fun x => x)
      have dl := lt_of_cell d0
      have hsep := sep_trees hT hR
      have hmsz := hm.size
      have HC := Lib.hid hcell
      have HS := Lib.hid hsep
      have HRo := Lib.hid hRo
      clear hcell d1 ha hsep hRo
      rcases Bool.eq_false_or_eq_true a.2 with hoff | hoff
      case' inl =>
        rw [hoff] at e1
        clear hoff
        obtain ⟨E, hE⟩ : ∃ E, E = remE L a.1 := ⟨_, rfl⟩
        have t0 : (E != E) = false := by simp
        go_wp2_with fail
        refine (remove_any b g c L a.1 _ hT).mono ?_
        rw [← hE]
        rintro e w4 ⟨rfl, hm4, hT4⟩
        have hR4 := hR.keep hm4 (fun i hi e => (HS.out i hi).2 e)
        have e0' := hm4.keeps e0 (by omega)
        rw [hrb.out]
        have HE := Lib.hid hE
        clear hE d0 e0
        go_wp2_with fail
        refine (refRemove_any R L a.1 _ hR4).mono ?_
        rw [← HE.out]
        rintro e w5 ⟨rfl, hm5, hR5⟩
        rw [← hrb.out]
        have hT5 := hT4.keep hm5 (fun hi => (HS.out _ hi).1 rfl) (fun hi => (HS.out _ hi).2 rfl)
        have hm05 : Mod (fun _ => False) w w5 := (hm.trans' hm4 (fun i hi h => by omega)).trans' hm5 (fun i hi h => by have := HRo.out i h; omega)
        obtain ⟨L5, hL5⟩ : ∃ L5, L5 = remS L a.1 := ⟨_, rfl⟩
        rw [← hL5] at hT5 hR5
        obtain ⟨R5, hR5e⟩ : ∃ R5, R5 = R := ⟨_, rfl⟩
        rw [← hR5e] at hR5
        have hrb5 : Hid (rb = R5.rb) := by rw [hR5e]; exact hrb
        have hRo5 : Hid (∀ i, R5.own i → w.heap.size ≤ i) := by rw [hR5e]; exact HRo
        obtain ⟨g5, hg5e⟩ : ∃ g5, g5 = g := ⟨_, rfl⟩
        rw [← hg5e] at hT5
        have hgw5 : w.heap.size ≤ g5 := by omega
        obtain ⟨c5, hc5e⟩ : ∃ c5, c5 = c := ⟨_, rfl⟩
        rw [← hc5e] at hT5
        clear hL5 hR5e hg5e hc5e e0' e1 hT4 hR4 hT hR
      case' inr =>
        rw [hoff] at e1
        clear hoff
        obtain ⟨G, hGe⟩ : ∃ G, G = addG L a.1 := ⟨_, rfl⟩
        obtain ⟨E, hE⟩ : ∃ E, E = addE L a.1 := ⟨_, rfl⟩
        have t0 : (E != E) = false := by simp
        have t1 : (G != G) = false := by simp
        go_wp2_with fail
        refine (add_any b g c L a.1 _ hT).mono ?_
        rw [← hE, ← hGe]
        rintro e w4 ⟨g5, c5, rfl, hm4, hT4, hg5⟩
        have hR4 := hR.keep hm4 (fun i hi e => by have := HS.out i hi; omega)
        have hm4s := hm4.size
        have e0' := hm4.keeps e0 (by omega)
        rw [hrb.out]
        have HE := Lib.hid hE
        have HGE := Lib.hid hGe
        clear hE hGe d0 e0
        go_wp2_with fail
        refine (refAdd_any R L a.1 _ hR4).mono ?_
        rw [← HE.out, ← HGE.out]
        rintro e w5 ⟨R5, hR5b, rfl, hm5, hR5, hR5o⟩
        rw [← hrb.out]
        have HS4 := sep_trees hT4 hR4
        have hT5 := hT4.keep hm5 (fun hi => (HS4 _ hi).1 rfl) (fun hi => (HS4 _ hi).2 rfl)
        have hm05 : Mod (fun _ => False) w w5 := (hm.trans' hm4 (fun i hi h => by omega)).trans' hm5 (fun i hi h => by have := HRo.out i h; omega)
        obtain ⟨L5, hL5⟩ : ∃ L5, L5 = addS L a.1 := ⟨_, rfl⟩
        rw [← hL5] at hT5 hR5
        have hrb5 : Hid (rb = R5.rb) := Lib.hid (hrb.out.trans hR5b.symm)
        have hRo5 : Hid (∀ i, R5.own i → w.heap.size ≤ i) := Lib.hid (fun i hi => by
          rcases hR5o i hi with h | h
          · exact HRo.out i h
          · omega)
        have hgw5 : w.heap.size ≤ g5 := by omega
        clear hL5 hR5b hR5o HS4 hg5 e0' e1 hT4 hR4 hT hR
      all_goals
        go_wp2_with fail
        rw [hrb5.out]
        obtain ⟨z0, z1⟩ := hR5.head
        have x0 := fun x : Ext w5 => x.cell z0
        have y0 : ((L5.length : Int) != (L5.length : Int)) = false := by simp
        have y1 : (liveB L5 n != liveB L5 n) = false := by simp
        have y2 : (parL L5 n != parL L5 n) = false := by simp
        have y3 : (depthL L5 n != depthL L5 n) = false := by simp
        clear z0 z1
        refine wp_region_ext_lit (by kernel_rfl) (by kernel_rfl) ?_
        repeat (go_big_quiet_step (first | (go_at_call 15; exact quiet_ext_same (len_any b g5 c5 L5 _ (hT5.keepN (Ext.ok _)))) | (go_at_call 16; exact quiet_ext_same (live_any b g5 c5 L5 n _ (hT5.keepN (Ext.ok _)))) | (go_at_call 17; exact quiet_ext_same (refLive_any R5 L5 n _ (hR5.keepN (Ext.ok _)))) | (go_at_call 18; exact quiet_ext_same (parent_any b g5 c5 L5 n _ (hT5.keepN (Ext.ok _)))) | (go_at_call 19; exact quiet_ext_same (refParent_any R5 L5 n _ (hR5.keepN (Ext.ok _)))) | (go_at_call 20; exact quiet_ext (depth_any b g5 c5 L5 n _ (hT5.keepN (Ext.ok _)))) | (go_at_call 21; exact quiet_ext (refDepth_any R5 L5 n _ (hR5.keepN (Ext.ok _))))))
        refine wpQuiet_nil ?_
        rintro w9 ⟨⟨w9', hm9⟩, he⟩
        obtain rfl : w9 = w9' := he
        rw [← hrb5.out]
        clear x0 y0 y1 y2 y3
        go_wp2_with fail
        go_roundw
        case rel => exact ⟨k + 1, g5, c5, R5, L5, by omega, by go_num, hT5.keepN hm9, hR5.keepN hm9, hrb5, hgw5, hRo5.out, hm05.trans hm9⟩
        case measure => simp [intOf]; omega
    · obtain rfl : k = l.length := by omega
      have HC := Lib.hid hcell
      have HRo := Lib.hid hRo
      clear hcell hRo
      go_wp2_with fail
      refine (chain_any b g c L n _ hT).mono ?_
      rintro e w4 ⟨v4, rfl, hm4, hi4⟩
      have hT4 := hT.keepN hm4
      have hR4 := hR.keepN hm4
      obtain ⟨a4, k4, rfl, _⟩ := id hi4
      rw [hrb.out]
      go_wp2_with fail
      refine (refChain_any R L n _ hR4).mono ?_
      rintro e w5 ⟨v5, rfl, hm5, hi5⟩
      have hT5 := hT4.keepN hm5
      have hR5 := hR4.keepN hm5
      obtain ⟨a5, k5, rfl, _⟩ := id hi5
      go_wp2_with fail
      refine (row_any _ _ _ _ (hi4.keep hm5 (fun _ _ x => x)) hi5).mono ?_
      rintro e w6 ⟨rfl, hm6⟩
      have hT6 := hT5.keepN hm6
      have hR6 := hR5.keepN hm6
      have M6 : Mod (fun _ => False) w w6 := ((hm.trans hm4).trans hm5).trans hm6
      clear hi4 hi5 hT hR hT4 hR4 hT5 hR5
      go_wp2_with fail
      refine (below_any b g c L n _ hT6).mono ?_
      rintro e w7 ⟨v7, rfl, hm7, hi7⟩
      have hT7 := hT6.keepN hm7
      have hR7 := hR6.keepN hm7
      obtain ⟨a7, k7, rfl, _⟩ := id hi7
      go_wp2_with fail
      refine (refBelow_any R L n _ hR7).mono ?_
      rintro e w8 ⟨v8, rfl, hm8, hi8⟩
      have hT8 := hT7.keepN hm8
      have hR8 := hR7.keepN hm8
      obtain ⟨a8, k8, rfl, _⟩ := id hi8
      go_wp2_with fail
      refine (row_any _ _ _ _ (hi7.keep hm8 (fun _ _ x => x)) hi8).mono ?_
      rintro e w9 ⟨rfl, hm9⟩
      have hT9 := hT8.keepN hm9
      have hR9 := hR8.keepN hm9
      have M9 : Mod (fun _ => False) w w9 := ((M6.trans hm7).trans hm8).trans hm9
      clear hi7 hi8 hT6 hR6 hT7 hR7 hT8 hR8
      go_wp2_with fail
      refine (kids_any b g c L n _ hT9).mono ?_
      rintro e w10 ⟨v10, rfl, hm10, hi10⟩
      have hT10 := hT9.keepN hm10
      have hR10 := hR9.keepN hm10
      obtain ⟨a10, k10, rfl, _⟩ := id hi10
      go_wp2_with fail
      refine (refKids_any R L n _ hR10).mono ?_
      rintro e w11 ⟨v11, rfl, hm11, hi11⟩
      have hT11 := hT10.keepN hm11
      have hR11 := hR10.keepN hm11
      obtain ⟨a11, k11, rfl, _⟩ := id hi11
      go_wp2_with fail
      refine (row_any _ _ _ _ (hi10.keep hm11 (fun _ _ x => x)) hi11).mono ?_
      rintro e w12 ⟨rfl, hm12⟩
      have hT12 := hT11.keepN hm12
      have hR12 := hR11.keepN hm12
      have M12 : Mod (fun _ => False) w w12 := ((M9.trans hm10).trans hm11).trans hm12
      clear hi10 hi11 hT9 hR9 hT10 hR10 hT11 hR11
      go_wp2_with fail
      refine (below_any b g c L 0 _ hT12).mono ?_
      rintro e w13 ⟨v13, rfl, hm13, hi13⟩
      have hT13 := hT12.keepN hm13
      have hR13 := hR12.keepN hm13
      obtain ⟨a13, k13, rfl, _⟩ := id hi13
      go_wp2_with fail
      refine (refBelow_any R L 0 _ hR13).mono ?_
      rintro e w14 ⟨v14, rfl, hm14, hi14⟩
      have hT14 := hT13.keepN hm14
      have hR14 := hR13.keepN hm14
      obtain ⟨a14, k14, rfl, _⟩ := id hi14
      go_wp2_with fail
      refine (row_any _ _ _ _ (hi13.keep hm14 (fun _ _ x => x)) hi14).mono ?_
      rintro e w15 ⟨rfl, hm15⟩
      have hT15 := hT14.keepN hm15
      have hR15 := hR14.keepN hm15
      have M15 : Mod (fun _ => False) w w15 := ((M12.trans hm13).trans hm14).trans hm15
      clear hi13 hi14 hT12 hR12 hT13 hR13 hT14 hR14
      go_wp2_with fail
      refine (kids_any b g c L 0 _ hT15).mono ?_
      rintro e w16 ⟨v16, rfl, hm16, hi16⟩
      have hT16 := hT15.keepN hm16
      have hR16 := hR15.keepN hm16
      obtain ⟨a16, k16, rfl, _⟩ := id hi16
      go_wp2_with fail
      refine (refKids_any R L 0 _ hR16).mono ?_
      rintro e w17 ⟨v17, rfl, hm17, hi17⟩
      have hT17 := hT16.keepN hm17
      have hR17 := hR16.keepN hm17
      obtain ⟨a17, k17, rfl, _⟩ := id hi17
      go_wp2_with fail
      refine (row_any _ _ _ _ (hi16.keep hm17 (fun _ _ x => x)) hi17).mono ?_
      rintro e w18 ⟨rfl, hm18⟩
      have hT18 := hT17.keepN hm18
      have hR18 := hR17.keepN hm18
      have M18 : Mod (fun _ => False) w w18 := ((M15.trans hm16).trans hm17).trans hm18
      clear hi16 hi17 hT15 hR15 hT16 hR16 hT17 hR17
      go_wp2_with fail
      go_ret
      exact ⟨rfl, M18⟩

set_option linter.unusedVariables false in
set_option maxRecDepth 100000 in
theorem treeDoes_lifted (os : Os) (started : os.Started) (H : Type) (enc : TypeId × Value → H) :
    ReturnsInHanded {} Try.checked os 3 .any (Rows.treeDoesSpec.pre6 enc Try.prog Try.f3 Rows.treeDoesRow.domain false) (Rows.treeDoesSpec.post enc Try.prog Try.f3 false true false false) := by
  refine returnsInHanded_of_change (C := Try.checked) own started (by kernel_rfl) Try.func3
    (ChangeSpec.witness6 (enc := enc) (C := Try.checked) false ⟨#[], #[.slice none 0 0, .int .i64 0], []⟩ 8 (by kernel_rfl) (by kernel_rfl) (by kernel_rfl) (by kernel_rfl)) ?_
  intro W base args ds gs before hval0 hW hcnd _
  have hval : ∀ (j : Nat) t v, Try.f3.params[j]? = some t → args[j]? = some v → Value.okWide Try.prog W .any base t v := hval0
  have hW' := hW
  obtain ⟨p, q, hA0, hV, rfl, hfz, hnd⟩ := hW
  have hA : DataW.TrodAll enc Try.prog W 0 (fun _ => true) true Try.f3.params.toList args.toList ds p := hA0
  rw [Try.params3] at hA hval
  obtain ⟨v0, vs0, d0, ds0, p0, q0, hargs, rfl, rfl, h0, r0⟩ := trodAll_cons hA
  obtain ⟨v1, vs1, d1, ds1, p1, q1, rfl, rfl, rfl, h1, r1⟩ := trodAll_cons r0
  obtain ⟨rfl, rfl, rfl⟩ := trodAll_nil r1
  obtain rfl : args = #[v0, v1] := by cases args; simp_all
  obtain ⟨rfl, rfl⟩ := trodVars_none hV
  have k0 := h0
  have lt0 : ∀ x ∈ p0, x.block < W.heap.size := by obtain ⟨m, hm⟩ := k0; exact DataW.trod_lt m _ _ _ hm
  obtain ⟨x0, s0, g0⟩ := arg_slice Try.underlying22 (hval 0 22 v0 rfl rfl) (dec_slice (ec := ec2) 2 Try.underlying22 (by kernel_rfl) ec2_len (by decide) dec_act) h0
  have k1 := h1
  have lt1 : ∀ x ∈ p1, x.block < W.heap.size := by obtain ⟨m, hm⟩ := k1; exact DataW.trod_lt m _ _ _ hm
  obtain ⟨x1, rfl, rfl, rfl, g1⟩ := open_int Try.underlying3 (hval 1 3 v1 rfl rfl) h1
  clear hA0 hval0
  refine (law_does x0 v0 x1 W s0).mono fun e W' ⟨he, bel0⟩ => ?_
  have bel := Mod.none bel0
  subst he
  exact ⟨_, rfl, _, _, _, [], _, [], hW', trodAll_mk1 (shut_bool Try.underlying4 _), (trodAll_cons_mk (Below.trod laidOut (by kernel_rfl) (of_decide_eq_true (by kernel_rfl)) k0 bel lt0) (trodAll_cons_mk (Below.trod laidOut (by kernel_rfl) (of_decide_eq_true (by kernel_rfl)) k1 bel lt1) trodAll_mk0)), rfl, bel.frame _, fun h => by cases h⟩

theorem treeDoes_holds : Rows.TreeDoesSaid :=
  OpenClaim.holds_of_wide 3 Try.f3 rfl rfl rfl rfl rfl rfl rfl ⟨rfl, rfl, rfl, rfl, rfl⟩ rfl rfl rfl rfl rfl (by kernel_rfl) Try.func3 (by kernel_rfl)
    (of_decide_eq_true (by kernel_rfl)) (by unfold Func.isWrapper; first | (rw [if_pos (by decide +kernel)]; kernel_rfl) | (rw [if_neg (by decide +kernel)]; exact ⟨rfl, rfl⟩))
    (fun os started H enc _ => treeDoes_lifted os started H enc)
#print axioms treeDoes_holds

end Go.Proofs.Ytgndpoemgailcaa
