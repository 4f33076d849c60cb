/-
  VictimMore: with one more that has less, the same one is picked; with one that has more, that one: the law returns true for every input, and changes nothing that was there.
-/
import Derived.Test.YtjmcfodlhhndoaaVicG
namespace Go.Proofs.Ytjmcfodlhhndoaa
open Go.RowKit Go.ChangeShapes Go.WideShapes Go.ChangeAt

set_option maxRecDepth 100000 in
set_option maxHeartbeats 8000000 in
theorem law_more (ps : List Prc) (pv : Value) (ins : List Int) (iv : Value) (x : Prc) (w : World) (hp : RowsAt ecP 3 w pv ps) (hi : IntsAt w iv ins) :
    Calls Try.prog 6 #[pv, iv, .agg #[.int .i64 x.group, .int .i64 x.size, .bool x.live]] w fun e w' => e = .returned (.bool true) ∧ Mod (fun _ => False) w w' := by
  obtain ⟨pa, pc, rfl, pcap, pmax, hcell⟩ := prc_cells hp
  unfold maxLen at pmax
  obtain ⟨ia, ic, rfl, icap, imax, _⟩ := id hi
  have HP := Lib.hid hp
  have HI := Lib.hid hi
  have HC := Lib.hid hcell
  clear hp hi hcell
  go_enter Try.func6, Try.ntmps6
  go_wp2_with fail
  have b0 := Blk.new w #[.int .i64 x.group, .int .i64 x.size, .bool x.live] 41
  have m0 := Mod.alloc' (fun _ => False) w (.cells #[.int .i64 x.group, .int .i64 x.size, .bool x.live] 41)
  obtain ⟨w0, hw0⟩ : ∃ w0, w0 = w.alloc (.cells #[.int .i64 x.group, .int .i64 x.size, .bool x.live] 41) := ⟨_, rfl⟩
  rw [← hw0] at b0 m0 ⊢
  clear hw0
  refine (works_any _).mono ?_
  rintro e w1 ⟨rfl, hm1'⟩
  have hm1 := m0.trans hm1'
  by_cases hb0 : 70 < ps.length
  · have hd : decide (70 < (ps.length : Int)) = true := by simp; omega
    go_wp2_with fail
    go_ret
    exact ⟨rfl, hm1⟩
  have hd0 : decide (70 < (ps.length : Int)) = false := by simp; omega
  have HB0 := Lib.hid hb0
  clear hb0
  by_cases hb1 : 70 < ins.length
  · have hd : decide (70 < (ins.length : Int)) = true := by simp; omega
    go_wp2_with fail
    go_ret
    exact ⟨rfl, hm1⟩
  have hd1 : decide (70 < (ins.length : Int)) = false := by simp; omega
  have HB1 := Lib.hid hb1
  clear hb1
  have hpl : ps.length ≤ 1000 := by have := HB0.out; omega
  go_wp2_with fail
  clear hd0 hd1
  refine (pick_any ps _ ins _ _ (HP.out.keep ecP_len hm1 (fun _ _ x => x)) (HI.out.keep hm1 (fun _ _ x => x))).mono ?_
  have hok := pick_ok ps ins ps.length
  have hmore := pick_more ps x ins
  obtain ⟨s, hs⟩ : ∃ s, s = pickK ps ins ps.length := ⟨_, rfl⟩
  rw [← hs] at hok hmore ⊢
  have HM := Lib.hid hmore
  clear hs hmore
  rintro e w2 ⟨rfl, hm2⟩
  have hm02 := hm1.trans hm2
  have b2 := b0.keep (hm1'.trans hm2) (fun x => x)
  have hrow := HP.out.keep ecP_len hm02 (fun _ _ x => x)
  have HROW := Lib.hid hrow
  clear hrow
  go_wp2_with (at_builtin; first | (refine wpList_appNew rfl _ _ 23 rfl w2.heap.size 41 _ 3 24 Try.underlying23 info_proc rfl (by decide) (by decide) rfl pa ps.length pc rfl (ps.flatMap ecP) (flat_len ecP_len ps) (news_of_rows ecP_len (by decide) HROW.out) (one_ecP ps) (by omega) (Nat.le_refl _) ?_; intro v8 w8 o8 m8; have b8 := b2.keep m8 (fun x => x); have q0 := b8.cell 0; have q1 := b8.cell 1; have q2 := b8.cell 2; simp only [List.getElem?_toArray, List.getElem?_cons_zero, List.getElem?_cons_succ] at q0 q1 q2; have hz8 := m8.size) | (refine wpList_app rfl _ _ 23 rfl w2.heap.size 41 _ 3 24 Try.underlying23 info_proc rfl (by decide) (by decide) _ ps.length _ rfl (o8.alloc _) ⟨w8.heap.size, 0, none⟩ 1 [.int .i64 x.group, .int .i64 x.size, .bool x.live] rfl rfl (World.news_of_block (cs := #[.int .i64 x.group, .int .i64 x.size, .bool x.live]) (t := 41) (fr := (0, 0)) (heap_alloc_new w8 _)) (by simp [Value.oneCell']) (by omega) (by simp; omega) ?_; intro g9 c9 w9 o9 m9 hg9 hl9))
  have m9' : Mod (fun _ => False) w2 w9 := (m8.alloc _).trans' m9 (fun q hq e => by have := ownsRow_ge o8 q e.symm; omega)
  have hm09 := hm02.trans m9'
  have b9 := b2.keep m9' (fun x => x)
  have r9 : RowsAt ecP 3 w9 (.slice (some ⟨g9, 0, none⟩) (ps.length + 1) c9) (ps ++ [x]) := rows_of_owns (n := ps.length + 1) (by rw [List.flatMap_append]; exact o9) (by simp)
  clear o8 o9 m8 m9 hg9 b8 q0 q1 q2
  refine (pick_any (ps ++ [x]) _ ins _ _ r9 (HI.out.keep hm09 (fun _ _ x => x))).mono ?_
  rw [show (ps ++ [x]).length = ps.length + 1 by simp, HM.out]
  clear r9
  rintro e w10 ⟨rfl, hm10⟩
  have hm010 := hm09.trans hm10
  have b10 := b9.keep hm10 (fun x => x)
  have y0 := b10.cell 0
  have y1 := b10.cell 1
  have y2 := b10.cell 2
  simp only [List.getElem?_toArray, List.getElem?_cons_zero, List.getElem?_cons_succ] at y0 y1 y2
  have hI10 := Lib.hid (HI.out.keep hm010 (fun _ _ x => x))
  obtain ⟨bb, hbb⟩ : ∃ bb, bb = (stepP ins ps.length s x).1 := ⟨_, rfl⟩
  rw [← hbb]
  have HB := Lib.hid hbb
  clear hbb
  have hcases : (x.live = false ∧ okP ins s.2 x = false) ∨ (x.live = true ∧ decide (x.group ∈ ins) = false ∧ okP ins s.2 x = false) ∨ (x.live = true ∧ decide (x.group ∈ ins) = true ∧ ¬ s.2 < x.size ∧ okP ins s.2 x = false) ∨ (x.live = true ∧ decide (x.group ∈ ins) = true ∧ s.2 < x.size ∧ okP ins s.2 x = true) := by
    unfold okP
    cases hl : x.live with
    | false => exact .inl ⟨rfl, rfl⟩
    | true =>
      right
      by_cases hg : x.group ∈ ins
      · right
        by_cases hz : s.2 < x.size
        · right; exact ⟨rfl, by simp [hg], hz, by simp [hg, hz]⟩
        · left; exact ⟨rfl, by simp [hg], hz, by simp [hz]⟩
      · left; exact ⟨rfl, by simp [hg], by simp [hg]⟩
  have hst : (okP ins s.2 x = false → bb = s.1) ∧ (okP ins s.2 x = true → bb = ps.length) := by
    rw [HB.out]; unfold stepP
    constructor
    · intro h; rw [h]; rfl
    · intro h; rw [h]; rfl
  have HST := Lib.hid hst
  clear hst
  have hmost : (s.1 = -1 ∧ s.2 = 0) ∨ ∃ (j : Nat) (p : Prc), s.1 = j ∧ j < ps.length ∧ ps[j]? = some p ∧ p.size = s.2 := by
    rcases hok with h | ⟨j, p, h1, h2, h3, _, _, h6, _⟩
    · exact .inl h
    · exact .inr ⟨j, p, h1, h2, h3, h6⟩
  clear hok
  rcases hmost with ⟨a1, a2⟩ | ⟨j, p, a1, hj, hpj, a2⟩
  case' inl =>
    rw [a2] at hcases HST
    obtain ⟨S, hS⟩ : ∃ S : Int, S = 0 := ⟨_, rfl⟩
    rw [← hS] at hcases HST
    rw [a1] at HST ⊢
    have t0 : decide ((0 : Int) ≤ -1) = false := by decide
    obtain ⟨A, hA⟩ : ∃ A : Int, A = -1 := ⟨_, rfl⟩
    have HA := Lib.hid hA
    rw [← hA] at HST
    subst hS
    clear a1 a2 hA
  case' inr =>
    obtain ⟨ab, aoff, rfl, f0, f1, f2⟩ := HC.out j p hpj
    have k1 := hm010.keeps f1 (fun x => x)
    rw [← a2] at hcases HST
    rw [a1] at HST ⊢
    have t0 : decide (0 ≤ (j : Int)) = true := by simp
    have t0' : decide ((j : Int) < ps.length) = true := decide_eq_true (by omega)
    have t0'' : decide (j < ps.length) = true := decide_eq_true (by omega)
    have hjI : (j : Int) < ps.length := by omega
    have hjN : 0 ≤ (j : Int) := by omega
    obtain ⟨A, hA⟩ : ∃ A : Int, A = (j : Int) := ⟨_, rfl⟩
    have HA := Lib.hid hA
    rw [← hA] at HST
    clear a1 a2 f0 f1 f2 hpj hA
  all_goals
    rcases hcases with ⟨c1, hk⟩ | ⟨c1, c2, hk⟩ | ⟨c1, c2, c3, hk⟩ | ⟨c1, c2, c3, hk⟩
    · have hb := HST.out.1 hk
      rw [c1] at y2
      have t1 : (bb == A) = true := by rw [beq_iff_eq]; exact hb
      rw [HA.out] at t1
      clear hk hb c1
      go_wp2_with fail
      go_ret
      exact ⟨rfl, hm010⟩
    · have hb := HST.out.1 hk
      rw [c1] at y2
      have t1 : (bb == A) = true := by rw [beq_iff_eq]; exact hb
      rw [HA.out] at t1
      have C2 := Lib.hid c2
      clear hk hb c1 c2
      go_wp2_with fail
      refine (in_any ins _ x.group _ hI10.out).mono ?_
      rw [C2.out]
      rintro e w11 ⟨rfl, rfl⟩
      go_wp2_with fail
      go_ret
      exact ⟨rfl, hm010⟩
    · have hb := HST.out.1 hk
      rw [c1] at y2
      have t1 : (bb == A) = true := by rw [beq_iff_eq]; exact hb
      rw [HA.out] at t1
      have C2 := Lib.hid c2
      have t2 := decide_eq_false c3
      clear hk hb c1 c2 c3
      go_wp2_with fail
      refine (in_any ins _ x.group _ hI10.out).mono ?_
      rw [C2.out]
      rintro e w11 ⟨rfl, rfl⟩
      go_wp2_with fail
      go_ret
      exact ⟨rfl, hm010⟩
    · have hb := HST.out.2 hk
      rw [c1] at y2
      have t1 : (bb == (ps.length : Int)) = true := by rw [beq_iff_eq]; exact hb
      have C2 := Lib.hid c2
      have t2 := decide_eq_true c3
      clear hk hb c1 c2 c3
      go_wp2_with fail
      refine (in_any ins _ x.group _ hI10.out).mono ?_
      rw [C2.out]
      rintro e w11 ⟨rfl, rfl⟩
      go_wp2_with fail
      go_ret
      exact ⟨rfl, hm010⟩

set_option linter.unusedVariables false in
set_option maxRecDepth 100000 in
theorem victimMore_lifted (os : Os) (started : os.Started) (H : Type) (enc : TypeId × Value → H) :
    ReturnsInHanded {} Try.checked os 6 .any (Rows.victimMoreSpec.pre6 enc Try.prog Try.f6 Rows.victimMoreRow.domain false) (Rows.victimMoreSpec.post enc Try.prog Try.f6 false true false false) := by
  refine returnsInHanded_of_change (C := Try.checked) own started (by kernel_rfl) Try.func6
    (ChangeSpec.witness6 (enc := enc) (C := Try.checked) false ⟨#[], #[.slice none 0 0, .slice none 0 0, .agg #[.int .i64 0, .int .i64 0, .bool false]], []⟩ 8 (by kernel_rfl) (by kernel_rfl) (by kernel_rfl) (by kernel_rfl)) ?_
  intro W base args ds gs before hval0 hW hcnd _
  have hval : ∀ (j : Nat) t v, Try.f6.params[j]? = some t → args[j]? = some v → Value.okWide Try.prog W .any base t v := hval0
  have hW' := hW
  obtain ⟨p, q, hA0, hV, rfl, hfz, hnd⟩ := hW
  have hA : DataW.TrodAll enc Try.prog W 0 (fun _ => true) true Try.f6.params.toList args.toList ds p := hA0
  rw [Try.params6] at hA hval
  obtain ⟨v0, vs0, d0, ds0, p0, q0, hargs, rfl, rfl, h0, r0⟩ := trodAll_cons hA
  obtain ⟨v1, vs1, d1, ds1, p1, q1, rfl, rfl, rfl, h1, r1⟩ := trodAll_cons r0
  obtain ⟨v2, vs2, d2, ds2, p2, q2, rfl, rfl, rfl, h2, r2⟩ := trodAll_cons r1
  obtain ⟨rfl, rfl, rfl⟩ := trodAll_nil r2
  obtain rfl : args = #[v0, v1, v2] := by cases args; simp_all
  obtain ⟨rfl, rfl⟩ := trodVars_none hV
  have k0 := h0
  have lt0 : ∀ x ∈ p0, x.block < W.heap.size := by obtain ⟨m, hm⟩ := k0; exact DataW.trod_lt m _ _ _ hm
  obtain ⟨x0, s0, g0⟩ := arg_slice Try.underlying23 (hval 0 23 v0 rfl rfl) dec_procs h0
  have k1 := h1
  have lt1 : ∀ x ∈ p1, x.block < W.heap.size := by obtain ⟨m, hm⟩ := k1; exact DataW.trod_lt m _ _ _ hm
  obtain ⟨x1, s1, g1⟩ := arg_slice Try.underlying22 (hval 1 22 v1 rfl rfl) dec_ints h1
  have k2 := h2
  have lt2 : ∀ x ∈ p2, x.block < W.heap.size := by obtain ⟨m, hm⟩ := k2; exact DataW.trod_lt m _ _ _ hm
  obtain ⟨x2, rfl, g2⟩ := arg_struct Try.underlying41 (hval 2 41 v2 rfl rfl) dec_proc h2
  clear hA0 hval0
  refine (law_more (x0.map mkP) v0 x1 v1 (mkP x2) W (procs_of s0) s1.ints).mono fun e W' ⟨he, bel0⟩ => ?_
  have bel := Mod.none bel0
  subst he
  exact ⟨_, rfl, _, _, _, [], _, [], hW', trodAll_mk1 (shut_bool Try.underlying4 _), (trodAll_cons_mk (Below.trod laidOut (by kernel_rfl) (of_decide_eq_true (by kernel_rfl)) k0 bel lt0) (trodAll_cons_mk (Below.trod laidOut (by kernel_rfl) (of_decide_eq_true (by kernel_rfl)) k1 bel lt1) (trodAll_cons_mk (Below.trod laidOut (by kernel_rfl) (of_decide_eq_true (by kernel_rfl)) k2 bel lt2) trodAll_mk0))), rfl, bel.frame _, fun h => by cases h⟩

theorem victimMore_holds : Rows.VictimMoreSaid :=
  OpenClaim.holds_of_wide 6 Try.f6 rfl rfl rfl rfl rfl rfl rfl ⟨rfl, rfl, rfl, rfl, rfl⟩ rfl rfl rfl rfl rfl (by kernel_rfl) Try.func6 (by kernel_rfl)
    (of_decide_eq_true (by kernel_rfl)) (by unfold Func.isWrapper; first | (rw [if_pos (by decide +kernel)]; kernel_rfl) | (rw [if_neg (by decide +kernel)]; exact ⟨rfl, rfl⟩))
    (fun os started H enc _ => victimMore_lifted os started H enc)
#print axioms victimMore_holds

end Go.Proofs.Ytjmcfodlhhndoaa
