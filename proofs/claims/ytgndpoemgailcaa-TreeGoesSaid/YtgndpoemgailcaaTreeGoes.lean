/-
  TreeGoes: who goes lives no more, and no other one does so by that; a number is handed out once: the law returns true for every input, and changes nothing that was there.
-/
import Derived.Test.YtgndpoemgailcaaTreeF
import Derived.Test.YtgndpoemgailcaaTreeQ
namespace Go.Proofs.Ytgndpoemgailcaa
open Go.RowKit Go.ChangeShapes Go.WideShapes Go.ChangeAt

theorem addS_len (l : List Grp) (p : Int) : (addS l p).length = if addE l p = 0 then l.length + 1 else l.length := by
  unfold addS
  split <;> simp
theorem remS_len (l : List Grp) (p : Int) : (remS l p).length = l.length := by
  unfold remS
  split <;> simp

set_option maxRecDepth 100000 in
set_option maxHeartbeats 4000000 in
theorem law_goes (l : List (Int × Bool)) (v : Value) (n x : Int) (w : World) (h : RowsAt ec2 2 w v l) :
    Calls Try.prog 5 #[v, .int .i64 n, .int .i64 x] w fun e w' => e = .returned (.bool true) ∧ Mod (fun _ => False) w w' := by
  obtain ⟨va, vc, rfl, hcap, hmax, hcell⟩ := act_cells h
  unfold maxLen at hmax
  clear h
  go_enter Try.func5, Try.ntmps5
  go_wp2_with fail
  refine (works_any _).mono ?_
  rintro e w1 ⟨rfl, hm1⟩
  by_cases h100 : 100 < l.length
  · have hd : decide (100 < l.length) = true := by simp [h100]
    go_wp2_with fail
    go_ret
    exact ⟨rfl, hm1⟩
  have hd : decide (100 < l.length) = false := by simp; omega
  have hl100 : l.length ≤ 100 := by omega
  clear h100
  go_wp2_with fail
  clear hd
  refine (new_any _).mono ?_
  rintro e w2 ⟨b, g0, c0, rfl, hm2, hT2, hb2, hg2⟩
  have hm02 : Mod (fun _ => False) w w2 := hm1.trans hm2
  have hs1 := hm1.size
  go_wp2_with fail
  go_loopw [9, 10] (fun la i wr => ∃ (k m : Nat) (g c : Nat) (L : List Grp), k ≤ l.length ∧ i = .int .i64 k ∧ la = .int .i64 m ∧ L.length = m + 1 ∧ TreeAt wr b g c L ∧ w.heap.size ≤ g ∧ Mod (fun _ => False) w wr) (fun _ i _ => l.length - (intOf i).toNat)
  case atStart => exact ⟨0, 0, g0, c0, newT, by omega, rfl, rfl, rfl, hT2, by omega, hm02⟩
  case round =>
    obtain ⟨k, m, g, c, L, hk, rfl, rfl, hLm, hT, hgw, hm⟩ := hrel
    have hm64 : m ≤ 63 := by have := hT.good.le; omega
    have HLm := Lib.hid hLm
    clear hLm
    by_cases hlt : k < l.length
    · obtain ⟨a, ha⟩ : ∃ a, l[k]? = some a := ⟨_, List.getElem?_eq_getElem hlt⟩
      obtain ⟨ab, aoff, rfl, d0, d1⟩ := hcell k a ha
      have e0 := hm.keeps d0 (fun x => x)
      have e1 := hm.keeps d1 (fun x => x)
      have HC := Lib.hid hcell
      clear hcell d0 d1 ha
      obtain ⟨wo, rfl⟩ : ∃ wo : World, wo = wr := ⟨_, rfl⟩
      cases hoff : a.2 with
      | true =>
        rw [hoff] at e1
        clear hoff
        go_wp2_with fail
        refine (remove_any b g c L a.1 _ hT).mono ?_
        rintro e w3 ⟨rfl, hm3, hT3⟩
        go_wp2_with fail
        go_roundw
        case rel => exact ⟨k + 1, m, g, c, _, by omega, by go_num, rfl, (remS_len _ _).trans HLm.out, hT3, hgw, hm.trans' hm3 (fun i hi h => by omega)⟩
        case measure => simp [intOf]; omega
      | false =>
        rw [hoff] at e1
        clear hoff
        have hms := hm.size
        have hlen := addS_len L a.1
        have hG0 : addG L a.1 = if addE L a.1 = 0 then (L.length : Int) else -1 := rfl
        go_wp2_with fail
        refine (add_any b g c L a.1 _ hT).mono ?_
        by_cases hE : addE L a.1 = 0
        · rw [if_pos hE] at hlen hG0
          rw [hE, hG0]
          rw [HLm.out] at hlen ⊢
          have HL := Lib.hid hlen
          clear hlen hG0 hE
          rintro e w3 ⟨g3, c3, rfl, hm3, hT3, hg3⟩
          rw [Int.natCast_add, Int.natCast_one]
          have t1 : ((m : Int) + 1 != (m : Int) + 1) = false := by simp
          go_wp2_with fail
          go_roundw
          case rel => exact ⟨k + 1, m + 1, g3, c3, _, by omega, by go_num, by go_num, HL.out, hT3, by omega, hm.trans' hm3 (fun i hi h => by omega)⟩
          case measure => simp [intOf]; omega
        · rw [if_neg hE] at hlen hG0
          rw [HLm.out] at hlen
          have HL := Lib.hid hlen
          have t1 : (addE L a.1 == 0) = false := by rw [beq_eq_false_iff_ne]; exact hE
          clear hlen hG0 hE
          rintro e w3 ⟨g3, c3, rfl, hm3, hT3, hg3⟩
          go_wp2_with fail
          go_roundw
          case rel => exact ⟨k + 1, m, g3, c3, _, by omega, by go_num, rfl, HL.out, hT3, by omega, hm.trans' hm3 (fun i hi h => by omega)⟩
          case measure => simp [intOf]; omega
    · obtain rfl : k = l.length := by omega
      obtain ⟨wo, rfl⟩ : ∃ wo : World, wo = wr := ⟨_, rfl⟩
      have HC := Lib.hid hcell
      clear hcell
      have hG := hT.good
      have hkl := kids_len_le hG n
      obtain ⟨bw, hbw⟩ : ∃ bw, bw = liveB L x := ⟨_, rfl⟩
      obtain ⟨bh, hbh⟩ : ∃ bh, bh = liveB L n := ⟨_, rfl⟩
      have HBW := Lib.hid hbw
      have HBH := Lib.hid hbh
      clear hbw hbh
      go_wp2_with fail
      refine (live_any b g c L x _ hT).mono ?_
      rw [← HBW.out]
      rintro e w3 ⟨rfl, rfl⟩
      go_wp2_with fail
      refine (live_any b g c L n _ hT).mono ?_
      rw [← HBH.out]
      rintro e w3 ⟨rfl, rfl⟩
      go_wp2_with fail
      refine (kids_any b g c L n _ hT).mono ?_
      rintro e w3 ⟨v3, rfl, hm3, hi3⟩
      obtain ⟨a3, k3, rfl, _⟩ := id hi3
      have hT3 := hT.keepN hm3
      go_wp2_with fail
      refine (remove_any b g c L n _ hT3).mono ?_
      have tw : (bw == bw) = true := by simp
      have th : (bh == bh) = true := by simp
      rcases remE_cases L n with ⟨hE, hS⟩ | ⟨k, y, rfl, hk0, hkl', hy, hyl, hkids, hE, hS⟩
      · rw [hS]
        clear hS
        have t1 : (remE L n == 0) = false := by rw [beq_eq_false_iff_ne]; exact hE
        have t2 : (remE L n != 0) = true := by rw [bne_iff_ne]; exact hE
        have hor : bh = false ∨ bh = true ∧ n = 0 ∨ bh = true ∧ n ≠ 0 ∧ (kidsL L n).length ≠ 0 := by
          cases bh with
          | false => exact .inl rfl
          | true =>
            right
            by_cases hn : n = 0
            · exact .inl ⟨rfl, hn⟩
            · refine .inr ⟨rfl, hn, fun hk => hE ?_⟩
              unfold remE
              rw [if_neg hn, ← HBH.out, if_pos rfl, if_pos hk]
        clear hE
        rcases hor with rfl | ⟨rfl, rfl⟩ | ⟨rfl, hn, hk⟩
        case' inr.inr =>
          have t3 : (n != 0) = true := by rw [bne_iff_ne]; exact hn
          have t4 : (((kidsL L n).length : Int) == 0) = false := by rw [beq_eq_false_iff_ne]; omega
          have hkz := Lib.hid hk
          clear hn hk
        all_goals
          rintro e w4 ⟨rfl, hm4, hT4⟩
          go_wp2_with fail
          refine (live_any b g c L _ _ hT4).mono ?_
          rw [← HBH.out]
          rintro e w5 ⟨rfl, rfl⟩
          go_wp2_with fail
          refine (live_any b g c L x _ hT4).mono ?_
          rw [← HBW.out]
          rintro e w5 ⟨rfl, rfl⟩
          go_wp2_with fail
          go_ret
          exact ⟨rfl, (hm.trans hm3).trans' hm4 (fun i hi h => by omega)⟩
      · rw [hE, hS]
        have hbt : bh = true := by rw [HBH.out, live_of hy]; exact hyl
        subst hbt
        have t3 : ((k : Int) != 0) = true := by rw [bne_iff_ne]; omega
        have t4 : (kidsL L (k : Int)).length = 0 := by rw [hkids]; rfl
        rw [t4]
        have hlv := live_set k false y hy
        have hln : (L.set k ⟨y.up, false⟩).length = m + 1 := by rw [List.length_set]; exact HLm.out
        have HLV := Lib.hid hlv
        have HLN := Lib.hid hln
        clear hE hS hy hyl hkids t4 hlv hln hi3
        rintro e w4 ⟨rfl, hm4, hT4⟩
        go_wp2_with fail
        refine (live_any b g c _ _ _ hT4).mono ?_
        rw [HLV.out, if_pos rfl]
        rintro e w5 ⟨rfl, rfl⟩
        by_cases hx : x = k
        · have t5 : (x == (k : Int)) = true := by rw [beq_iff_eq]; exact hx
          have t6 : ((m : Int) + 1 == (m : Int) + 1) = true := by simp
          clear hx
          go_wp2_with fail
          refine (len_any b g c _ _ hT4).mono ?_
          rw [HLN.out, Int.natCast_add, Int.natCast_one]
          rintro e w5 ⟨rfl, rfl⟩
          go_wp2_with fail
          go_ret
          exact ⟨rfl, (hm.trans hm3).trans' hm4 (fun i hi h => by omega)⟩
        · have t5 : (x == (k : Int)) = false := by rw [beq_eq_false_iff_ne]; exact hx
          have t6 : ((m : Int) + 1 == (m : Int) + 1) = true := by simp
          have HX := Lib.hid hx
          clear hx
          go_wp2_with fail
          refine (live_any b g c _ x _ hT4).mono ?_
          rw [HLV.out, if_neg HX.out, ← HBW.out]
          rintro e w5 ⟨rfl, rfl⟩
          go_wp2_with fail
          refine (len_any b g c _ _ hT4).mono ?_
          rw [HLN.out, Int.natCast_add, Int.natCast_one]
          rintro e w5 ⟨rfl, rfl⟩
          go_wp2_with fail
          go_ret
          exact ⟨rfl, (hm.trans hm3).trans' hm4 (fun i hi h => by omega)⟩

set_option linter.unusedVariables false in
set_option maxRecDepth 100000 in
theorem treeGoes_lifted (os : Os) (started : os.Started) (H : Type) (enc : TypeId × Value → H) :
    ReturnsInHanded {} Try.checked os 5 .any (Rows.treeGoesSpec.pre6 enc Try.prog Try.f5 Rows.treeGoesRow.domain false) (Rows.treeGoesSpec.post enc Try.prog Try.f5 false true false false) := by
  refine returnsInHanded_of_change (C := Try.checked) own started (by kernel_rfl) Try.func5
    (ChangeSpec.witness6 (enc := enc) (C := Try.checked) false ⟨#[], #[.slice none 0 0, .int .i64 0, .int .i64 0], []⟩ 8 (by kernel_rfl) (by kernel_rfl) (by kernel_rfl) (by kernel_rfl)) ?_
  intro W base args ds gs before hval0 hW hcnd _
  have hval : ∀ (j : Nat) t v, Try.f5.params[j]? = some t → args[j]? = some v → Value.okWide Try.prog W .any base t v := hval0
  have hW' := hW
  obtain ⟨p, q, hA0, hV, rfl, hfz, hnd⟩ := hW
  have hA : DataW.TrodAll enc Try.prog W 0 (fun _ => true) true Try.f5.params.toList args.toList ds p := hA0
  rw [Try.params5] at hA hval
  obtain ⟨v0, vs0, d0, ds0, p0, q0, hargs, rfl, rfl, h0, r0⟩ := trodAll_cons hA
  obtain ⟨v1, vs1, d1, ds1, p1, q1, rfl, rfl, rfl, h1, r1⟩ := trodAll_cons r0
  obtain ⟨v2, vs2, d2, ds2, p2, q2, rfl, rfl, rfl, h2, r2⟩ := trodAll_cons r1
  obtain ⟨rfl, rfl, rfl⟩ := trodAll_nil r2
  obtain rfl : args = #[v0, v1, v2] := by cases args; simp_all
  obtain ⟨rfl, rfl⟩ := trodVars_none hV
  have k0 := h0
  have lt0 : ∀ x ∈ p0, x.block < W.heap.size := by obtain ⟨m, hm⟩ := k0; exact DataW.trod_lt m _ _ _ hm
  obtain ⟨x0, s0, g0⟩ := arg_slice Try.underlying22 (hval 0 22 v0 rfl rfl) (dec_slice (ec := ec2) 2 Try.underlying22 (by kernel_rfl) ec2_len (by decide) dec_act) h0
  have k1 := h1
  have lt1 : ∀ x ∈ p1, x.block < W.heap.size := by obtain ⟨m, hm⟩ := k1; exact DataW.trod_lt m _ _ _ hm
  obtain ⟨x1, rfl, rfl, rfl, g1⟩ := open_int Try.underlying3 (hval 1 3 v1 rfl rfl) h1
  have k2 := h2
  have lt2 : ∀ x ∈ p2, x.block < W.heap.size := by obtain ⟨m, hm⟩ := k2; exact DataW.trod_lt m _ _ _ hm
  obtain ⟨x2, rfl, rfl, rfl, g2⟩ := open_int Try.underlying3 (hval 2 3 v2 rfl rfl) h2
  clear hA0 hval0
  refine (law_goes x0 v0 x1 x2 W s0).mono fun e W' ⟨he, bel0⟩ => ?_
  have bel := Mod.none bel0
  subst he
  exact ⟨_, rfl, _, _, _, [], _, [], hW', trodAll_mk1 (shut_bool Try.underlying4 _), (trodAll_cons_mk (Below.trod laidOut (by kernel_rfl) (of_decide_eq_true (by kernel_rfl)) k0 bel lt0) (trodAll_cons_mk (Below.trod laidOut (by kernel_rfl) (of_decide_eq_true (by kernel_rfl)) k1 bel lt1) (trodAll_cons_mk (Below.trod laidOut (by kernel_rfl) (of_decide_eq_true (by kernel_rfl)) k2 bel lt2) trodAll_mk0))), rfl, bel.frame _, fun h => by cases h⟩

theorem treeGoes_holds : Rows.TreeGoesSaid :=
  OpenClaim.holds_of_wide 5 Try.f5 rfl rfl rfl rfl rfl rfl rfl ⟨rfl, rfl, rfl, rfl, rfl⟩ rfl rfl rfl rfl rfl (by kernel_rfl) Try.func5 (by kernel_rfl)
    (of_decide_eq_true (by kernel_rfl)) (by unfold Func.isWrapper; first | (rw [if_pos (by decide +kernel)]; kernel_rfl) | (rw [if_neg (by decide +kernel)]; exact ⟨rfl, rfl⟩))
    (fun os started H enc _ => treeGoes_lifted os started H enc)
#print axioms treeGoes_holds

end Go.Proofs.Ytgndpoemgailcaa
