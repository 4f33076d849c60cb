/-
  CounterLimits: none uses more than its limit, but where that was lowered below what it used: the law returns true for every input, and changes nothing that was there.
-/
import Derived.Test.YtccjpmiddfmdpaaCntG
import Derived.Test.YtccjpmiddfmdpaaLib2
namespace Go.Proofs.Ytccjpmiddfmdpaa
open Go.RowKit Go.ChangeShapes Go.WideShapes Go.ChangeAt

set_option maxRecDepth 100000 in
set_option maxHeartbeats 2000000 in
theorem law_limits (l : List CAct) (v : Value) (w : World) (h : RowsAt ecAct 4 w v l) (hg : ∀ a ∈ l, IntsAt w a.v a.ns) :
    Calls Try.prog 5 #[v] w fun e w' => e = .returned (.bool true) ∧ Mod (fun _ => False) w w' := by
  obtain ⟨va, vc, rfl, hcap, hmax, hcell⟩ := act_cells h
  unfold maxLen at hmax
  go_enter Try.func5, Try.ntmps5
  go_wp2_with fail
  refine (works_any _).mono ?_
  rintro e w1 ⟨rfl, hm1⟩
  go_wp2_with fail
  refine (over_any l _ _ (h.keep ecAct_len hm1 (fun _ _ x => x)) (fun a ha => (hg a ha).keep hm1 (fun _ _ x => x))).mono ?_
  cases hov : overB l with
  | true =>
    clear hov
    rintro e w2 ⟨rfl, hm2⟩
    go_wp2_with fail
    go_ret
    exact ⟨rfl, hm1.trans hm2⟩
  | false =>
    have hl80 : l.length ≤ 80 := by unfold overB at hov; simp at hov; omega
    clear hov
    rintro e w2 ⟨rfl, hm2⟩
    go_wp2_with fail
    refine (newC_any _).mono ?_
    rintro e w3 ⟨cb, rfl, hm3, hc3, hb3⟩
    have hs2 : w.heap.size ≤ w2.heap.size := by have := hm1.size; have := hm2.size; omega
    have hm03 : Mod (fun _ => False) w w3 := (hm1.trans hm2).trans hm3
    go_wp2_with fail
    go_loopw [5] (fun i wr => ∃ (k : Nat) (L : List Cnt), k ≤ l.length ∧ i = .int .i64 k ∧ CntIs wr cb L ∧ CGood k L ∧ Mod (fun i => w2.heap.size ≤ i) w3 wr) (fun i _ => l.length - (intOf i).toNat)
    case atStart => exact ⟨0, newC, by omega, rfl, hc3, newC_good, Mod.refl _ _⟩
    case round =>
      obtain ⟨k, L, hk, rfl, hC, hG, hmr⟩ := hrel
      by_cases hlt : k < l.length
      case neg =>
        go_wp2_with fail
        go_ret
        exact ⟨rfl, hm03.trans' hmr (fun i hi h => by omega)⟩
      obtain ⟨a, ha⟩ : ∃ a, l[k]? = some a := ⟨_, List.getElem?_eq_getElem hlt⟩
      have hmem := List.mem_of_getElem? ha
      obtain ⟨ab, aoff, rfl, d0, d1, d2, d3⟩ := hcell k a ha
      have hai := hg a hmem
      have hsep := ints_sep hai (cb := cb) (by omega)
      have hdl := lt_of_cell d0
      have HA := Lib.hid ha
      have HG := Lib.hid hg
      have HC := Lib.hid hcell
      clear ha hg hcell hmem h
      obtain ⟨wo, rfl⟩ : ∃ wo : World, wo = wr := ⟨_, rfl⟩
      go_wp2_with fail
      go_loopw [6, 7] (fun v i wr => ∃ (m : Nat), m ≤ 64 ∧ i = .int .i64 m ∧ wr.ownsRow wo.heap.size 3 1 v m (rowOf (fun g => (ofS L g).use) m) ∧ Mod (fun _ => False) wo wr) (fun _ i _ => 64 - (intOf i).toNat)
      case atStart => exact ⟨0, by omega, rfl, ⟨rfl, .inl ⟨rfl, rfl⟩⟩, Mod.refl _ _⟩
      case round =>
        obtain ⟨m, hm, rfl, hown, hmi⟩ := hrel
        by_cases hlm : m < 64
        · go_wp2_with fail
          refine (use_any cb L m _ (hC.keepN hmi)).mono ?_
          rintro e w5 ⟨rfl, hm5⟩
          have hown5 := ownsRow_keep hown hm5 (fun _ _ x => x)
          have hs5 := hmi.size
          have hs6 := hm5.size
          go_wp2_with (at_builtin; refine wpList_app rfl _ _ 30 rfl wo.heap.size 3 (.int .i64 0) 1 8 Try.underlying30 info_int rfl (by decide) (by decide) u6 m _ rfl (hown5.alloc _) ⟨w5.heap.size, 0, none⟩ 1 [.int .i64 (ofS L m).use] rfl rfl (cell_one_new _ _ _) (by simp [Value.oneCell']) (by omega) (by simp; omega) ?_; intro g cap1 w6 o6 m6 hg6 hlt6)
          have e1 := rowOf_succ (fun g => (ofS L g).use) m
          rw [← e1] at o6
          have hmi6 : Mod (fun _ => False) wo w6 := ((hmi.trans hm5).alloc _).trans' m6 (fun q hq e => by have := ownsRow_ge hown q e.symm; omega)
          clear e1
          go_roundw
          case rel => exact ⟨m + 1, by omega, by go_num, o6, hmi6⟩
          case measure => simp [intOf]; omega
        · obtain rfl : m = 64 := by omega
          rw [show ((64 : Nat) : Int) = 64 from rfl]
          have M : Mod (fun i => w2.heap.size ≤ i) w wr := ((hm03.mono (fun _ x => x.elim)).trans hmr).trans (hmi.mono (fun _ x => x.elim))
          have k0 := M.keeps d0 (by omega)
          have k1 := M.keeps d1 (by omega)
          have k2 := M.keeps d2 (by omega)
          have k3 := M.keeps d3 (by omega)
          have hCr := hC.keepN hmi
          have hair := hai.keep M (fun b hb => by omega)
          clear d0 d1 d2 d3
          obtain ⟨L', hL'⟩ : ∃ L', L' = actS L a := ⟨_, rfl⟩
          have hG' : CGood ((k + 1 : Nat) : Int) L' := by rw [hL', Int.natCast_succ]; exact actS_good hC.len (by omega) hG a
          have hlim := fun g => act_limits hC.len (by omega) hG a g
          rw [← hL'] at hlim
          have HLIM := Lib.hid hlim
          clear hlim
          have hrw : wr.heap.size ≤ wr.heap.size := Nat.le_refl _
          rcases tmod3 a.k with hr | hr | hr | hr | hr
          case' inl =>
            have e1 : L' = tryS L a.ns a.n := by rw [hL']; unfold actS; rw [if_pos hr]
            clear hL'
            go_wp2_with fail
            go_still_tail 11, (by kernel_rfl)
            go_wp2_with fail
            refine (try_any cb L a.ns _ a.n k _ (hCr.keepN (Mod.refl _ _).drew) (hair.keep (Mod.refl (fun _ => False) _).drew (fun _ _ x => x)) hG ⟨by omega, by omega⟩ hsep).mono ?_
            rw [← e1]
            rintro e w7 ⟨rfl, hm7', hC7⟩
            have hm7 : Mod (fun i => i = cb) wr w7 := (Mod.refl _ _).drew.trans hm7'
            clear hr e1 hm7'
          case' inr.inl =>
            have e1 : L' = giveS L a.ns a.n := by rw [hL']; unfold actS; rw [if_neg (by omega), if_pos hr]
            clear hL'
            go_wp2_with fail
            go_still_tail 11, (by kernel_rfl)
            go_wp2_with fail
            refine (give_any cb L a.ns _ a.n k _ (hCr.keepN (Mod.refl _ _).drew) (hair.keep (Mod.refl (fun _ => False) _).drew (fun _ _ x => x)) hG ⟨by omega, by omega⟩ hsep).mono ?_
            rw [← e1]
            rintro e w7 ⟨rfl, hm7', hC7⟩
            have hm7 : Mod (fun i => i = cb) wr w7 := (Mod.refl _ _).drew.trans hm7'
            clear hr e1 hm7'
          case' inr.inr.inl =>
            have e1 : L' = setLimS L a.g a.n := by rw [hL']; unfold actS; rw [if_neg (by omega), if_neg (by omega), if_pos hr]
            clear hL'
            go_wp2_with fail
            go_still_tail 11, (by kernel_rfl)
            go_wp2_with fail
            refine (setLimit_any cb L a.g a.n _ (hCr.keepN (Mod.refl _ _).drew)).mono ?_
            rw [← e1]
            rintro e w7 ⟨rfl, hm7', hC7⟩
            have hm7 : Mod (fun i => i = cb) wr w7 := (Mod.refl _ _).drew.trans hm7'
            clear hr e1 hm7'
          case' inr.inr.inr.inl =>
            have e1 : L' = L := by rw [hL']; unfold actS; rw [if_neg (by omega), if_neg (by omega), if_neg (by omega)]
            have hC7 := hCr
            rw [← e1] at hC7
            have hm7 : Mod (fun i => i = cb) wr wr := Mod.refl _ _
            clear hL' e1
          case' inr.inr.inr.inr =>
            have e1 : L' = L := by rw [hL']; unfold actS; rw [if_neg (by omega), if_neg (by omega), if_neg (by omega)]
            have hC7 := hCr
            rw [← e1] at hC7
            have hm7 : Mod (fun i => i = cb) wr wr := Mod.refl _ _
            clear hL' e1
          all_goals
            obtain ⟨gb, wc, rfl, hgb, hgl, hcells⟩ := row_open (by decide) hown
            have hcbo : cb < wo.heap.size := hC.blk.lt
            obtain ⟨wp, rfl⟩ : ∃ wp : World, wp = wr := ⟨_, rfl⟩
            go_wp2_with fail
            go_loopw [8] (fun i wr => ∃ m : Nat, m ≤ 64 ∧ i = .int .i64 m ∧ CntIs wr cb L' ∧ Mod (fun i => i = cb) wp wr) (fun i _ => 64 - (intOf i).toNat)
            case atStart => exact ⟨0, by omega, rfl, hC7, hm7⟩
            case round =>
              obtain ⟨m, hm, rfl, hCq, hmq⟩ := hrel
              by_cases hlm' : m < 64
              case neg =>
                obtain rfl : m = 64 := by omega
                rw [show ((64 : Nat) : Int) = 64 from rfl]
                go_wp2_with fail
                go_roundw
                case rel => exact ⟨k + 1, L', by omega, by go_num, hCq, hG', (hmr.trans (hmi.mono (fun _ x => x.elim))).trans (hmq.mono (fun i h => by omega))⟩
                case measure => simp [intOf]; omega
              case pos =>
                have c0 := hmq.keeps (hcells m hlm') (by omega)
                obtain ⟨l1, l2, l3⟩ := HLIM.out m
                have hmI : (m : Int) < 64 := by omega
                have hmN : 0 ≤ (m : Int) := by omega
                have d2 : decide ((ofS L' m).use < 0) = false := by simp; omega
                have d3 : decide ((ofS L' m).peak < (ofS L' m).use) = false := by simp; omega
                have P3 := Lib.hid l3
                have P2 := Lib.hid l2
                have HCells := Lib.hid hcells
                clear l2 l3 hcells
                have q0 := fun x : Ext wr => x.cell c0
                clear c0
                by_cases hmore : (ofS L m).use < (ofS L' m).use
                case' pos =>
                  have d0 : decide ((ofS L m).use < (ofS L' m).use) = true := by simp; omega
                  have d1 : decide ((ofS L' m).limit < (ofS L' m).use) = false := by simp; omega
                  clear l1 hmore
                case' neg =>
                  have d0 : decide ((ofS L m).use < (ofS L' m).use) = false := by simp; omega
                  clear l1 hmore
                all_goals
                  go_wp2_with fail
                  refine wp_region_ext_lit (by kernel_rfl) (by kernel_rfl) ?_
                  repeat (go_big_quiet_step (first | (go_at_call 19; exact quiet_ext (use_any cb L' m _ (hCq.keepN (Ext.ok _)))) | (go_at_call 20; exact quiet_ext (limit_any cb L' m _ (hCq.keepN (Ext.ok _)))) | (go_at_call 22; exact quiet_ext (peak_any cb L' m _ (hCq.keepN (Ext.ok _))))))
                  refine wpQuiet_nil ?_
                  rintro w9 ⟨⟨w9', hm9⟩, he⟩
                  obtain rfl : w9 = w9' := he
                  clear q0
                  go_wp2_with fail
                  go_roundw
                  case rel => exact ⟨m + 1, by omega, by go_num, hCq.keepN hm9, hmq.trans (hm9.mono (fun _ x => x.elim))⟩
                  case measure => simp [intOf]; omega

set_option linter.unusedVariables false in
set_option maxRecDepth 100000 in
theorem counterLimits_lifted (os : Os) (started : os.Started) (H : Type) (enc : TypeId × Value → H) :
    ReturnsInHanded {} Try.checked os 5 .any (Rows.counterLimitsSpec.pre6 enc Try.prog Try.f5 Rows.counterLimitsRow.domain false) (Rows.counterLimitsSpec.post enc Try.prog Try.f5 false true false false) := by
  refine returnsInHanded_of_change (C := Try.checked) own started (by kernel_rfl) Try.func5
    (ChangeSpec.witness6 (enc := enc) (C := Try.checked) false ⟨#[], #[.slice none 0 0], []⟩ 8 (by kernel_rfl) (by kernel_rfl) (by kernel_rfl) (by kernel_rfl)) ?_
  intro W base args ds gs before hval0 hW hcnd _
  have hval : ∀ (j : Nat) t v, Try.f5.params[j]? = some t → args[j]? = some v → Value.okWide Try.prog W .any base t v := hval0
  have hW' := hW
  obtain ⟨p, q, hA0, hV, rfl, hfz, hnd⟩ := hW
  have hA : DataW.TrodAll enc Try.prog W 0 (fun _ => true) true Try.f5.params.toList args.toList ds p := hA0
  rw [Try.params5] at hA hval
  obtain ⟨v0, vs0, d0, ds0, p0, q0, hargs, rfl, rfl, h0, r0⟩ := trodAll_cons hA
  obtain ⟨rfl, rfl, rfl⟩ := trodAll_nil r0
  obtain rfl : args = #[v0] := by cases args; simp_all
  obtain ⟨rfl, rfl⟩ := trodVars_none hV
  have k0 := h0
  have lt0 : ∀ x ∈ p0, x.block < W.heap.size := by obtain ⟨m, hm⟩ := k0; exact DataW.trod_lt m _ _ _ hm
  obtain ⟨x0, s0, g0⟩ := arg_slice Try.underlying22 (hval 0 22 v0 rfl rfl) (dec_slice (ec := ec4) 4 Try.underlying22 (by kernel_rfl) (fun _ => rfl) (by decide) dec_act) h0
  obtain ⟨l0, a0, b0⟩ := acts_of s0 g0
  clear hA0 hval0
  refine (law_limits l0 v0 W a0 b0).mono fun e W' ⟨he, bel0⟩ => ?_
  have bel := Mod.none bel0
  subst he
  exact ⟨_, rfl, _, _, _, [], _, [], hW', trodAll_mk1 (shut_bool Try.underlying4 _), (trodAll_cons_mk (Below.trod laidOut (by kernel_rfl) (of_decide_eq_true (by kernel_rfl)) k0 bel lt0) trodAll_mk0), rfl, bel.frame _, fun h => by cases h⟩

theorem counterLimits_holds : Rows.CounterLimitsSaid :=
  OpenClaim.holds_of_wide 5 Try.f5 rfl rfl rfl rfl rfl rfl rfl ⟨rfl, rfl, rfl, rfl, rfl⟩ rfl rfl rfl rfl rfl (by kernel_rfl) Try.func5 (by kernel_rfl)
    (of_decide_eq_true (by kernel_rfl)) (by unfold Func.isWrapper; first | (rw [if_pos (by decide +kernel)]; kernel_rfl) | (rw [if_neg (by decide +kernel)]; exact ⟨rfl, rfl⟩))
    (fun os started H enc _ => counterLimits_lifted os started H enc)
#print axioms counterLimits_holds

end Go.Proofs.Ytccjpmiddfmdpaa
