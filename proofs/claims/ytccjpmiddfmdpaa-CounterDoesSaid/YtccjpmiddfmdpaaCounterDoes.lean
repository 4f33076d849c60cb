/-
  CounterDoes: whatever is tried, given back, and limited, each call answers what the document says: the law returns true for every input, and changes nothing that was there.
-/
import Derived.Test.YtccjpmiddfmdpaaRefD
import Derived.Deep.RegionHeld3
namespace Go.Proofs.Ytccjpmiddfmdpaa
open Go.RowKit Go.ChangeShapes Go.WideShapes Go.ChangeAt

set_option maxRecDepth 100000 in
set_option maxHeartbeats 2000000 in
theorem law_does (l : List CAct) (v : Value) (g : Int) (w : World) (h : RowsAt ecAct 4 w v l) (hg : ∀ a ∈ l, IntsAt w a.v a.ns) :
    Calls Try.prog 3 #[v, .int .i64 g] w fun e w' => e = .returned (.bool true) ∧ Mod (fun _ => False) w w' := by
  obtain ⟨va, vc, rfl, hcap, hmax, hcell⟩ := act_cells h
  unfold maxLen at hmax
  go_enter Try.func3, Try.ntmps3
  go_wp2_with fail
  refine (works_any _).mono ?_
  rintro e w1 ⟨rfl, hm1⟩
  go_wp2_with fail
  refine (over_any l _ _ (h.keep ecAct_len hm1 (fun _ _ x => x)) (fun a ha => (hg a ha).keep hm1 (fun _ _ x => x))).mono ?_
  cases hov : overB l with
  | true =>
    clear hov
    rintro e w2 ⟨rfl, hm2⟩
    go_wp2_with fail
    go_ret
    exact ⟨rfl, hm1.trans hm2⟩
  | false =>
    have hl80 : l.length ≤ 80 := by unfold overB at hov; simp at hov; omega
    clear hov
    rintro e w2 ⟨rfl, hm2⟩
    go_wp2_with fail
    refine (newC_any _).mono ?_
    rintro e w3 ⟨cb, rfl, hm3, hc3, hb3⟩
    go_wp2_with fail
    refine (refNew_any _).mono ?_
    rintro e w4 ⟨R, rfl, hm4, hr4, hRb, hRr⟩
    have hc4 := hc3.keepN hm4
    have hcl := hc3.blk.lt
    have hs2 : w.heap.size ≤ w2.heap.size := by have := hm1.size; have := hm2.size; omega
    have hs3 := hm3.size
    have hcr : ∀ i, R.rows i → cb ≠ i := fun i hi e => by have := hRr i hi; omega
    have hm04 : Mod (fun _ => False) w w4 := ((hm1.trans hm2).trans hm3).trans hm4
    go_wp2_with fail
    go_loopw [8] (fun i wr => ∃ (k : Nat) (L : List Cnt), k ≤ l.length ∧ i = .int .i64 k ∧ CntIs wr cb L ∧ RefIs wr R L ∧ CGood k L ∧ Mod (fun i => w2.heap.size ≤ i) w4 wr) (fun i _ => l.length - (intOf i).toNat)
    case atStart => exact ⟨0, newC, by omega, rfl, hc4, hr4, newC_good, Mod.refl _ _⟩
    case round =>
      obtain ⟨k, L, hk, rfl, hC, hR, hG, hmr⟩ := hrel
      have M : Mod (fun i => w2.heap.size ≤ i) w wr := (hm04.mono (fun _ x => x.elim)).trans hmr
      by_cases hlt : k < l.length
      case pos =>
        obtain ⟨a, ha⟩ : ∃ a, l[k]? = some a := ⟨_, List.getElem?_eq_getElem hlt⟩
        have hmem := List.mem_of_getElem? ha
        obtain ⟨ab, aoff, rfl, d0, d1, d2, d3⟩ := hcell k a ha
        have hai := hg a hmem
        have hsep := ints_sep hai (cb := cb) (by omega)
        have hseR : a.ns ≠ [] → ∀ x, a.v.ownBlock = some x → ¬ R.rows x := fun hne x hx hr => ints_sep hai (cb := x) (by have := hRr x hr; omega) hne x hx rfl
        have hdl := lt_of_cell d0
        have HA := Lib.hid ha
        have HG := Lib.hid hg
        have HC := Lib.hid hcell
        have k0 := M.keeps d0 (by omega)
        have k1 := M.keeps d1 (by omega)
        have k2 := M.keeps d2 (by omega)
        have k3 := M.keeps d3 (by omega)
        have hair := hai.keep M (fun b hb => by omega)
        clear ha hg hcell hmem h d0 d1 d2 d3
        obtain ⟨L', hL'⟩ : ∃ L', L' = actS L a := ⟨_, rfl⟩
        have hG' : CGood ((k + 1 : Nat) : Int) L' := by rw [hL', Int.natCast_succ]; exact actS_good hC.len (by omega) hG a
        rcases tmod3 a.k with hr | hr | hr | hr | hr
        case' inl =>
          have e1 : L' = tryS L a.ns a.n := by rw [hL']; unfold actS; rw [if_pos hr]
          clear hL'
          go_wp2_with fail
          go_region_held3 (fun w' => w'.cell? ⟨ab, aoff + k * 4 + 1, none⟩ = some a.v ∧ w'.cell? ⟨ab, aoff + k * 4 + 3, none⟩ = some (.int .i64 a.n)) (first | exact ⟨k1, k3⟩ | exact ⟨k1', k3'⟩) (first | (go_at_call 13; refine (try_any cb L a.ns _ a.n k _ (hC.keepN (Mod.refl _ _).drew) (hair.keep (Mod.refl (fun _ => False) _).drew (fun _ _ x => x)) hG ⟨by omega, by omega⟩ hsep).mono ?_; rw [← e1]; rintro e w7 ⟨rfl, hm7', hC7⟩; have hm7 : Mod (fun i => i = cb) wr w7 := (Mod.refl _ _).drew.trans hm7'; have k1' := hm7.keeps k1 (by omega); have k3' := hm7.keeps k3 (by omega)))
          have hR7 := hR.keep hm7 (by omega) (fun i hi e => hcr i hi e.symm)
          have hair7 := hai.keep (M.trans (hm7.mono (fun i h => by omega))) (fun b hb => by omega)
          replace k0 := hm7.keeps k0 (by omega)
          clear hm7' k1 k2 k3
          go_wp2_with fail
          go_region_held3 (fun w' => w'.cell? ⟨ab, aoff + k * 4 + 1, none⟩ = some a.v ∧ w'.cell? ⟨ab, aoff + k * 4 + 3, none⟩ = some (.int .i64 a.n)) (first | exact ⟨k1', k3'⟩ | exact ⟨q1, q3⟩) (first | (go_at_call 14; refine (refTry_any R L a.ns _ a.n k _ (hR7.keepN (Mod.refl _ _).drew) (hair7.keep (Mod.refl (fun _ => False) _).drew (fun _ _ x => x)) hG ⟨by omega, by omega⟩ hseR).mono ?_; rw [← e1]; rintro e w8 ⟨rfl, hm8', hR8⟩; have hm8 : Mod R.rows w7 w8 := (Mod.refl _ _).drew.trans hm8'; have q1 := hm8.keeps k1' (fun hi => by have := hRr _ hi; omega); have q3 := hm8.keeps k3' (fun hi => by have := hRr _ hi; omega)))
          generalize tryG L a.ns a.n = A
          generalize tryE L a.ns a.n = E
          have hAA : (A != A) = false := by simp
          have hEE : (E != E) = false := by simp
          have hC8 := hC7.keep hm8 (fun hr => hcr cb hr rfl)
          have m8 : Mod (fun i => w2.heap.size ≤ i) wr w8 := (hm7.mono (fun i h => by omega)).trans (hm8.mono (fun i hi => by have := hRr i hi; omega))
          clear e1 hm8' hr
        case' inr.inl =>
          have e1 : L' = giveS L a.ns a.n := by rw [hL']; unfold actS; rw [if_neg (by omega), if_pos hr]
          clear hL'
          go_wp2_with fail
          go_still_tail 11, (by kernel_rfl)
          go_wp2_with fail
          refine (give_any cb L a.ns _ a.n k _ (hC.keepN (Mod.refl _ _).drew) (hair.keep (Mod.refl (fun _ => False) _).drew (fun _ _ x => x)) hG ⟨by omega, by omega⟩ hsep).mono ?_
          rw [← e1]
          rintro e w7 ⟨rfl, hm7', hC7⟩
          have hm7 : Mod (fun i => i = cb) wr w7 := (Mod.refl _ _).drew.trans hm7'
          clear hm7'
          have hR7 := hR.keep hm7 (by omega) (fun i hi e => hcr i hi e.symm)
          have hair7 := hai.keep (M.trans (hm7.mono (fun i h => by omega))) (fun b hb => by omega)
          replace k0 := hm7.keeps k0 (by omega)
          replace k1 := hm7.keeps k1 (by omega)
          replace k2 := hm7.keeps k2 (by omega)
          replace k3 := hm7.keeps k3 (by omega)
          go_wp2_with fail
          go_still_tail 11, (by kernel_rfl)
          go_wp2_with fail
          refine (refGive_any R L a.ns _ a.n k _ (hR7.keepN (Mod.refl _ _).drew) (hair7.keep (Mod.refl (fun _ => False) _).drew (fun _ _ x => x)) hG (by omega) hseR).mono ?_
          rw [← e1]
          generalize giveE L a.ns a.n = E
          have hEE : (E != E) = false := by simp
          rintro e w8 ⟨rfl, hm8', hR8⟩
          have hm8 : Mod R.rows w7 w8 := (Mod.refl _ _).drew.trans hm8'
          have hC8 := hC7.keep hm8 (fun hr => hcr cb hr rfl)
          have m8 : Mod (fun i => w2.heap.size ≤ i) wr w8 := (hm7.mono (fun i h => by omega)).trans (hm8.mono (fun i hi => by have := hRr i hi; omega))
          clear e1 hm8' hr
        case' inr.inr.inl =>
          have e1 : L' = setLimS L a.g a.n := by rw [hL']; unfold actS; rw [if_neg (by omega), if_neg (by omega), if_pos hr]
          clear hL'
          go_wp2_with fail
          go_still_tail 11, (by kernel_rfl)
          go_wp2_with fail
          refine (setLimit_any cb L a.g a.n _ (hC.keepN (Mod.refl _ _).drew)).mono ?_
          rw [← e1]
          rintro e w7 ⟨rfl, hm7', hC7⟩
          have hm7 : Mod (fun i => i = cb) wr w7 := (Mod.refl _ _).drew.trans hm7'
          clear hm7'
          have hR7 := hR.keep hm7 (by omega) (fun i hi e => hcr i hi e.symm)
          replace k0 := hm7.keeps k0 (by omega)
          replace k1 := hm7.keeps k1 (by omega)
          replace k2 := hm7.keeps k2 (by omega)
          replace k3 := hm7.keeps k3 (by omega)
          go_wp2_with fail
          go_still_tail 11, (by kernel_rfl)
          go_wp2_with fail
          refine (refSetLimit_any R L a.g a.n _ (hR7.keepN (Mod.refl _ _).drew)).mono ?_
          rw [← e1]
          generalize setLimE a.g a.n = E
          have hEE : (E != E) = false := by simp
          rintro e w8 ⟨rfl, hm8', hR8⟩
          have hm8 : Mod R.rows w7 w8 := (Mod.refl _ _).drew.trans hm8'
          have hC8 := hC7.keep hm8 (fun hr => hcr cb hr rfl)
          have m8 : Mod (fun i => w2.heap.size ≤ i) wr w8 := (hm7.mono (fun i h => by omega)).trans (hm8.mono (fun i hi => by have := hRr i hi; omega))
          clear e1 hm8' hr
        case' inr.inr.inr.inl =>
          have e1 : L' = L := by rw [hL']; unfold actS; rw [if_neg (by omega), if_neg (by omega), if_neg (by omega)]
          have hC8 := hC
          have hR8 := hR
          rw [← e1] at hC8 hR8
          have m8 : Mod (fun i => w2.heap.size ≤ i) wr wr := Mod.refl _ _
          clear hL' e1
        case' inr.inr.inr.inr =>
          have e1 : L' = L := by rw [hL']; unfold actS; rw [if_neg (by omega), if_neg (by omega), if_neg (by omega)]
          have hC8 := hC
          have hR8 := hR
          rw [← e1] at hC8 hR8
          have m8 : Mod (fun i => w2.heap.size ≤ i) wr wr := Mod.refl _ _
          clear hL' e1
        all_goals
          go_wp2_with fail
          go_roundw
          case rel => exact ⟨k + 1, L', by omega, by go_num, hC8, hR8, hG', hmr.trans m8⟩
          case measure => simp [intOf]; omega
      case neg =>
        obtain rfl : k = l.length := by omega
        obtain ⟨wo, rfl⟩ : ∃ wo : World, wo = wr := ⟨_, rfl⟩
        have HC := Lib.hid hcell
        have HG := Lib.hid hg
        have m0 : Mod (fun _ => False) w wo := hm04.trans' hmr (fun i hi h => by omega)
        clear hcell hg h
        go_wp2_with fail
        go_loopw [13] (fun i wr => ∃ (m : Nat), m ≤ 64 ∧ i = .int .i64 m ∧ Mod (fun _ => False) wo wr) (fun i _ => 64 - (intOf i).toNat)
        case atStart => exact ⟨0, by omega, rfl, Mod.refl _ _⟩
        case round =>
          obtain ⟨m, hm, rfl, hmq⟩ := hrel
          have hCq := hC.keepN hmq
          have hRq := hR.keepN hmq
          by_cases hlm : m < 64
          case pos =>
            have hb := hRq.blk
            have hb0 := hb.cell 0
            have hb1 := hb.cell 1
            have hb2 := hb.cell 2
            have hb3 := hb.cell 3
            simp only [List.getElem?_toArray, List.getElem?_cons_zero, List.getElem?_cons_succ] at hb0 hb1 hb2 hb3
            have c0 := hRq.use.cell m hlm
            have c1 := hRq.limit.cell m hlm
            have c2 := hRq.failed.cell m hlm
            have c3 := hRq.peak.cell m hlm
            have x0 := fun x : Ext wr => x.cell hb0
            have x1 := fun x : Ext wr => x.cell hb1
            have x2 := fun x : Ext wr => x.cell hb2
            have x3 := fun x : Ext wr => x.cell hb3
            have y0 := fun x : Ext wr => x.cell c0
            have y1 := fun x : Ext wr => x.cell c1
            have y2 := fun x : Ext wr => x.cell c2
            have y3 := fun x : Ext wr => x.cell c3
            have b0 : ((ofS L m).use != (ofS L m).use) = false := by simp
            have b1 : ((ofS L m).limit != (ofS L m).limit) = false := by simp
            have b2 : ((ofS L m).failed != (ofS L m).failed) = false := by simp
            have b3 : ((ofS L m).peak != (ofS L m).peak) = false := by simp
            have hmI : (m : Int) < 64 := by omega
            have hmN : 0 ≤ (m : Int) := by omega
            clear hb0 hb1 hb2 hb3 c0 c1 c2 c3
            go_wp2_with fail
            refine wp_region_ext_lit (by kernel_rfl) (by kernel_rfl) ?_
            repeat (go_big_quiet_step (first | (go_at_call 19; exact quiet_ext (use_any cb L m _ (hCq.keepN (Ext.ok _)))) | (go_at_call 20; exact quiet_ext (limit_any cb L m _ (hCq.keepN (Ext.ok _)))) | (go_at_call 21; exact quiet_ext (failed_any cb L m _ (hCq.keepN (Ext.ok _)))) | (go_at_call 22; exact quiet_ext (peak_any cb L m _ (hCq.keepN (Ext.ok _))))))
            refine wpQuiet_nil ?_
            rintro w9 ⟨⟨w9', hm9⟩, he⟩
            obtain rfl : w9 = w9' := he
            clear x0 x1 x2 x3 y0 y1 y2 y3
            go_wp2_with fail
            go_roundw
            case rel => exact ⟨m + 1, by omega, by go_num, hmq.trans hm9⟩
            case measure => simp [intOf]; omega
          case neg =>
            obtain rfl : m = 64 := by omega
            rw [show ((64 : Nat) : Int) = 64 from rfl]
            go_wp2_with fail
            refine (refGroup_any g _).mono ?_
            cases hgb : groupB g with
            | true =>
              clear hgb
              rintro e w5 ⟨rfl, rfl⟩
              go_wp2_with fail
              go_ret
              exact ⟨rfl, m0.trans hmq⟩
            | false =>
              have hz : ofS L g = Cnt.zero := ofS_bad hgb
              have z0 : (ofS L g).use = 0 := by rw [hz]; rfl
              have z1 : (ofS L g).limit = 0 := by rw [hz]; rfl
              have z2 : (ofS L g).failed = 0 := by rw [hz]; rfl
              have z3 : (ofS L g).peak = 0 := by rw [hz]; rfl
              have Z0 := Lib.hid z0
              have Z1 := Lib.hid z1
              have Z2 := Lib.hid z2
              have Z3 := Lib.hid z3
              clear hz z0 z1 z2 z3 hgb
              rintro e w5 ⟨rfl, rfl⟩
              go_wp2_with fail
              refine (use_any cb L g _ hCq).mono ?_
              rw [Z0.out]
              rintro e w6 ⟨rfl, hm6⟩
              have hC6 := hCq.keepN hm6
              go_wp2_with fail
              refine (limit_any cb L g _ hC6).mono ?_
              rw [Z1.out]
              rintro e w7 ⟨rfl, hm7⟩
              have hC7 := hC6.keepN hm7
              go_wp2_with fail
              refine (failed_any cb L g _ hC7).mono ?_
              rw [Z2.out]
              rintro e w8 ⟨rfl, hm8⟩
              have hC8 := hC7.keepN hm8
              go_wp2_with fail
              refine (peak_any cb L g _ hC8).mono ?_
              rw [Z3.out]
              rintro e w9 ⟨rfl, hm9⟩
              go_wp2_with fail
              go_ret
              exact ⟨rfl, ((((m0.trans hmq).trans hm6).trans hm7).trans hm8).trans hm9⟩

set_option linter.unusedVariables false in
set_option maxRecDepth 100000 in
theorem counterDoes_lifted (os : Os) (started : os.Started) (H : Type) (enc : TypeId × Value → H) :
    ReturnsInHanded {} Try.checked os 3 .any (Rows.counterDoesSpec.pre6 enc Try.prog Try.f3 Rows.counterDoesRow.domain false) (Rows.counterDoesSpec.post enc Try.prog Try.f3 false true false false) := by
  refine returnsInHanded_of_change (C := Try.checked) own started (by kernel_rfl) Try.func3
    (ChangeSpec.witness6 (enc := enc) (C := Try.checked) false ⟨#[], #[.slice none 0 0, .int .i64 0], []⟩ 8 (by kernel_rfl) (by kernel_rfl) (by kernel_rfl) (by kernel_rfl)) ?_
  intro W base args ds gs before hval0 hW hcnd _
  have hval : ∀ (j : Nat) t v, Try.f3.params[j]? = some t → args[j]? = some v → Value.okWide Try.prog W .any base t v := hval0
  have hW' := hW
  obtain ⟨p, q, hA0, hV, rfl, hfz, hnd⟩ := hW
  have hA : DataW.TrodAll enc Try.prog W 0 (fun _ => true) true Try.f3.params.toList args.toList ds p := hA0
  rw [Try.params3] at hA hval
  obtain ⟨v0, vs0, d0, ds0, p0, q0, hargs, rfl, rfl, h0, r0⟩ := trodAll_cons hA
  obtain ⟨v1, vs1, d1, ds1, p1, q1, rfl, rfl, rfl, h1, r1⟩ := trodAll_cons r0
  obtain ⟨rfl, rfl, rfl⟩ := trodAll_nil r1
  obtain rfl : args = #[v0, v1] := by cases args; simp_all
  obtain ⟨rfl, rfl⟩ := trodVars_none hV
  have k0 := h0
  have lt0 : ∀ x ∈ p0, x.block < W.heap.size := by obtain ⟨m, hm⟩ := k0; exact DataW.trod_lt m _ _ _ hm
  obtain ⟨x0, s0, g0⟩ := arg_slice Try.underlying22 (hval 0 22 v0 rfl rfl) (dec_slice (ec := ec4) 4 Try.underlying22 (by kernel_rfl) (fun _ => rfl) (by decide) dec_act) h0
  have k1 := h1
  have lt1 : ∀ x ∈ p1, x.block < W.heap.size := by obtain ⟨m, hm⟩ := k1; exact DataW.trod_lt m _ _ _ hm
  obtain ⟨x1, rfl, rfl, rfl, g1⟩ := open_int Try.underlying3 (hval 1 3 v1 rfl rfl) h1
  obtain ⟨l0, a0, b0⟩ := acts_of s0 g0
  clear hA0 hval0
  refine (law_does l0 v0 x1 W a0 b0).mono fun e W' ⟨he, bel0⟩ => ?_
  have bel := Mod.none bel0
  subst he
  exact ⟨_, rfl, _, _, _, [], _, [], hW', trodAll_mk1 (shut_bool Try.underlying4 _), (trodAll_cons_mk (Below.trod laidOut (by kernel_rfl) (of_decide_eq_true (by kernel_rfl)) k0 bel lt0) (trodAll_cons_mk (Below.trod laidOut (by kernel_rfl) (of_decide_eq_true (by kernel_rfl)) k1 bel lt1) trodAll_mk0)), rfl, bel.frame _, fun h => by cases h⟩

theorem counterDoes_holds : Rows.CounterDoesSaid :=
  OpenClaim.holds_of_wide 3 Try.f3 rfl rfl rfl rfl rfl rfl rfl ⟨rfl, rfl, rfl, rfl, rfl⟩ rfl rfl rfl rfl rfl (by kernel_rfl) Try.func3 (by kernel_rfl)
    (of_decide_eq_true (by kernel_rfl)) (by unfold Func.isWrapper; first | (rw [if_pos (by decide +kernel)]; kernel_rfl) | (rw [if_neg (by decide +kernel)]; exact ⟨rfl, rfl⟩))
    (fun os started H enc _ => counterDoes_lifted os started H enc)
#print axioms counterDoes_holds

end Go.Proofs.Ytccjpmiddfmdpaa
