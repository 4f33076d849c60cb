/-
  CounterPeaks: a peak never falls, and is at least what is used; failing is counted just where it fails: the law returns true for every input, and changes nothing that was there.
-/
import Derived.Test.YtccjpmiddfmdpaaCntG
import Derived.Test.YtccjpmiddfmdpaaLib2
namespace Go.Proofs.Ytccjpmiddfmdpaa
open Go.RowKit Go.ChangeShapes Go.WideShapes Go.ChangeAt

theorem peaks_law {F : Int} {l : List Cnt} (hl : l.length = 64) (hF : 0 ≤ F) (h : CGood F l) (chain : List Int) (n g : Int) :
    (ofS l g).peak ≤ (ofS (tryS l chain n) g).peak ∧ (ofS (tryS l chain n) g).use ≤ (ofS (tryS l chain n) g).peak ∧ (tryE l chain n ≠ 0 → (ofS (tryS l chain n) g).peak = (ofS l g).peak) ∧
    (ofS (tryS l chain n) g).failed = (ofS l g).failed + (if tryE l chain n = 22 ∧ g = tryG l chain n then 1 else 0) ∧ 0 ≤ (ofS l g).failed ∧ (ofS l g).failed ≤ F := by
  have hg' := ofS_good (by omega) (try_good hl hF h chain n) g
  have hg := ofS_good hF h g
  refine ⟨?_, hg'.2.1, ?_, ?_, hg.2.2.2.2.2.1, hg.2.2.2.2.2.2⟩
  · rcases try_cases l chain n hl with ⟨_, _, _, h1⟩ | ⟨_, m, _, _, _, _, _, h1⟩ | ⟨_, _, _, _, h1⟩
    · rw [h1]; omega
    · rw [h1]; split <;> simp [failC]
    · rw [h1]
      split
      · simp only [upC]; omega
      · omega
  · intro hne
    rcases try_cases l chain n hl with ⟨_, _, _, h1⟩ | ⟨_, m, _, _, _, _, _, h1⟩ | ⟨_, _, h0, _, h1⟩
    · rw [h1]
    · rw [h1]; split <;> simp [failC]
    · exact absurd h0 hne
  · rcases try_cases l chain n hl with ⟨_, _, h0, h1⟩ | ⟨_, m, _, _, h2, h0, _, h1⟩ | ⟨_, _, h0, _, h1⟩
    · rw [h1, h0]; simp
    · rw [h1, h0, h2]
      split <;> simp_all [failC]
    · rw [h1, h0]
      split <;> simp [upC]

theorem tryE_three (l : List Cnt) (chain : List Int) (n : Int) : tryE l chain n = 0 ∨ tryE l chain n = 1 ∨ tryE l chain n = 22 := by
  unfold tryE
  split
  · split
    · exact .inr (.inr rfl)
    · exact .inl rfl
  · exact .inr (.inl rfl)

set_option maxRecDepth 100000 in
set_option maxHeartbeats 2000000 in
theorem law_peaks (l : List CAct) (v cv : Value) (chain : List Int) (n : Int) (w : World) (h : RowsAt ecAct 4 w v l) (hg : ∀ a ∈ l, IntsAt w a.v a.ns) (hch : IntsAt w cv chain) :
    Calls Try.prog 6 #[v, cv, .int .i64 n] w fun e w' => e = .returned (.bool true) ∧ Mod (fun _ => False) w w' := by
  obtain ⟨va, vc, rfl, hcap, hmax, hcell⟩ := act_cells h
  obtain ⟨xa, xc, rfl, hxcap, hxmax, hxj⟩ := id hch
  clear hxj
  unfold maxLen at hmax hxmax
  go_enter Try.func6, Try.ntmps6
  go_wp2_with fail
  refine (works_any _).mono ?_
  rintro e w1 ⟨rfl, hm1⟩
  go_wp2_with fail
  refine (over_any l _ _ (h.keep ecAct_len hm1 (fun _ _ x => x)) (fun a ha => (hg a ha).keep hm1 (fun _ _ x => x))).mono ?_
  cases hov : overB l with
  | true =>
    clear hov
    rintro e w2 ⟨rfl, hm2⟩
    go_wp2_with fail
    go_ret
    exact ⟨rfl, hm1.trans hm2⟩
  | false =>
    have hl80 : l.length ≤ 80 := by unfold overB at hov; simp at hov; omega
    clear hov
    rintro e w2 ⟨rfl, hm2⟩
    by_cases hx80 : chain.length ≤ 80
    case neg =>
      have hd : decide (80 < (chain.length : Int)) = true := by simp; omega
      go_wp2_with fail
      go_ret
      exact ⟨rfl, hm1.trans hm2⟩
    have hd : decide (80 < (chain.length : Int)) = false := by simp; omega
    go_wp2_with fail
    refine (newC_any _).mono ?_
    rintro e w3 ⟨cb, rfl, hm3, hc3, hb3⟩
    clear hd
    have hs2 : w.heap.size ≤ w2.heap.size := by have := hm1.size; have := hm2.size; omega
    have hm03 : Mod (fun _ => False) w w3 := (hm1.trans hm2).trans hm3
    go_wp2_with fail
    go_loopw [9] (fun i wr => ∃ (k : Nat) (L : List Cnt), k ≤ l.length ∧ i = .int .i64 k ∧ CntIs wr cb L ∧ CGood k L ∧ Mod (fun i => w2.heap.size ≤ i) w3 wr) (fun i _ => l.length - (intOf i).toNat)
    case atStart => exact ⟨0, newC, by omega, rfl, hc3, newC_good, Mod.refl _ _⟩
    case round =>
      obtain ⟨k, L, hk, rfl, hC, hG, hmr⟩ := hrel
      have M : Mod (fun i => w2.heap.size ≤ i) w wr := (hm03.mono (fun _ x => x.elim)).trans hmr
      by_cases hlt : k < l.length
      case pos =>
        obtain ⟨a, ha⟩ : ∃ a, l[k]? = some a := ⟨_, List.getElem?_eq_getElem hlt⟩
        have hmem := List.mem_of_getElem? ha
        obtain ⟨ab, aoff, rfl, d0, d1, d2, d3⟩ := hcell k a ha
        have hai := hg a hmem
        have hsep := ints_sep hai (cb := cb) (by omega)
        have hdl := lt_of_cell d0
        have HA := Lib.hid ha
        have HG := Lib.hid hg
        have HC := Lib.hid hcell
        have k0 := M.keeps d0 (by omega)
        have k1 := M.keeps d1 (by omega)
        have k2 := M.keeps d2 (by omega)
        have k3 := M.keeps d3 (by omega)
        have hair := hai.keep M (fun b hb => by omega)
        clear ha hg hcell hmem h d0 d1 d2 d3
        obtain ⟨L', hL'⟩ : ∃ L', L' = actS L a := ⟨_, rfl⟩
        have hG' : CGood ((k + 1 : Nat) : Int) L' := by rw [hL', Int.natCast_succ]; exact actS_good hC.len (by omega) hG a
        rcases tmod3 a.k with hr | hr | hr | hr | hr
        case' inl =>
          have e1 : L' = tryS L a.ns a.n := by rw [hL']; unfold actS; rw [if_pos hr]
          clear hL'
          go_wp2_with fail
          go_still_tail 11, (by kernel_rfl)
          go_wp2_with fail
          refine (try_any cb L a.ns _ a.n k _ (hC.keepN (Mod.refl _ _).drew) (hair.keep (Mod.refl (fun _ => False) _).drew (fun _ _ x => x)) hG ⟨by omega, by omega⟩ hsep).mono ?_
          rw [← e1]
          rintro e w7 ⟨rfl, hm7', hC7⟩
          have hm7 : Mod (fun i => i = cb) wr w7 := (Mod.refl _ _).drew.trans hm7'
          clear hr e1 hm7'
        case' inr.inl =>
          have e1 : L' = giveS L a.ns a.n := by rw [hL']; unfold actS; rw [if_neg (by omega), if_pos hr]
          clear hL'
          go_wp2_with fail
          go_still_tail 11, (by kernel_rfl)
          go_wp2_with fail
          refine (give_any cb L a.ns _ a.n k _ (hC.keepN (Mod.refl _ _).drew) (hair.keep (Mod.refl (fun _ => False) _).drew (fun _ _ x => x)) hG ⟨by omega, by omega⟩ hsep).mono ?_
          rw [← e1]
          rintro e w7 ⟨rfl, hm7', hC7⟩
          have hm7 : Mod (fun i => i = cb) wr w7 := (Mod.refl _ _).drew.trans hm7'
          clear hr e1 hm7'
        case' inr.inr.inl =>
          have e1 : L' = setLimS L a.g a.n := by rw [hL']; unfold actS; rw [if_neg (by omega), if_neg (by omega), if_pos hr]
          clear hL'
          go_wp2_with fail
          go_still_tail 11, (by kernel_rfl)
          go_wp2_with fail
          refine (setLimit_any cb L a.g a.n _ (hC.keepN (Mod.refl _ _).drew)).mono ?_
          rw [← e1]
          rintro e w7 ⟨rfl, hm7', hC7⟩
          have hm7 : Mod (fun i => i = cb) wr w7 := (Mod.refl _ _).drew.trans hm7'
          clear hr e1 hm7'
        case' inr.inr.inr.inl =>
          have e1 : L' = L := by rw [hL']; unfold actS; rw [if_neg (by omega), if_neg (by omega), if_neg (by omega)]
          have hC7 := hC
          rw [← e1] at hC7
          have hm7 : Mod (fun i => i = cb) wr wr := Mod.refl _ _
          clear hL' e1
        case' inr.inr.inr.inr =>
          have e1 : L' = L := by rw [hL']; unfold actS; rw [if_neg (by omega), if_neg (by omega), if_neg (by omega)]
          have hC7 := hC
          rw [← e1] at hC7
          have hm7 : Mod (fun i => i = cb) wr wr := Mod.refl _ _
          clear hL' e1
        all_goals
          go_wp2_with fail
          go_roundw
          case rel => exact ⟨k + 1, L', by omega, by go_num, hC7, hG', hmr.trans (hm7.mono (fun i h => by omega))⟩
          case measure => simp [intOf]; omega
      case neg =>
        obtain rfl : k = l.length := by omega
        obtain ⟨wo, rfl⟩ : ∃ wo : World, wo = wr := ⟨_, rfl⟩
        have HC := Lib.hid hcell
        have HG := Lib.hid hg
        clear hcell hg h
        go_wp2_with fail
        go_loopw [10, 11, 12] (fun p f i wr => ∃ (m : Nat), m ≤ 64 ∧ i = .int .i64 m ∧ wr.ownsRow wo.heap.size 3 1 p m (rowOf (fun g => (ofS L g).peak) m) ∧ wr.ownsRow wo.heap.size 3 1 f m (rowOf (fun g => (ofS L g).failed) m) ∧ (∀ g, p.ownBlock = some g → f.ownBlock ≠ some g) ∧ Mod (fun _ => False) wo wr) (fun _ _ i _ => 64 - (intOf i).toNat)
        case atStart => exact ⟨0, by omega, rfl, ⟨rfl, .inl ⟨rfl, rfl⟩⟩, ⟨rfl, .inl ⟨rfl, rfl⟩⟩, (fun g hg => by cases hg), Mod.refl _ _⟩
        case round =>
          obtain ⟨m, hm, rfl, hownp, hownf, hdis, hmi⟩ := hrel
          by_cases hlm : m < 64
          case pos =>
            go_wp2_with fail
            refine (peak_any cb L m _ (hC.keepN hmi)).mono ?_
            rintro e w5 ⟨rfl, hm5⟩
            have hownp5 := ownsRow_keep hownp hm5 (fun _ _ x => x)
            have hownf5 := ownsRow_keep hownf hm5 (fun _ _ x => x)
            have hs5 := hmi.size
            have hs6 := hm5.size
            go_wp2_with (at_builtin; refine wpList_app rfl _ _ 30 rfl wo.heap.size 3 (.int .i64 0) 1 8 Try.underlying30 info_int rfl (by decide) (by decide) u10 m _ rfl (hownp5.alloc _) ⟨w5.heap.size, 0, none⟩ 1 [.int .i64 (ofS L m).peak] rfl rfl (cell_one_new _ _ _) (by simp [Value.oneCell']) (by omega) (by simp; omega) ?_; intro g6 cap1 w6 o6 m6 hg6 hlt6)
            have e1 := rowOf_succ (fun g => (ofS L g).peak) m
            rw [← e1] at o6
            clear e1
            have m56 : Mod (fun q => some q = u10.ownBlock) w5 w6 := ((Mod.refl (fun _ => False) _).alloc _).mono (fun _ x => x.elim) |>.trans m6
            have hownf6 := ownsRow_keep hownf5 m56 (fun g hg e => hdis g e.symm hg)
            have hmi6 : Mod (fun _ => False) wo w6 := (hmi.trans hm5).trans' m56 (fun q hq e => by have := ownsRow_ge hownp q e.symm; omega)
            have hdis6 : ∀ g, u11.ownBlock = some g → g6 ≠ g := fun g hg => by
              rcases hg6 with h6 | h6
              · exact fun e => hdis g6 h6 (e ▸ hg)
              · have := ownsRow_lt hownf5 g hg
                simp at h6
                omega
            refine (failed_any cb L m _ (hC.keepN hmi6)).mono ?_
            rintro e w7 ⟨rfl, hm7⟩
            have o7 := ownsRow_keep o6 hm7 (fun _ _ x => x)
            have hownf7 := ownsRow_keep hownf6 hm7 (fun _ _ x => x)
            have hs7 := m56.size
            have hs8 := hm7.size
            go_wp2_with (at_builtin; refine wpList_app rfl _ _ 30 rfl wo.heap.size 3 (.int .i64 0) 1 8 Try.underlying30 info_int rfl (by decide) (by decide) u11 m _ rfl (hownf7.alloc _) ⟨w7.heap.size, 0, none⟩ 1 [.int .i64 (ofS L m).failed] rfl rfl (cell_one_new _ _ _) (by simp [Value.oneCell']) (by omega) (by simp; omega) ?_; intro g8 cap1 w8 o8 m8 hg8 hlt8)
            have e1 := rowOf_succ (fun g => (ofS L g).failed) m
            rw [← e1] at o8
            clear e1
            have m78 : Mod (fun q => some q = u11.ownBlock) w7 w8 := ((Mod.refl (fun _ => False) _).alloc _).mono (fun _ x => x.elim) |>.trans m8
            have o8p := ownsRow_keep o7 m78 (fun g hg e => by injection hg with hg; exact hdis6 g e.symm hg)
            have hmi8 : Mod (fun _ => False) wo w8 := (hmi6.trans hm7).trans' m78 (fun q hq e => by have := ownsRow_ge hownf q e.symm; omega)
            go_roundw
            case rel =>
              refine ⟨m + 1, by omega, by go_num, o8p, o8, ?_, hmi8⟩
              intro g hg hg'
              injection hg with hg
              injection hg' with hg'
              simp only at hg hg'
              rcases hg8 with h8 | h8
              · exact hdis6 g8 h8 (by omega)
              · simp at h8
                omega
            case measure => simp [intOf]; omega
          case neg =>
            obtain rfl : m = 64 := by omega
            rw [show ((64 : Nat) : Int) = 64 from rfl]
            have M2 : Mod (fun i => w2.heap.size ≤ i) w wr := M.trans (hmi.mono (fun _ x => x.elim))
            have hsep := ints_sep hch (cb := cb) (by omega)
            have hchr := hch.keep M2 (fun b hb => by omega)
            have hCr := hC.keepN hmi
            obtain ⟨pb, pc, rfl, hpb, hpl, hpcells⟩ := row_open (by decide) hownp
            obtain ⟨fb, fc, rfl, hfb, hfl, hfcells⟩ := row_open (by decide) hownf
            have hcbo : cb < wo.heap.size := hC.blk.lt
            clear hownp hownf hdis
            have hlaw := fun g => peaks_law hC.len (by omega) hG chain n g
            have h3 := tryE_three L chain n
            go_wp2_with fail
            refine (try_any cb L chain _ n l.length _ hCr hchr hG ⟨by omega, by omega⟩ hsep).mono ?_
            generalize tryS L chain n = L' at *
            generalize tryE L chain n = E at *
            generalize tryG L chain n = A at *
            rintro e w5 ⟨rfl, hm5, hC5⟩
            have p5 := fun j hj => hm5.keeps (hpcells j hj) (by omega)
            have f5 := fun j hj => hm5.keeps (hfcells j hj) (by omega)
            have m05 : Mod (fun _ => False) w w5 := (hm03.trans' (hmr.trans (hmi.mono (fun _ x => x.elim))) (fun i hi h => by omega)).trans' hm5 (fun i hi h => by omega)
            have HLAW := Lib.hid hlaw
            have HP := Lib.hid p5
            have HF := Lib.hid f5
            clear hlaw p5 f5 hpcells hfcells
            have hE : ∀ x : Int, E = x → E = x := fun _ h => h
            rcases h3 with rfl | rfl | rfl
            all_goals
              clear hE
              go_wp2_with fail
              go_loopw [15] (fun i wr => ∃ (m : Nat), m ≤ 64 ∧ i = .int .i64 m ∧ Mod (fun _ => False) w5 wr) (fun i _ => 64 - (intOf i).toNat)
              case atStart => exact ⟨0, by omega, rfl, Mod.refl _ _⟩
              case round =>
                obtain ⟨m, hm, rfl, hmq⟩ := hrel
                by_cases hlm' : m < 64
                case neg =>
                  obtain rfl : m = 64 := by omega
                  rw [show ((64 : Nat) : Int) = 64 from rfl]
                  go_wp2_with fail
                  go_ret
                  exact ⟨rfl, m05.trans hmq⟩
                case pos =>
                  have c0 := hmq.keeps (HP.out m hlm') (fun x => x)
                  have c1 := hmq.keeps (HF.out m hlm') (fun x => x)
                  have hCq := hC5.keepN hmq
                  obtain ⟨l1, l2, l3, l4, l5, l6⟩ := HLAW.out m
                  have hmI : (m : Int) < 64 := by omega
                  have hmN : 0 ≤ (m : Int) := by omega
                  have d0 : decide ((ofS L' m).peak < (ofS L m).peak) = false := by simp; omega
                  have d1 : decide ((ofS L' m).peak < (ofS L' m).use) = false := by simp; omega
                  have l6' : (ofS L m).failed ≤ 80 := by omega
                  by_cases hga : (m : Int) = A
                  case' pos =>
                    have b0 : ((m : Int) == A) = true := by simp; omega
                    first | rw [if_pos (by first | exact ⟨rfl, hga⟩ | exact ⟨trivial, hga⟩)] at l4 | rw [if_neg (fun h => absurd h.1 (by decide))] at l4
                  case' neg =>
                    have b0 : ((m : Int) == A) = false := by simp; omega
                    rw [if_neg (fun h => hga h.2)] at l4
                  all_goals
                    first | (have b1 : ((ofS L' m).peak != (ofS L m).peak) = false := by have := l3 (by decide); rw [bne_eq_false_iff_eq]; omega) | skip
                    clear l3
                    first | (have b2 : ((ofS L' m).failed != (ofS L m).failed + 1) = false := by rw [bne_eq_false_iff_eq]; omega) | (have b2 : ((ofS L' m).failed != (ofS L m).failed) = false := by rw [bne_eq_false_iff_eq]; omega)
                    have q0 := fun x : Ext wr => x.cell c0
                    have q1 := fun x : Ext wr => x.cell c1
                    have L1 := Lib.hid l1
                    have L2 := Lib.hid l2
                    have L4 := Lib.hid l4
                    have GA := Lib.hid hga
                    clear l1 l2 l4 c0 c1 hga
                    go_wp2_with fail
                    refine wp_region_ext_lit (by kernel_rfl) (by kernel_rfl) ?_
                    repeat (go_big_quiet_step (first | (go_at_call 19; exact quiet_ext (use_any cb L' m _ (hCq.keepN (Ext.ok _)))) | (go_at_call 21; exact quiet_ext (failed_any cb L' m _ (hCq.keepN (Ext.ok _)))) | (go_at_call 22; exact quiet_ext (peak_any cb L' m _ (hCq.keepN (Ext.ok _))))))
                    refine wpQuiet_nil ?_
                    rintro w9 ⟨⟨w9', hm9⟩, he⟩
                    obtain rfl : w9 = w9' := he
                    clear q0 q1
                    go_wp2_with fail
                    go_roundw
                    case rel => exact ⟨m + 1, by omega, by go_num, hmq.trans hm9⟩
                    case measure => simp [intOf]; omega

set_option linter.unusedVariables false in
set_option maxRecDepth 100000 in
theorem counterPeaks_lifted (os : Os) (started : os.Started) (H : Type) (enc : TypeId × Value → H) :
    ReturnsInHanded {} Try.checked os 6 .any (Rows.counterPeaksSpec.pre6 enc Try.prog Try.f6 Rows.counterPeaksRow.domain false) (Rows.counterPeaksSpec.post enc Try.prog Try.f6 false true false false) := by
  refine returnsInHanded_of_change (C := Try.checked) own started (by kernel_rfl) Try.func6
    (ChangeSpec.witness6 (enc := enc) (C := Try.checked) false ⟨#[], #[.slice none 0 0, .slice none 0 0, .int .i64 0], []⟩ 8 (by kernel_rfl) (by kernel_rfl) (by kernel_rfl) (by kernel_rfl)) ?_
  intro W base args ds gs before hval0 hW hcnd _
  have hval : ∀ (j : Nat) t v, Try.f6.params[j]? = some t → args[j]? = some v → Value.okWide Try.prog W .any base t v := hval0
  have hW' := hW
  obtain ⟨p, q, hA0, hV, rfl, hfz, hnd⟩ := hW
  have hA : DataW.TrodAll enc Try.prog W 0 (fun _ => true) true Try.f6.params.toList args.toList ds p := hA0
  rw [Try.params6] at hA hval
  obtain ⟨v0, vs0, d0, ds0, p0, q0, hargs, rfl, rfl, h0, r0⟩ := trodAll_cons hA
  obtain ⟨v1, vs1, d1, ds1, p1, q1, rfl, rfl, rfl, h1, r1⟩ := trodAll_cons r0
  obtain ⟨v2, vs2, d2, ds2, p2, q2, rfl, rfl, rfl, h2, r2⟩ := trodAll_cons r1
  obtain ⟨rfl, rfl, rfl⟩ := trodAll_nil r2
  obtain rfl : args = #[v0, v1, v2] := by cases args; simp_all
  obtain ⟨rfl, rfl⟩ := trodVars_none hV
  have k0 := h0
  have lt0 : ∀ x ∈ p0, x.block < W.heap.size := by obtain ⟨m, hm⟩ := k0; exact DataW.trod_lt m _ _ _ hm
  obtain ⟨x0, s0, g0⟩ := arg_slice Try.underlying22 (hval 0 22 v0 rfl rfl) (dec_slice (ec := ec4) 4 Try.underlying22 (by kernel_rfl) (fun _ => rfl) (by decide) dec_act) h0
  have k1 := h1
  have lt1 : ∀ x ∈ p1, x.block < W.heap.size := by obtain ⟨m, hm⟩ := k1; exact DataW.trod_lt m _ _ _ hm
  obtain ⟨x1, s1, g1⟩ := arg_slice Try.underlying30 (hval 1 30 v1 rfl rfl) dec_ints h1
  have k2 := h2
  have lt2 : ∀ x ∈ p2, x.block < W.heap.size := by obtain ⟨m, hm⟩ := k2; exact DataW.trod_lt m _ _ _ hm
  obtain ⟨x2, rfl, rfl, rfl, g2⟩ := open_int Try.underlying3 (hval 2 3 v2 rfl rfl) h2
  obtain ⟨l0, a0, b0⟩ := acts_of s0 g0
  clear hA0 hval0
  refine (law_peaks l0 v0 v1 x1 x2 W a0 b0 s1.ints).mono fun e W' ⟨he, bel0⟩ => ?_
  have bel := Mod.none bel0
  subst he
  exact ⟨_, rfl, _, _, _, [], _, [], hW', trodAll_mk1 (shut_bool Try.underlying4 _), (trodAll_cons_mk (Below.trod laidOut (by kernel_rfl) (of_decide_eq_true (by kernel_rfl)) k0 bel lt0) (trodAll_cons_mk (Below.trod laidOut (by kernel_rfl) (of_decide_eq_true (by kernel_rfl)) k1 bel lt1) (trodAll_cons_mk (Below.trod laidOut (by kernel_rfl) (of_decide_eq_true (by kernel_rfl)) k2 bel lt2) trodAll_mk0))), rfl, bel.frame _, fun h => by cases h⟩

theorem counterPeaks_holds : Rows.CounterPeaksSaid :=
  OpenClaim.holds_of_wide 6 Try.f6 rfl rfl rfl rfl rfl rfl rfl ⟨rfl, rfl, rfl, rfl, rfl⟩ rfl rfl rfl rfl rfl (by kernel_rfl) Try.func6 (by kernel_rfl)
    (of_decide_eq_true (by kernel_rfl)) (by unfold Func.isWrapper; first | (rw [if_pos (by decide +kernel)]; kernel_rfl) | (rw [if_neg (by decide +kernel)]; exact ⟨rfl, rfl⟩))
    (fun os started H enc _ => counterPeaks_lifted os started H enc)
#print axioms counterPeaks_holds

end Go.Proofs.Ytccjpmiddfmdpaa
