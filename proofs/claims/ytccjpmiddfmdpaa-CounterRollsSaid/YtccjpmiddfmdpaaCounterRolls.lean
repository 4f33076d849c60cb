/-
  CounterRolls: what fails changes nothing that is used; what does not, just the chain's, by that much; given back it is as ahead: the law returns true for every input, and changes nothing that was there.
-/
import Derived.Test.YtccjpmiddfmdpaaCntG
import Derived.Test.YtccjpmiddfmdpaaLib2
namespace Go.Proofs.Ytccjpmiddfmdpaa
open Go.RowKit Go.ChangeShapes Go.WideShapes Go.ChangeAt

def actR (l : List Cnt) (a : CAct) : List Cnt := if a.k.tmod 3 = 0 then tryS l a.ns a.n else if a.k.tmod 3 = 2 then setLimS l a.g a.n else l

theorem actR_good {F : Int} {l : List Cnt} (hl : l.length = 64) (hF : 0 ≤ F) (h : CGood F l) (a : CAct) : CGood (F + 1) (actR l a) := by
  unfold actR
  split
  · exact try_good hl hF h _ _
  · split
    · exact (setLim_good hl hF h _ _).mono (by omega)
    · exact h.mono (by omega)

theorem rolls_give {F : Int} {l : List Cnt} (hl : l.length = 64) (hF : 0 ≤ F) (h : CGood F l) (chain : List Int) (n : Int) (he : tryE l chain n = 0) :
    giveE (tryS l chain n) chain n = 0 ∧ ∀ g, (ofS (giveS (tryS l chain n) chain n) g).use = (ofS l g).use := by
  rcases try_cases l chain n hl with ⟨_, _, h0, _⟩ | ⟨_, m, _, _, _, h0, _⟩ | ⟨hr, _, _, _, h1⟩
  · rw [he] at h0; cases h0
  · rw [he] at h0; cases h0
  · obtain ⟨_, _, hn0, hn1⟩ := rightB_groups hr
    rcases give_cases (tryS l chain n) chain n ((tryS_len _ _ _).trans hl) with ⟨h2, _⟩ | ⟨_, _, _, g, hg, hlt⟩ | ⟨_, h2, _, h3⟩
    · rw [hr] at h2; cases h2
    · rw [h1, if_pos hg] at hlt
      have := (ofS_good hF h g).1
      simp only [upC] at hlt
      omega
    · refine ⟨h2, fun g => ?_⟩
      rw [h3, h1]
      split
      · simp only [downC, upC]; omega
      · rfl

theorem rolls_law {l : List Cnt} (hl : l.length = 64) (chain : List Int) (n : Int) :
    (tryE l chain n = 1 ∧ ∀ g, (ofS (tryS l chain n) g).use = (ofS l g).use) ∨
    (tryE l chain n = 22 ∧ (∀ g, (ofS (tryS l chain n) g).use = (ofS l g).use) ∧ ∃ m : Nat, m < 64 ∧ tryG l chain n = m ∧ 0 ≤ n ∧ n ≤ 1099511627776 ∧ (ofS (tryS l chain n) m).limit < (ofS l m).use + n) ∨
    (tryE l chain n = 0 ∧ tryG l chain n = -1 ∧ 0 ≤ n ∧ ∀ g, (ofS (tryS l chain n) g).use = if g ∈ chain then (ofS l g).use + n else (ofS l g).use) := by
  rcases try_cases l chain n hl with ⟨_, _, h0, h1⟩ | ⟨hr, m, hg, _, h2, h0, h3, h1⟩ | ⟨hr, h2, h0, _, h1⟩
  · exact .inl ⟨h0, fun g => by rw [h1]⟩
  · obtain ⟨_, _, hn0, hn1⟩ := rightB_groups hr
    obtain ⟨k, rfl, hk⟩ := groupB_nat hg
    refine .inr (.inl ⟨h0, fun g => by rw [h1]; split <;> rfl, k, hk, h2, hn0, hn1, ?_⟩)
    rw [h1, if_pos rfl]
    unfold tryP at h3
    simp only [Bool.and_eq_true, decide_eq_true_eq] at h3
    simp only [failC]
    exact h3.2
  · obtain ⟨_, _, hn0, hn1⟩ := rightB_groups hr
    refine .inr (.inr ⟨h0, h2, hn0, fun g => ?_⟩)
    rw [h1]
    split <;> rfl

set_option maxRecDepth 100000 in
set_option maxHeartbeats 2000000 in
theorem law_rolls (l : List CAct) (v cv : Value) (chain : List Int) (n other : Int) (w : World) (h : RowsAt ecAct 4 w v l) (hg : ∀ a ∈ l, IntsAt w a.v a.ns) (hch : IntsAt w cv chain) :
    Calls Try.prog 4 #[v, cv, .int .i64 n, .int .i64 other] w fun e w' => e = .returned (.bool true) ∧ Mod (fun _ => False) w w' := by
  obtain ⟨va, vc, rfl, hcap, hmax, hcell⟩ := act_cells h
  obtain ⟨xa, xc, rfl, hxcap, hxmax, hxj⟩ := id hch
  clear hxj
  unfold maxLen at hmax hxmax
  go_enter Try.func4, Try.ntmps4
  go_wp2_with fail
  refine (works_any _).mono ?_
  rintro e w1 ⟨rfl, hm1⟩
  go_wp2_with fail
  refine (over_any l _ _ (h.keep ecAct_len hm1 (fun _ _ x => x)) (fun a ha => (hg a ha).keep hm1 (fun _ _ x => x))).mono ?_
  cases hov : overB l with
  | true =>
    clear hov
    rintro e w2 ⟨rfl, hm2⟩
    go_wp2_with fail
    go_ret
    exact ⟨rfl, hm1.trans hm2⟩
  | false =>
    have hl80 : l.length ≤ 80 := by unfold overB at hov; simp at hov; omega
    clear hov
    rintro e w2 ⟨rfl, hm2⟩
    by_cases hx80 : chain.length ≤ 80
    case neg =>
      have hd : decide (80 < (chain.length : Int)) = true := by simp; omega
      go_wp2_with fail
      go_ret
      exact ⟨rfl, hm1.trans hm2⟩
    have hd : decide (80 < (chain.length : Int)) = false := by simp; omega
    go_wp2_with fail
    refine (newC_any _).mono ?_
    rintro e w3 ⟨cb, rfl, hm3, hc3, hb3⟩
    clear hd
    have hs2 : w.heap.size ≤ w2.heap.size := by have := hm1.size; have := hm2.size; omega
    have hm03 : Mod (fun _ => False) w w3 := (hm1.trans hm2).trans hm3
    go_wp2_with fail
    go_loopw [11] (fun i wr => ∃ (k : Nat) (L : List Cnt), k ≤ l.length ∧ i = .int .i64 k ∧ CntIs wr cb L ∧ CGood k L ∧ Mod (fun i => w2.heap.size ≤ i) w3 wr) (fun i _ => l.length - (intOf i).toNat)
    case atStart => exact ⟨0, newC, by omega, rfl, hc3, newC_good, Mod.refl _ _⟩
    case round =>
      obtain ⟨k, L, hk, rfl, hC, hG, hmr⟩ := hrel
      have M : Mod (fun i => w2.heap.size ≤ i) w wr := (hm03.mono (fun _ x => x.elim)).trans hmr
      by_cases hlt : k < l.length
      case pos =>
        obtain ⟨a, ha⟩ : ∃ a, l[k]? = some a := ⟨_, List.getElem?_eq_getElem hlt⟩
        have hmem := List.mem_of_getElem? ha
        obtain ⟨ab, aoff, rfl, d0, d1, d2, d3⟩ := hcell k a ha
        have hai := hg a hmem
        have hsep := ints_sep hai (cb := cb) (by omega)
        have hdl := lt_of_cell d0
        have HA := Lib.hid ha
        have HG := Lib.hid hg
        have HC := Lib.hid hcell
        have k0 := M.keeps d0 (by omega)
        have k1 := M.keeps d1 (by omega)
        have k2 := M.keeps d2 (by omega)
        have k3 := M.keeps d3 (by omega)
        have hair := hai.keep M (fun b hb => by omega)
        clear ha hg hcell hmem h d0 d1 d2 d3
        obtain ⟨L', hL'⟩ : ∃ L', L' = actR L a := ⟨_, rfl⟩
        have hG' : CGood ((k + 1 : Nat) : Int) L' := by rw [hL', Int.natCast_succ]; exact actR_good hC.len (by omega) hG a
        rcases tmod3 a.k with hr | hr | hr | hr | hr
        case' inl =>
          have e1 : L' = tryS L a.ns a.n := by rw [hL']; unfold actR; rw [if_pos hr]
          clear hL'
          go_wp2_with fail
          go_still_tail 11, (by kernel_rfl)
          go_wp2_with fail
          refine (try_any cb L a.ns _ a.n k _ (hC.keepN (Mod.refl _ _).drew) (hair.keep (Mod.refl (fun _ => False) _).drew (fun _ _ x => x)) hG ⟨by omega, by omega⟩ hsep).mono ?_
          rw [← e1]
          rintro e w7 ⟨rfl, hm7', hC7⟩
          have hm7 : Mod (fun i => i = cb) wr w7 := (Mod.refl _ _).drew.trans hm7'
          replace k0 := hm7.keeps k0 (by omega)
          replace k2 := hm7.keeps k2 (by omega)
          replace k3 := hm7.keeps k3 (by omega)
          clear e1 hm7'
        case' inr.inl =>
          have e1 : L' = L := by rw [hL']; unfold actR; rw [if_neg (by omega), if_neg (by omega)]
          have hC7 := hC
          rw [← e1] at hC7
          have hm7 : Mod (fun i => i = cb) wr wr := Mod.refl _ _
          clear hL' e1
        case' inr.inr.inl =>
          have e1 : L' = setLimS L a.g a.n := by rw [hL']; unfold actR; rw [if_neg (by omega), if_pos hr]
          clear hL'
          go_wp2_with fail
          go_still_tail 11, (by kernel_rfl)
          go_wp2_with fail
          refine (setLimit_any cb L a.g a.n _ (hC.keepN (Mod.refl _ _).drew)).mono ?_
          rw [← e1]
          rintro e w7 ⟨rfl, hm7', hC7⟩
          have hm7 : Mod (fun i => i = cb) wr w7 := (Mod.refl _ _).drew.trans hm7'
          clear hr e1 hm7'
        case' inr.inr.inr.inl =>
          have e1 : L' = L := by rw [hL']; unfold actR; rw [if_neg (by omega), if_neg (by omega)]
          have hC7 := hC
          rw [← e1] at hC7
          have hm7 : Mod (fun i => i = cb) wr wr := Mod.refl _ _
          clear hL' e1
        case' inr.inr.inr.inr =>
          have e1 : L' = L := by rw [hL']; unfold actR; rw [if_neg (by omega), if_neg (by omega)]
          have hC7 := hC
          rw [← e1] at hC7
          have hm7 : Mod (fun i => i = cb) wr wr := Mod.refl _ _
          clear hL' e1
        all_goals
          go_wp2_with fail
          go_roundw
          case rel => exact ⟨k + 1, L', by omega, by go_num, hC7, hG', hmr.trans (hm7.mono (fun i h => by omega))⟩
          case measure => simp [intOf]; omega
      case neg =>
        obtain rfl : k = l.length := by omega
        obtain ⟨wo, rfl⟩ : ∃ wo : World, wo = wr := ⟨_, rfl⟩
        have HC := Lib.hid hcell
        have HG := Lib.hid hg
        clear hcell hg h
        go_wp2_with fail
        go_loopw [12, 13] (fun v i wr => ∃ (m : Nat), m ≤ 64 ∧ i = .int .i64 m ∧ wr.ownsRow wo.heap.size 3 1 v m (rowOf (fun g => (ofS L g).use) m) ∧ Mod (fun _ => False) wo wr) (fun _ i _ => 64 - (intOf i).toNat)
        case atStart => exact ⟨0, by omega, rfl, ⟨rfl, .inl ⟨rfl, rfl⟩⟩, Mod.refl _ _⟩
        case round =>
          obtain ⟨m, hm, rfl, hown, hmi⟩ := hrel
          by_cases hlm : m < 64
          case pos =>
            go_wp2_with fail
            refine (use_any cb L m _ (hC.keepN hmi)).mono ?_
            rintro e w5 ⟨rfl, hm5⟩
            have hown5 := ownsRow_keep hown hm5 (fun _ _ x => x)
            have hs5 := hmi.size
            have hs6 := hm5.size
            go_wp2_with (at_builtin; refine wpList_app rfl _ _ 30 rfl wo.heap.size 3 (.int .i64 0) 1 8 Try.underlying30 info_int rfl (by decide) (by decide) u12 m _ rfl (hown5.alloc _) ⟨w5.heap.size, 0, none⟩ 1 [.int .i64 (ofS L m).use] rfl rfl (cell_one_new _ _ _) (by simp [Value.oneCell']) (by omega) (by simp; omega) ?_; intro g cap1 w6 o6 m6 hg6 hlt6)
            have e1 := rowOf_succ (fun g => (ofS L g).use) m
            rw [← e1] at o6
            have hmi6 : Mod (fun _ => False) wo w6 := ((hmi.trans hm5).alloc _).trans' m6 (fun q hq e => by have := ownsRow_ge hown q e.symm; omega)
            clear e1
            go_roundw
            case rel => exact ⟨m + 1, by omega, by go_num, o6, hmi6⟩
            case measure => simp [intOf]; omega
          case neg =>
            obtain rfl : m = 64 := by omega
            rw [show ((64 : Nat) : Int) = 64 from rfl]
            have M2 : Mod (fun i => w2.heap.size ≤ i) w wr := M.trans (hmi.mono (fun _ x => x.elim))
            have hsep := ints_sep hch (cb := cb) (by omega)
            have hchr := hch.keep M2 (fun b hb => by omega)
            have hCr := hC.keepN hmi
            obtain ⟨ub, uc, rfl, hub, hul, hucells⟩ := row_open (by decide) hown
            have hcbo : cb < wo.heap.size := hC.blk.lt
            clear hown
            have hlaw := rolls_law hC.len chain n
            have hgive := rolls_give hC.len (by omega) hG chain n
            have hgood := fun g => ofS_good (by omega) hG g
            have hG' : CGood ((l.length : Int) + 1) (tryS L chain n) := try_good hC.len (by omega) hG chain n
            go_wp2_with fail
            refine (try_any cb L chain _ n l.length _ hCr hchr hG ⟨by omega, by omega⟩ hsep).mono ?_
            generalize tryS L chain n = L' at *
            generalize tryE L chain n = E at *
            generalize tryG L chain n = A at *
            rintro e w5 ⟨rfl, hm5, hC5⟩
            have u5 := fun j hj => hm5.keeps (hucells j hj) (by omega)
            have M5 : Mod (fun i => w2.heap.size ≤ i) w w5 := M2.trans (hm5.mono (fun i h => by omega))
            have m05 : Mod (fun _ => False) w w5 := (hm03.trans' (hmr.trans (hmi.mono (fun _ x => x.elim))) (fun i hi h => by omega)).trans' hm5 (fun i hi h => by omega)
            have HLAW := Lib.hid hlaw
            have HGIVE := Lib.hid hgive
            have HGOOD := Lib.hid hgood
            have HU := Lib.hid u5
            have hch5 := hch.keep M5 (fun b hb => by omega)
            clear hlaw hgive hgood u5 hucells
            go_wp2_with fail
            go_loopw [16, 17] (fun b i wr => ∃ (k : Nat), k ≤ chain.length ∧ i = .int .i64 k ∧ b = .bool (decide (other ∈ chain.take k)) ∧ w5 = wr) (fun _ i _ => chain.length - (intOf i).toNat)
            case atStart => exact ⟨0, by omega, rfl, by simp, rfl⟩
            case round =>
              obtain ⟨k, hk, rfl, rfl, rfl⟩ := hrel
              by_cases hlk : k < chain.length
              case pos =>
                obtain ⟨x, hx⟩ : ∃ x, chain[k]? = some x := ⟨_, List.getElem?_eq_getElem hlk⟩
                obtain ⟨b', off, rfl, hcx⟩ := intsAt_get hch5 hx
                have htk := take_succ_get hx
                cases hin : decide (other ∈ chain.take k) with
                | true =>
                  have h9 : decide (other ∈ chain.take (k + 1)) = true := by rw [htk]; simp only [decide_eq_true_eq] at hin ⊢; exact List.mem_append_left _ hin
                  have H9 := Lib.hid h9
                  clear hx htk hin h9
                  go_wp2_with fail
                  go_roundw
                  case rel => exact ⟨k + 1, by omega, by go_num, by rw [H9.out], trivial⟩
                  case measure => simp [intOf]; omega
                | false =>
                  have h9 : decide (other ∈ chain.take (k + 1)) = (x == other) := by
                    rw [htk]
                    simp only [decide_eq_false_iff_not] at hin
                    by_cases hxo : x = other
                    · subst hxo; simp
                    · rw [beq_eq_false_iff_ne.2 hxo, decide_eq_false_iff_not]
                      simp [hin]
                      exact fun e => hxo e.symm
                  have H9 := Lib.hid h9
                  clear hx htk hin h9
                  go_wp2_with fail
                  go_roundw
                  case rel => exact ⟨k + 1, by omega, by go_num, by rw [H9.out], trivial⟩
                  case measure => simp [intOf]; omega
              case neg =>
                obtain rfl : k = chain.length := by omega
                rw [List.take_length]
                obtain ⟨bin, hbin⟩ : ∃ b, b = decide (other ∈ chain) := ⟨_, rfl⟩
                rw [← hbin]
                have HBIN := Lib.hid hbin
                clear hbin
                rcases HLAW.out with ⟨rfl, huse⟩ | ⟨rfl, huse, m0, hm0, rfl, hn0, hn1, hover⟩ | ⟨rfl, rfl, hn0, huse⟩
                · have HUSE := Lib.hid huse
                  clear huse
                  go_wp2_with fail
                  go_loopw [18] (fun i wr => ∃ (m : Nat), m ≤ 64 ∧ i = .int .i64 m ∧ Mod (fun _ => False) w5 wr) (fun i _ => 64 - (intOf i).toNat)
                  case atStart => exact ⟨0, by omega, rfl, Mod.refl _ _⟩
                  case round =>
                    obtain ⟨m, hm, rfl, hmq⟩ := hrel
                    by_cases hlm' : m < 64
                    case pos =>
                      have c0 := hmq.keeps (HU.out m hlm') (fun x => x)
                      have hCq := hC5.keepN hmq
                      have b1 : ((ofS L' m).use != (ofS L m).use) = false := by rw [bne_eq_false_iff_eq]; exact HUSE.out m
                      have hmI : (m : Int) < 64 := by omega
                      have hmN : 0 ≤ (m : Int) := by omega
                      have q0 := fun x : Ext wr => x.cell c0
                      clear c0
                      go_wp2_with fail
                      refine wp_region_ext_lit (by kernel_rfl) (by kernel_rfl) ?_
                      repeat (go_big_quiet_step (first | (go_at_call 19; exact quiet_ext (use_any cb L' m _ (hCq.keepN (Ext.ok _))))))
                      refine wpQuiet_nil ?_
                      rintro w9 ⟨⟨w9', hm9⟩, he⟩
                      obtain rfl : w9 = w9' := he
                      clear q0
                      go_wp2_with fail
                      go_roundw
                      case rel => exact ⟨m + 1, by omega, by go_num, hmq.trans hm9⟩
                      case measure => simp [intOf]; omega
                    case neg =>
                      obtain rfl : m = 64 := by omega
                      rw [show ((64 : Nat) : Int) = 64 from rfl]
                      go_wp2_with fail
                      refine wp_region_ext_lit (by kernel_rfl) (by kernel_rfl) ?_
                      repeat (go_big_quiet_step (fail))
                      refine wpQuiet_nil ?_
                      rintro w9 ⟨⟨w9', hm9⟩, he⟩
                      obtain rfl : w9 = w9' := he
                      go_wp2_with fail
                      go_ret
                      exact ⟨rfl, (m05.trans hmq).trans hm9⟩
                · have HUSE := Lib.hid huse
                  have HOVER := Lib.hid hover
                  clear huse hover
                  go_wp2_with fail
                  go_loopw [18] (fun i wr => ∃ (m : Nat), m ≤ 64 ∧ i = .int .i64 m ∧ Mod (fun _ => False) w5 wr) (fun i _ => 64 - (intOf i).toNat)
                  case atStart => exact ⟨0, by omega, rfl, Mod.refl _ _⟩
                  case round =>
                    obtain ⟨m, hm, rfl, hmq⟩ := hrel
                    by_cases hlm' : m < 64
                    case pos =>
                      have c0 := hmq.keeps (HU.out m hlm') (fun x => x)
                      have hCq := hC5.keepN hmq
                      have b1 : ((ofS L' m).use != (ofS L m).use) = false := by rw [bne_eq_false_iff_eq]; exact HUSE.out m
                      have hmI : (m : Int) < 64 := by omega
                      have hmN : 0 ≤ (m : Int) := by omega
                      have q0 := fun x : Ext wr => x.cell c0
                      clear c0
                      go_wp2_with fail
                      refine wp_region_ext_lit (by kernel_rfl) (by kernel_rfl) ?_
                      repeat (go_big_quiet_step (first | (go_at_call 19; exact quiet_ext (use_any cb L' m _ (hCq.keepN (Ext.ok _))))))
                      refine wpQuiet_nil ?_
                      rintro w9 ⟨⟨w9', hm9⟩, he⟩
                      obtain rfl : w9 = w9' := he
                      clear q0
                      go_wp2_with fail
                      go_roundw
                      case rel => exact ⟨m + 1, by omega, by go_num, hmq.trans hm9⟩
                      case measure => simp [intOf]; omega
                    case neg =>
                      obtain rfl : m = 64 := by omega
                      rw [show ((64 : Nat) : Int) = 64 from rfl]
                      have hCq := hC5.keepN hmq
                      have c0 := hmq.keeps (HU.out m0 hm0) (fun x => x)
                      have q0 := fun x : Ext wr => x.cell c0
                      have hmI : (m0 : Int) < 64 := by omega
                      have hmN : 0 ≤ (m0 : Int) := by omega
                      have b1 : decide ((ofS L' m0).limit < (ofS L m0).use + n) = true := by simp; exact HOVER.out
                      have g0 := (HGOOD.out m0).1
                      have g1 := (HGOOD.out m0).2.1
                      have g2 : (ofS L m0).use ≤ 1099511627776 := by have := (HGOOD.out m0).2.2.1; omega
                      clear c0 g1
                      go_wp2_with fail
                      refine wp_region_ext_lit (by kernel_rfl) (by kernel_rfl) ?_
                      repeat (go_big_quiet_step (first | (go_at_call 20; exact quiet_ext (limit_any cb L' m0 _ (hCq.keepN (Ext.ok _))))))
                      refine wpQuiet_nil ?_
                      rintro w9 ⟨⟨w9', hm9⟩, he⟩
                      obtain rfl : w9 = w9' := he
                      go_wp2_with fail
                      go_ret
                      exact ⟨rfl, (m05.trans hmq).trans hm9⟩
                · have HUSE0 := Lib.hid huse
                  obtain ⟨hg1, hg2⟩ := HGIVE.out rfl
                  have HUSE := Lib.hid hg2
                  have HG1 := Lib.hid hg1
                  rcases Classical.em (0 ≤ other ∧ other < 64) with hot | hot
                  case' inr =>
                    by_cases ho : 0 ≤ other
                    case' pos =>
                      have ho' : decide (other < 64) = false := by simp; omega
                      have ho2 : decide (0 ≤ other) = true := by simp; omega
                    case' neg =>
                      have ho' : decide (0 ≤ other) = false := by simp; omega
                    all_goals clear huse
                  case' inl =>
                    obtain ⟨q, rfl⟩ : ∃ q : Nat, other = q := ⟨other.toNat, by omega⟩
                    have hqI : (q : Int) < 64 := hot.2
                    have hqN : 0 ≤ (q : Int) := hot.1
                    have c0 := HU.out q (by omega)
                    have q0 := fun x : Ext w5 => x.cell c0
                    have hq := huse q
                    clear c0 huse
                    cases bin
                    case' false =>
                      rw [if_neg (of_decide_eq_false HBIN.out.symm)] at hq
                      have b1 : ((ofS L' q).use == (ofS L q).use) = true := by rw [beq_iff_eq]; exact hq
                      have HQ := Lib.hid hq
                      clear hq
                    case' true =>
                      rw [if_pos (of_decide_eq_true HBIN.out.symm)] at hq
                      by_cases hn : 0 < n
                      case' pos =>
                        have bn : decide (0 < n) = true := by simp; omega
                        have b1 : ((ofS L' q).use == (ofS L q).use) = false := by rw [beq_eq_false_iff_ne]; omega
                        have HQ := Lib.hid hq
                        clear hq
                      case' neg =>
                        have bn : decide (0 < n) = false := by simp; omega
                        have b1 : ((ofS L' q).use == (ofS L q).use) = true := by rw [beq_iff_eq]; omega
                        have HQ := Lib.hid hq
                        clear hq
                  all_goals
                    go_wp2_with fail
                    refine wp_region_ext_lit (by kernel_rfl) (by kernel_rfl) ?_
                    repeat (go_big_quiet_step (first | (go_at_call 19; exact quiet_ext (use_any cb L' _ _ (hC5.keepN (Ext.ok _))))))
                    refine wpQuiet_nil ?_
                    rintro w9 ⟨⟨w9', hm9⟩, he⟩
                    obtain rfl : w9 = w9' := he
                    go_wp2_with fail
                    refine (give_any cb L' chain _ n ((l.length : Int) + 1) _ (hC5.keepN hm9) (hch5.keep hm9 (fun _ _ x => x)) hG' ⟨by omega, by omega⟩ hsep).mono ?_
                    rw [HG1.out]
                    have HUSE := HUSE
                    generalize giveS L' chain n = L3 at *
                    rintro e w10 ⟨rfl, hm10, hC10⟩
                    have HU10 := Lib.hid (fun j (hj : j < 64) => hm10.keeps (hm9.keeps (HU.out j hj) (fun x => x)) (by omega))
                    have m10 : Mod (fun _ => False) w w10 := (m05.trans hm9).trans' hm10 (fun i hi h => by omega)
                    go_wp2_with fail
                    go_loopw [20] (fun i wr => ∃ (m : Nat), m ≤ 64 ∧ i = .int .i64 m ∧ Mod (fun _ => False) w10 wr) (fun i _ => 64 - (intOf i).toNat)
                    case atStart => exact ⟨0, by omega, rfl, Mod.refl _ _⟩
                    case round =>
                      obtain ⟨m, hm, rfl, hmq⟩ := hrel
                      by_cases hlm' : m < 64
                      case pos =>
                        have c0 := hmq.keeps (HU10.out m hlm') (fun x => x)
                        have hCq := hC10.keepN hmq
                        have b1 : ((ofS L3 m).use != (ofS L m).use) = false := by rw [bne_eq_false_iff_eq]; exact HUSE.out m
                        have hmI : (m : Int) < 64 := by omega
                        have hmN : 0 ≤ (m : Int) := by omega
                        have q0 := fun x : Ext wr => x.cell c0
                        clear c0
                        go_wp2_with fail
                        refine wp_region_ext_lit (by kernel_rfl) (by kernel_rfl) ?_
                        repeat (go_big_quiet_step (first | (go_at_call 19; exact quiet_ext (use_any cb L3 m _ (hCq.keepN (Ext.ok _))))))
                        refine wpQuiet_nil ?_
                        rintro w9 ⟨⟨w9', hm9⟩, he⟩
                        obtain rfl : w9 = w9' := he
                        clear q0
                        go_wp2_with fail
                        go_roundw
                        case rel => exact ⟨m + 1, by omega, by go_num, hmq.trans hm9⟩
                        case measure => simp [intOf]; omega
                      case neg =>
                        obtain rfl : m = 64 := by omega
                        rw [show ((64 : Nat) : Int) = 64 from rfl]
                        go_wp2_with fail
                        go_ret
                        exact ⟨rfl, m10.trans hmq⟩

set_option linter.unusedVariables false in
set_option maxRecDepth 100000 in
theorem counterRolls_lifted (os : Os) (started : os.Started) (H : Type) (enc : TypeId × Value → H) :
    ReturnsInHanded {} Try.checked os 4 .any (Rows.counterRollsSpec.pre6 enc Try.prog Try.f4 Rows.counterRollsRow.domain false) (Rows.counterRollsSpec.post enc Try.prog Try.f4 false true false false) := by
  refine returnsInHanded_of_change (C := Try.checked) own started (by kernel_rfl) Try.func4
    (ChangeSpec.witness6 (enc := enc) (C := Try.checked) false ⟨#[], #[.slice none 0 0, .slice none 0 0, .int .i64 0, .int .i64 0], []⟩ 8 (by kernel_rfl) (by kernel_rfl) (by kernel_rfl) (by kernel_rfl)) ?_
  intro W base args ds gs before hval0 hW hcnd _
  have hval : ∀ (j : Nat) t v, Try.f4.params[j]? = some t → args[j]? = some v → Value.okWide Try.prog W .any base t v := hval0
  have hW' := hW
  obtain ⟨p, q, hA0, hV, rfl, hfz, hnd⟩ := hW
  have hA : DataW.TrodAll enc Try.prog W 0 (fun _ => true) true Try.f4.params.toList args.toList ds p := hA0
  rw [Try.params4] at hA hval
  obtain ⟨v0, vs0, d0, ds0, p0, q0, hargs, rfl, rfl, h0, r0⟩ := trodAll_cons hA
  obtain ⟨v1, vs1, d1, ds1, p1, q1, rfl, rfl, rfl, h1, r1⟩ := trodAll_cons r0
  obtain ⟨v2, vs2, d2, ds2, p2, q2, rfl, rfl, rfl, h2, r2⟩ := trodAll_cons r1
  obtain ⟨v3, vs3, d3, ds3, p3, q3, rfl, rfl, rfl, h3, r3⟩ := trodAll_cons r2
  obtain ⟨rfl, rfl, rfl⟩ := trodAll_nil r3
  obtain rfl : args = #[v0, v1, v2, v3] := by cases args; simp_all
  obtain ⟨rfl, rfl⟩ := trodVars_none hV
  have k0 := h0
  have lt0 : ∀ x ∈ p0, x.block < W.heap.size := by obtain ⟨m, hm⟩ := k0; exact DataW.trod_lt m _ _ _ hm
  obtain ⟨x0, s0, g0⟩ := arg_slice Try.underlying22 (hval 0 22 v0 rfl rfl) (dec_slice (ec := ec4) 4 Try.underlying22 (by kernel_rfl) (fun _ => rfl) (by decide) dec_act) h0
  have k1 := h1
  have lt1 : ∀ x ∈ p1, x.block < W.heap.size := by obtain ⟨m, hm⟩ := k1; exact DataW.trod_lt m _ _ _ hm
  obtain ⟨x1, s1, g1⟩ := arg_slice Try.underlying30 (hval 1 30 v1 rfl rfl) dec_ints h1
  have k2 := h2
  have lt2 : ∀ x ∈ p2, x.block < W.heap.size := by obtain ⟨m, hm⟩ := k2; exact DataW.trod_lt m _ _ _ hm
  obtain ⟨x2, rfl, rfl, rfl, g2⟩ := open_int Try.underlying3 (hval 2 3 v2 rfl rfl) h2
  have k3 := h3
  have lt3 : ∀ x ∈ p3, x.block < W.heap.size := by obtain ⟨m, hm⟩ := k3; exact DataW.trod_lt m _ _ _ hm
  obtain ⟨x3, rfl, rfl, rfl, g3⟩ := open_int Try.underlying3 (hval 3 3 v3 rfl rfl) h3
  obtain ⟨l0, a0, b0⟩ := acts_of s0 g0
  clear hA0 hval0
  refine (law_rolls l0 v0 v1 x1 x2 x3 W a0 b0 s1.ints).mono fun e W' ⟨he, bel0⟩ => ?_
  have bel := Mod.none bel0
  subst he
  exact ⟨_, rfl, _, _, _, [], _, [], hW', trodAll_mk1 (shut_bool Try.underlying4 _), (trodAll_cons_mk (Below.trod laidOut (by kernel_rfl) (of_decide_eq_true (by kernel_rfl)) k0 bel lt0) (trodAll_cons_mk (Below.trod laidOut (by kernel_rfl) (of_decide_eq_true (by kernel_rfl)) k1 bel lt1) (trodAll_cons_mk (Below.trod laidOut (by kernel_rfl) (of_decide_eq_true (by kernel_rfl)) k2 bel lt2) (trodAll_cons_mk (Below.trod laidOut (by kernel_rfl) (of_decide_eq_true (by kernel_rfl)) k3 bel lt3) trodAll_mk0)))), rfl, bel.frame _, fun h => by cases h⟩

theorem counterRolls_holds : Rows.CounterRollsSaid :=
  OpenClaim.holds_of_wide 4 Try.f4 rfl rfl rfl rfl rfl rfl rfl ⟨rfl, rfl, rfl, rfl, rfl⟩ rfl rfl rfl rfl rfl (by kernel_rfl) Try.func4 (by kernel_rfl)
    (of_decide_eq_true (by kernel_rfl)) (by unfold Func.isWrapper; first | (rw [if_pos (by decide +kernel)]; kernel_rfl) | (rw [if_neg (by decide +kernel)]; exact ⟨rfl, rfl⟩))
    (fun os started H enc _ => counterRolls_lifted os started H enc)
#print axioms counterRolls_holds

end Go.Proofs.Ytccjpmiddfmdpaa
