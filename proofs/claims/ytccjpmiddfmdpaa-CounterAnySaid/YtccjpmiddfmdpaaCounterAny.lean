/-
  CounterAny: in whatever order a chain is told, it fails, or not; and nothing else is used: the law returns true for every input, and changes nothing that was there.
-/
import Derived.Test.YtccjpmiddfmdpaaCntG
import Derived.Test.YtccjpmiddfmdpaaLib2
namespace Go.Proofs.Ytccjpmiddfmdpaa
open Go.RowKit Go.ChangeShapes Go.WideShapes Go.ChangeAt

theorem rightB_reverse (chain : List Int) (n : Int) : rightB chain.reverse n = rightB chain n := by
  unfold rightB chainB
  rw [List.all_reverse]
  congr 2
  refine decide_eq_decide.2 ?_
  unfold List.Nodup
  rw [List.pairwise_reverse]
  exact ⟨fun h => h.imp (fun h e => h e.symm), fun h => h.imp (fun h e => h e.symm)⟩

theorem any_law {l : List Cnt} (hl : l.length = 64) (chain : List Int) (n : Int) :
    tryE l chain.reverse n = tryE l chain n ∧ ∀ g, (ofS (tryS l chain.reverse n) g).use = (ofS (tryS l chain n) g).use := by
  have hr := rightB_reverse chain n
  rcases try_cases l chain n hl with ⟨a1, a2, a3, a4⟩ | ⟨a1, m, a2, a3, a4, a5, a6, a7⟩ | ⟨a1, a2, a3, a4, a5⟩
  · rcases try_cases l chain.reverse n hl with ⟨b1, b2, b3, b4⟩ | ⟨b1, _⟩ | ⟨b1, _⟩
    · rw [a3, b3, a4, b4]; exact ⟨rfl, fun _ => rfl⟩
    · rw [hr, a1] at b1; cases b1
    · rw [hr, a1] at b1; cases b1
  · rcases try_cases l chain.reverse n hl with ⟨b1, b2, b3, b4⟩ | ⟨b1, m', b2, b3, b4, b5, b6, b7⟩ | ⟨b1, b2, b3, b4, b5⟩
    · rw [hr, a1] at b1; cases b1
    · refine ⟨by rw [a5, b5], fun g => ?_⟩
      rw [a7, b7]
      split <;> split <;> rfl
    · have := b4 m (List.mem_reverse.2 a3)
      rw [a6] at this
      cases this
  · rcases try_cases l chain.reverse n hl with ⟨b1, b2, b3, b4⟩ | ⟨b1, m', b2, b3, b4, b5, b6, b7⟩ | ⟨b1, b2, b3, b4, b5⟩
    · rw [hr, a1] at b1; cases b1
    · have := a4 m' (List.mem_reverse.1 b3)
      rw [b6] at this
      cases this
    · refine ⟨by rw [a3, b3], fun g => ?_⟩
      rw [a5, b5]
      simp only [List.mem_reverse]

def irow (l : List Int) : List Value := l.map (Value.int .i64)

theorem ints_of_row {w : World} {base n : Nat} {v : Value} {xs : List Int} (h : w.ownsRow base 3 1 v n (irow xs)) : IntsAt w v xs := by
  have hl : xs.length = n := by have := h.1; unfold irow at this; rw [List.length_map] at this; omega
  rcases id h.2 with ⟨rfl, rfl⟩ | ⟨g, cap, cur, rfl, hb, hg, hc, hm, _⟩
  · refine ⟨none, 0, by rw [hl], by omega, by unfold maxLen; omega, fun j hj => by omega⟩
  · refine ⟨some ⟨g, 0, none⟩, cap, by rw [hl], by omega, hm, fun j hj => ⟨g, 0, rfl, ?_⟩⟩
    rw [Nat.zero_add, h.cellAt j (by omega)]
    unfold irow
    rw [List.getElem?_map, List.getD_eq_getElem?_getD, List.getElem?_eq_getElem hj]
    rfl

theorem irow_back {chain : List Int} {p : Nat} {x : Int} (hx : chain[p]? = some x) : irow (chain.reverse.take (chain.length - (p + 1))) ++ [.int .i64 x] = irow (chain.reverse.take (chain.length - p)) := by
  have hp : p < chain.length := by
    rcases Nat.lt_or_ge p chain.length with h | h
    · exact h
    · rw [List.getElem?_eq_none h] at hx; cases hx
  have e : chain.length - p = (chain.length - (p + 1)) + 1 := by omega
  unfold irow
  rw [e, List.take_add_one, List.map_append, List.getElem?_reverse (by omega)]
  rw [show chain.length - 1 - (chain.length - (p + 1)) = p by omega, hx]
  rfl

def actA (l : List Cnt) (a : CAct) : List Cnt := if a.k.tmod 3 = 2 then setLimS l a.g a.n else tryS l a.ns a.n

theorem actA_good {F : Int} {l : List Cnt} (hl : l.length = 64) (hF : 0 ≤ F) (h : CGood F l) (a : CAct) : CGood (F + 1) (actA l a) := by
  unfold actA
  split
  · exact (setLim_good hl hF h _ _).mono (by omega)
  · exact try_good hl hF h _ _

set_option maxRecDepth 100000 in
set_option maxHeartbeats 2000000 in
theorem law_any (l : List CAct) (v cv : Value) (chain : List Int) (n : Int) (w : World) (h : RowsAt ecAct 4 w v l) (hg : ∀ a ∈ l, IntsAt w a.v a.ns) (hch : IntsAt w cv chain) :
    Calls Try.prog 7 #[v, cv, .int .i64 n] w fun e w' => e = .returned (.bool true) ∧ Mod (fun _ => False) w w' := by
  obtain ⟨va, vc, rfl, hcap, hmax, hcell⟩ := act_cells h
  obtain ⟨xa, xc, rfl, hxcap, hxmax, hxj⟩ := id hch
  clear hxj
  unfold maxLen at hmax hxmax
  go_enter Try.func7, Try.ntmps7
  go_wp2_with fail
  refine (works_any _).mono ?_
  rintro e w1 ⟨rfl, hm1⟩
  go_wp2_with fail
  refine (over_any l _ _ (h.keep ecAct_len hm1 (fun _ _ x => x)) (fun a ha => (hg a ha).keep hm1 (fun _ _ x => x))).mono ?_
  cases hov : overB l with
  | true =>
    clear hov
    rintro e w2 ⟨rfl, hm2⟩
    go_wp2_with fail
    go_ret
    exact ⟨rfl, hm1.trans hm2⟩
  | false =>
    have hl80 : l.length ≤ 80 := by unfold overB at hov; simp at hov; omega
    clear hov
    rintro e w2 ⟨rfl, hm2⟩
    by_cases hx80 : chain.length ≤ 80
    case neg =>
      have hd : decide (80 < (chain.length : Int)) = true := by simp; omega
      go_wp2_with fail
      go_ret
      exact ⟨rfl, hm1.trans hm2⟩
    have hd : decide (80 < (chain.length : Int)) = false := by simp; omega
    go_wp2_with fail
    refine (newC_any _).mono ?_
    rintro e w3 ⟨cb, rfl, hm3, hc3, hb3⟩
    clear hd
    go_wp2_with fail
    refine (newC_any _).mono ?_
    rintro e w4 ⟨db, rfl, hm4, hd4, hb4⟩
    have hc4 := hc3.keepN hm4
    have hcd : cb < db := by have := hc3.blk.lt; omega
    have hs2 : w.heap.size ≤ w2.heap.size := by have := hm1.size; have := hm2.size; omega
    have hm04 : Mod (fun _ => False) w w4 := ((hm1.trans hm2).trans hm3).trans hm4
    go_wp2_with fail
    go_loopw [10] (fun i wr => ∃ (k : Nat) (L : List Cnt), k ≤ l.length ∧ i = .int .i64 k ∧ CntIs wr cb L ∧ CntIs wr db L ∧ CGood k L ∧ Mod (fun i => w2.heap.size ≤ i) w4 wr) (fun i _ => l.length - (intOf i).toNat)
    case atStart => exact ⟨0, newC, by omega, rfl, hc4, hd4, newC_good, Mod.refl _ _⟩
    case round =>
      obtain ⟨k, L, hk, rfl, hC, hD, hG, hmr⟩ := hrel
      have M : Mod (fun i => w2.heap.size ≤ i) w wr := (hm04.mono (fun _ x => x.elim)).trans hmr
      by_cases hlt : k < l.length
      case pos =>
        obtain ⟨a, ha⟩ : ∃ a, l[k]? = some a := ⟨_, List.getElem?_eq_getElem hlt⟩
        have hmem := List.mem_of_getElem? ha
        obtain ⟨ab, aoff, rfl, d0, d1, d2, d3⟩ := hcell k a ha
        have hai := hg a hmem
        have hsep := ints_sep hai (cb := cb) (by omega)
        have hsed := ints_sep hai (cb := db) (by omega)
        have hdl := lt_of_cell d0
        have HA := Lib.hid ha
        have HG := Lib.hid hg
        have HC := Lib.hid hcell
        have k0 := M.keeps d0 (by omega)
        have k1 := M.keeps d1 (by omega)
        have k2 := M.keeps d2 (by omega)
        have k3 := M.keeps d3 (by omega)
        have hair := hai.keep M (fun b hb => by omega)
        clear ha hg hcell hmem h d0 d1 d2 d3
        obtain ⟨L', hL'⟩ : ∃ L', L' = actA L a := ⟨_, rfl⟩
        have hG' : CGood ((k + 1 : Nat) : Int) L' := by rw [hL', Int.natCast_succ]; exact actA_good hC.len (by omega) hG a
        by_cases hr : a.k.tmod 3 = 2
        case' pos =>
          have e1 : L' = setLimS L a.g a.n := by rw [hL']; unfold actA; rw [if_pos hr]
          clear hL'
          go_wp2_with fail
          go_still_tail 11, (by kernel_rfl)
          go_wp2_with fail
          refine (setLimit_any cb L a.g a.n _ (hC.keepN (Mod.refl _ _).drew)).mono ?_
          rw [← e1]
          rintro e w7 ⟨rfl, hm7', hC7⟩
          have hm7 : Mod (fun i => i = cb) wr w7 := (Mod.refl _ _).drew.trans hm7'
          have hD7 := hD.keep hm7 (by omega)
          replace k0 := hm7.keeps k0 (by omega)
          replace k1 := hm7.keeps k1 (by omega)
          replace k2 := hm7.keeps k2 (by omega)
          replace k3 := hm7.keeps k3 (by omega)
          clear hm7'
          go_wp2_with fail
          go_still_tail 11, (by kernel_rfl)
          go_wp2_with fail
          refine (setLimit_any db L a.g a.n _ (hD7.keepN (Mod.refl _ _).drew)).mono ?_
          rw [← e1]
          rintro e w8 ⟨rfl, hm8', hD8⟩
          have hm8 : Mod (fun i => i = db) w7 w8 := (Mod.refl _ _).drew.trans hm8'
          have hC8 := hC7.keep hm8 (by omega)
          clear hr e1 hm8'
        case' neg =>
          have e1 : L' = tryS L a.ns a.n := by rw [hL']; unfold actA; rw [if_neg hr]
          have hr' : (a.k.tmod 3 == 2) = false := by simp; omega
          clear hL'
          go_wp2_with fail
          go_still_tail 11, (by kernel_rfl)
          go_wp2_with fail
          refine (try_any cb L a.ns _ a.n k _ (hC.keepN (Mod.refl _ _).drew) (hair.keep (Mod.refl (fun _ => False) _).drew (fun _ _ x => x)) hG ⟨by omega, by omega⟩ hsep).mono ?_
          rw [← e1]
          rintro e w7 ⟨rfl, hm7', hC7⟩
          have hm7 : Mod (fun i => i = cb) wr w7 := (Mod.refl _ _).drew.trans hm7'
          have hD7 := hD.keep hm7 (by omega)
          have hair7 := hai.keep (M.trans (hm7.mono (fun i h => by omega))) (fun b hb => by omega)
          replace k0 := hm7.keeps k0 (by omega)
          replace k1 := hm7.keeps k1 (by omega)
          replace k2 := hm7.keeps k2 (by omega)
          replace k3 := hm7.keeps k3 (by omega)
          clear hm7'
          go_wp2_with fail
          go_still_tail 11, (by kernel_rfl)
          go_wp2_with fail
          refine (try_any db L a.ns _ a.n k _ (hD7.keepN (Mod.refl _ _).drew) (hair7.keep (Mod.refl (fun _ => False) _).drew (fun _ _ x => x)) hG ⟨by omega, by omega⟩ hsed).mono ?_
          rw [← e1]
          rintro e w8 ⟨rfl, hm8', hD8⟩
          have hm8 : Mod (fun i => i = db) w7 w8 := (Mod.refl _ _).drew.trans hm8'
          have hC8 := hC7.keep hm8 (by omega)
          clear hr e1 hm8'
        all_goals
          go_wp2_with fail
          go_roundw
          case rel => exact ⟨k + 1, L', by omega, by go_num, hC8, hD8, hG', (hmr.trans (hm7.mono (fun i h => by omega))).trans (hm8.mono (fun i h => by omega))⟩
          case measure => simp [intOf]; omega
      case neg =>
        obtain rfl : k = l.length := by omega
        obtain ⟨wo, rfl⟩ : ∃ wo : World, wo = wr := ⟨_, rfl⟩
        have HC := Lib.hid hcell
        have HG := Lib.hid hg
        clear hcell hg h
        go_wp2_with fail
        go_loopw [11, 12] (fun b i wr => ∃ (q : Nat), q ≤ chain.length ∧ i = .int .i64 ((q : Int) - 1) ∧ wr.ownsRow wo.heap.size 3 1 b (chain.length - q) (irow (chain.reverse.take (chain.length - q))) ∧ Mod (fun _ => False) wo wr) (fun _ i _ => (intOf i + 1).toNat)
        case atStart => exact ⟨chain.length, by omega, rfl, ⟨by rw [Nat.sub_self]; rfl, .inl ⟨rfl, Nat.sub_self _⟩⟩, Mod.refl _ _⟩
        case round =>
          obtain ⟨q, hq, rfl, hown, hmi⟩ := hrel
          have M2 : Mod (fun i => w2.heap.size ≤ i) w wr := M.trans (hmi.mono (fun _ x => x.elim))
          have hchr := hch.keep M2 (fun b hb => by omega)
          cases q with
          | succ p =>
            rw [show ((p + 1 : Nat) : Int) - 1 = p by omega]
            obtain ⟨x, hx⟩ : ∃ x, chain[p]? = some x := ⟨_, List.getElem?_eq_getElem (by omega)⟩
            obtain ⟨b', off, rfl, hcx⟩ := intsAt_get hchr hx
            have hb := irow_back hx
            have HX := Lib.hid hx
            have HB := Lib.hid hb
            have hpI : (p : Int) < chain.length := by omega
            clear hx hb
            have hsz := hmi.size
            go_wp2_with (at_builtin; refine wpList_app rfl _ _ 30 rfl wo.heap.size 3 (.int .i64 0) 1 8 Try.underlying30 info_int rfl (by decide) (by decide) u11 (chain.length - (p + 1)) _ rfl (hown.alloc _) ⟨wr.heap.size, 0, none⟩ 1 [.int .i64 x] rfl rfl (cell_one_new _ _ _) (by simp [Value.oneCell']) (by omega) (by simp; omega) ?_; intro g6 cap1 w6 o6 m6 hg6 hlt6)
            have e1 := HB.out
            have e2 : chain.length - (p + 1) + 1 = chain.length - p := by omega
            rw [e1, e2] at o6
            rw [e2]
            clear e1 e2
            have hmi6 : Mod (fun _ => False) wo w6 := (hmi.alloc _).trans' m6 (fun q hq e => by have := ownsRow_ge hown q e.symm; omega)
            go_roundw
            case rel => exact ⟨p, by omega, by go_num, o6, hmi6⟩
            case measure => simp [intOf]
          | zero =>
            rw [show ((0 : Nat) : Int) - 1 = -1 from rfl]
            rw [Nat.sub_zero, List.take_of_length_le (by rw [List.length_reverse]; omega)] at hown
            have hback := ints_of_row hown
            have hsep := ints_sep hch (cb := cb) (by omega)
            have hdbo : db < wo.heap.size := hD.blk.lt
            have hseb : chain.reverse ≠ [] → ∀ g, u11.ownBlock = some g → g ≠ db := fun _ g hg => by have := ownsRow_ge hown g hg; omega
            have hcbb : ∀ g, u11.ownBlock = some g → g ≠ cb := fun g hg => by have := ownsRow_ge hown g hg; omega
            have hown2 : ∀ w', Mod (fun i => i = cb) wr w' → IntsAt w' u11 chain.reverse := fun w' hm => ints_of_row (ownsRow_keep hown hm (fun g hg e => hcbb g hg e))
            clear hown hback
            have hlaw := any_law hC.len chain n
            go_wp2_with fail
            refine (try_any cb L chain _ n l.length _ (hC.keepN hmi) hchr hG ⟨by omega, by omega⟩ hsep).mono ?_
            rintro e w5 ⟨rfl, hm5, hC5⟩
            go_wp2_with fail
            refine (try_any db L chain.reverse _ n l.length _ ((hD.keepN hmi).keep hm5 (by omega)) (hown2 _ hm5) hG ⟨by omega, by omega⟩ hseb).mono ?_
            rw [hlaw.1]
            have hu := hlaw.2
            clear hlaw
            generalize tryE L chain n = E at *
            rintro e w6 ⟨rfl, hm6, hD6⟩
            have hC6 := hC5.keep hm6 (by omega)
            have m06 : Mod (fun _ => False) w w6 := ((hm04.trans' (hmr.trans (hmi.mono (fun _ x => x.elim))) (fun i hi h => by omega)).trans' hm5 (fun i hi h => by omega)).trans' hm6 (fun i hi h => by omega)
            have HU := Lib.hid hu
            clear hu
            have hEE : (E == E) = true := by simp
            go_wp2_with fail
            go_loopw [17] (fun i wr => ∃ (m : Nat), m ≤ 64 ∧ i = .int .i64 m ∧ Mod (fun _ => False) w6 wr) (fun i _ => 64 - (intOf i).toNat)
            case atStart => exact ⟨0, by omega, rfl, Mod.refl _ _⟩
            case round =>
              obtain ⟨m, hm, rfl, hmq⟩ := hrel
              by_cases hlm' : m < 64
              case neg =>
                obtain rfl : m = 64 := by omega
                rw [show ((64 : Nat) : Int) = 64 from rfl]
                go_wp2_with fail
                go_ret
                exact ⟨rfl, m06.trans hmq⟩
              case pos =>
                go_wp2_with fail
                refine (use_any cb _ m _ (hC6.keepN hmq)).mono ?_
                rintro e w7 ⟨rfl, hm7⟩
                go_wp2_with fail
                refine (use_any db _ m _ ((hD6.keepN hmq).keepN hm7)).mono ?_
                rw [HU.out]
                rintro e w8 ⟨rfl, hm8⟩
                go_wp2_with fail
                go_roundw
                case rel => exact ⟨m + 1, by omega, by go_num, (hmq.trans hm7).trans hm8⟩
                case measure => simp [intOf]; omega

set_option linter.unusedVariables false in
set_option maxRecDepth 100000 in
theorem counterAny_lifted (os : Os) (started : os.Started) (H : Type) (enc : TypeId × Value → H) :
    ReturnsInHanded {} Try.checked os 7 .any (Rows.counterAnySpec.pre6 enc Try.prog Try.f7 Rows.counterAnyRow.domain false) (Rows.counterAnySpec.post enc Try.prog Try.f7 false true false false) := by
  refine returnsInHanded_of_change (C := Try.checked) own started (by kernel_rfl) Try.func7
    (ChangeSpec.witness6 (enc := enc) (C := Try.checked) false ⟨#[], #[.slice none 0 0, .slice none 0 0, .int .i64 0], []⟩ 8 (by kernel_rfl) (by kernel_rfl) (by kernel_rfl) (by kernel_rfl)) ?_
  intro W base args ds gs before hval0 hW hcnd _
  have hval : ∀ (j : Nat) t v, Try.f7.params[j]? = some t → args[j]? = some v → Value.okWide Try.prog W .any base t v := hval0
  have hW' := hW
  obtain ⟨p, q, hA0, hV, rfl, hfz, hnd⟩ := hW
  have hA : DataW.TrodAll enc Try.prog W 0 (fun _ => true) true Try.f7.params.toList args.toList ds p := hA0
  rw [Try.params7] at hA hval
  obtain ⟨v0, vs0, d0, ds0, p0, q0, hargs, rfl, rfl, h0, r0⟩ := trodAll_cons hA
  obtain ⟨v1, vs1, d1, ds1, p1, q1, rfl, rfl, rfl, h1, r1⟩ := trodAll_cons r0
  obtain ⟨v2, vs2, d2, ds2, p2, q2, rfl, rfl, rfl, h2, r2⟩ := trodAll_cons r1
  obtain ⟨rfl, rfl, rfl⟩ := trodAll_nil r2
  obtain rfl : args = #[v0, v1, v2] := by cases args; simp_all
  obtain ⟨rfl, rfl⟩ := trodVars_none hV
  have k0 := h0
  have lt0 : ∀ x ∈ p0, x.block < W.heap.size := by obtain ⟨m, hm⟩ := k0; exact DataW.trod_lt m _ _ _ hm
  obtain ⟨x0, s0, g0⟩ := arg_slice Try.underlying22 (hval 0 22 v0 rfl rfl) (dec_slice (ec := ec4) 4 Try.underlying22 (by kernel_rfl) (fun _ => rfl) (by decide) dec_act) h0
  have k1 := h1
  have lt1 : ∀ x ∈ p1, x.block < W.heap.size := by obtain ⟨m, hm⟩ := k1; exact DataW.trod_lt m _ _ _ hm
  obtain ⟨x1, s1, g1⟩ := arg_slice Try.underlying30 (hval 1 30 v1 rfl rfl) dec_ints h1
  have k2 := h2
  have lt2 : ∀ x ∈ p2, x.block < W.heap.size := by obtain ⟨m, hm⟩ := k2; exact DataW.trod_lt m _ _ _ hm
  obtain ⟨x2, rfl, rfl, rfl, g2⟩ := open_int Try.underlying3 (hval 2 3 v2 rfl rfl) h2
  obtain ⟨l0, a0, b0⟩ := acts_of s0 g0
  clear hA0 hval0
  refine (law_any l0 v0 v1 x1 x2 W a0 b0 s1.ints).mono fun e W' ⟨he, bel0⟩ => ?_
  have bel := Mod.none bel0
  subst he
  exact ⟨_, rfl, _, _, _, [], _, [], hW', trodAll_mk1 (shut_bool Try.underlying4 _), (trodAll_cons_mk (Below.trod laidOut (by kernel_rfl) (of_decide_eq_true (by kernel_rfl)) k0 bel lt0) (trodAll_cons_mk (Below.trod laidOut (by kernel_rfl) (of_decide_eq_true (by kernel_rfl)) k1 bel lt1) (trodAll_cons_mk (Below.trod laidOut (by kernel_rfl) (of_decide_eq_true (by kernel_rfl)) k2 bel lt2) trodAll_mk0))), rfl, bel.frame _, fun h => by cases h⟩

theorem counterAny_holds : Rows.CounterAnySaid :=
  OpenClaim.holds_of_wide 7 Try.f7 rfl rfl rfl rfl rfl rfl rfl ⟨rfl, rfl, rfl, rfl, rfl⟩ rfl rfl rfl rfl rfl (by kernel_rfl) Try.func7 (by kernel_rfl)
    (of_decide_eq_true (by kernel_rfl)) (by unfold Func.isWrapper; first | (rw [if_pos (by decide +kernel)]; kernel_rfl) | (rw [if_neg (by decide +kernel)]; exact ⟨rfl, rfl⟩))
    (fun os started H enc _ => counterAny_lifted os started H enc)
#print axioms counterAny_holds

end Go.Proofs.Ytccjpmiddfmdpaa
