/-
  Contracts: millpondref16's Pick; both packages' Doomed.
-/
import Derived.Test.YtjmcfodlhhndoaaVicB
namespace Go.Proofs.Ytjmcfodlhhndoaa
open Go.RowKit Go.ChangeShapes Go.WideShapes Go.ChangeAt

set_option maxRecDepth 100000 in
set_option maxHeartbeats 4000000 in
theorem refPick_any (ps : List Prc) (pv : Value) (ins : List Int) (iv : Value) (w : World) (hp : RowsAt ecP 3 w pv ps) (hi : IntsAt w iv ins) :
    Calls Try.prog 12 #[pv, iv] w fun e w' => e = .returned (.int .i64 (pickK ps ins ps.length).1) ∧ Mod (fun _ => False) w w' := by
  obtain ⟨pa, pc, rfl, hcap, hmax, hcell⟩ := prc_cells hp
  unfold maxLen at hmax
  obtain ⟨ia, ic, rfl, _⟩ := id hi
  have HC := Lib.hid hcell
  have HI := Lib.hid hi
  clear hp hcell hi
  go_enter Try.func12, Try.ntmps12
  go_wp2_with fail
  go_loopw [5, 6] (fun a i wr => ∃ k : Nat, k ≤ ps.length ∧ i = .int .i64 k ∧ a = .int .i64 (pickK ps ins k).1 ∧ Mod (fun _ => False) w wr) (fun _ i _ => ps.length - (intOf i).toNat)
  case atStart => exact ⟨0, by omega, rfl, rfl, Mod.refl _ _⟩
  case round =>
    obtain ⟨k, hk, rfl, rfl, hmr⟩ := hrel
    obtain ⟨wo, rfl⟩ : ∃ wo : World, wo = wr := ⟨_, rfl⟩
    by_cases hlt : k < ps.length
    · obtain ⟨p, hpk⟩ : ∃ p, ps[k]? = some p := ⟨_, List.getElem?_eq_getElem hlt⟩
      obtain ⟨ab, aoff, rfl, d0, d1, d2⟩ := HC.out k p hpk
      have e0 := hmr.keeps d0 (fun x => x)
      have e1 := hmr.keeps d1 (fun x => x)
      have e2 := hmr.keeps d2 (fun x => x)
      have hsucc := pickK_succ (ins := ins) hpk
      unfold stepP at hsucc
      have hok := pick_ok ps ins k
      obtain ⟨s, hs⟩ : ∃ s, s = pickK ps ins k := ⟨_, rfl⟩
      rw [← hs] at hsucc hok ⊢
      have hI := HI.out.keep hmr (fun _ _ x => x)
      have hkI : (k : Int) < ps.length := by omega
      have hkN : 0 ≤ (k : Int) := by omega
      have x0 := fun x : Ext wo => x.cell e0
      have x1 := fun x : Ext wo => x.cell e1
      have x2 := fun x : Ext wo => x.cell e2
      have HS := Lib.hid hs
      have HII := Lib.hid hI
      have HSU := Lib.hid hsucc
      clear d0 d1 d2 hpk hsucc e0 e1 hs hI
      have hcases : (p.live = false ∧ okP ins s.2 p = false) ∨ (p.live = true ∧ decide (0 < p.size) = false ∧ okP ins s.2 p = false) ∨ (p.live = true ∧ decide (0 < p.size) = true ∧ decide (p.group ∈ ins) = false ∧ okP ins s.2 p = false) ∨
          (p.live = true ∧ decide (0 < p.size) = true ∧ decide (p.group ∈ ins) = true ∧ s.1 = -1 ∧ okP ins s.2 p = true) ∨
          (p.live = true ∧ decide (0 < p.size) = true ∧ decide (p.group ∈ ins) = true ∧ ∃ (j : Nat) (q : Prc), s.1 = j ∧ j < k ∧ ps[j]? = some q ∧ okP ins s.2 p = decide (q.size < p.size)) := by
        unfold okP
        cases hl : p.live with
        | false => exact .inl ⟨rfl, rfl⟩
        | true =>
          right
          have h0 : 0 ≤ s.2 := by rcases hok with h | ⟨_, _, _, _, _, _, _, _, h⟩ <;> omega
          by_cases hsz : 0 < p.size
          · right
            by_cases hg : p.group ∈ ins
            · right
              rcases hok with ⟨h1, h2⟩ | ⟨j, q, h1, h2, h3, h4, h5, h6, h7⟩
              · left
                refine ⟨rfl, by simp [hsz], by simp [hg], h1, ?_⟩
                rw [h2]; simp [hsz, hg]
              · right
                refine ⟨rfl, by simp [hsz], by simp [hg], j, q, h1, h2, h3, ?_⟩
                rw [h6]; simp [hg]
            · left
              exact ⟨rfl, by simp [hsz], by simp [hg], by simp [hg]⟩
          · left
            have : ¬ s.2 < p.size := by omega
            exact ⟨rfl, by simp; omega, by simp [this]⟩
      clear hok
      rcases hcases with ⟨c1, hok⟩ | ⟨c1, c2, hok⟩ | ⟨c1, c2, c3, hok⟩ | ⟨c1, c2, c3, c4, hok⟩ | ⟨c1, c2, c3, j, q, c4, hjk, hjq, hok⟩
      case' inl =>
        rw [c1] at x2
        rw [hok, if_neg (by decide)] at HSU
        clear hok c1
      case' inr.inl =>
        rw [c1] at x2
        rw [hok, if_neg (by decide)] at HSU
        clear hok c1
      case' inr.inr.inl =>
        rw [c1] at x2
        rw [hok, if_neg (by decide)] at HSU
        have hin : ∀ x : Ext wo, Calls Try.prog 19 #[.slice ia ins.length ic, .int .i64 p.group] x.to fun e w' => e = .returned (.bool false) ∧ x.to = w' := fun x => by
          have := in_any ins _ p.group _ (HII.out.keep x.ok (fun _ _ x => x))
          rw [c3] at this
          exact this
        clear hok c1 c3
      case' inr.inr.inr.inl =>
        rw [c1] at x2
        rw [hok, if_pos rfl] at HSU
        have hin : ∀ x : Ext wo, Calls Try.prog 19 #[.slice ia ins.length ic, .int .i64 p.group] x.to fun e w' => e = .returned (.bool true) ∧ x.to = w' := fun x => by
          have := in_any ins _ p.group _ (HII.out.keep x.ok (fun _ _ x => x))
          rw [c3] at this
          exact this
        have t0 : decide (s.1 < 0) = true := by rw [c4]; rfl
        clear hok c1 c3 c4
      case' inr.inr.inr.inr =>
        rw [c1] at x2
        have hin : ∀ x : Ext wo, Calls Try.prog 19 #[.slice ia ins.length ic, .int .i64 p.group] x.to fun e w' => e = .returned (.bool true) ∧ x.to = w' := fun x => by
          have := in_any ins _ p.group _ (HII.out.keep x.ok (fun _ _ x => x))
          rw [c3] at this
          exact this
        obtain ⟨_, _, eq3, f0, f1, f2⟩ := HC.out j q hjq
        injection eq3 with eq3
        injection eq3 with eq3 eq4
        subst eq3 eq4
        have g1 := hmr.keeps f1 (fun x => x)
        have x3 := fun x : Ext wo => x.cell g1
        have C4 := Lib.hid c4
        rw [c4]
        have t0 : decide ((j : Int) < 0) = false := by simp
        have hjI : (j : Int) < ps.length := by omega
        have hjN : 0 ≤ (j : Int) := by omega
        rw [hok] at HSU
        clear hok c1 c3 c4 hjq f0 f1 f2 g1
        cases hq : decide (q.size < p.size)
        case' false => rw [hq, if_neg (by decide)] at HSU
        case' true => rw [hq, if_pos rfl] at HSU
      all_goals
        clear e2
        go_wp2_with fail
        refine wp_region_ext_lit (by kernel_rfl) (by kernel_rfl) ?_
        repeat (go_big_quiet_step (first | (go_at_call 19; exact quiet_ext_same (hin _)) | fail))
        refine wpQuiet_nil ?_
        rintro w9 ⟨⟨w9', hm9⟩, he⟩
        obtain rfl : w9 = w9' := he
        clear x0 x1 x2
        go_wp2_with fail
        go_roundw
        case rel => exact ⟨k + 1, by omega, by go_num, by first | (rw [HSU.out]; done) | rw [HSU.out, C4.out], hmr.trans hm9⟩
        case measure => simp [intOf]; omega
    · obtain rfl : k = ps.length := by omega
      go_wp2_with fail
      go_ret
      exact ⟨rfl, hmr⟩

theorem vicL_cases {L : List Grp} {ps : List Prc} {t : Int} : (vicL L ps t < 0 ∧ vicL L ps t = -1) ∨ ∃ (j : Nat) (p : Prc), vicL L ps t = j ∧ j < ps.length ∧ ps[j]? = some p ∧ p.live = true ∧ p.group ∈ belowL L t := by
  unfold vicL
  rcases pick_ok ps (belowL L t) ps.length with ⟨h1, _⟩ | ⟨j, p, h1, h2, h3, h4, h5, _⟩
  · left; rw [h1]; exact ⟨by decide, rfl⟩
  · exact .inr ⟨j, p, h1, h2, h3, h4, h5⟩

theorem ints_one (w : World) (x : Int) : IntsAt (w.alloc (.cells #[.int .i64 x] 3)) (.slice (some ⟨w.heap.size, 0, none⟩) 1 1) [x] := by
  refine ⟨_, 1, rfl, by simp, by simp [maxLen], fun j hj => ⟨w.heap.size, 0, rfl, ?_⟩⟩
  simp only [List.length_cons, List.length_nil] at hj
  rw [Nat.zero_add, (Blk.new w #[.int .i64 x] 3).cell]
  match j, hj with
  | 0, _ => rfl

set_option maxRecDepth 100000 in
set_option maxHeartbeats 4000000 in
theorem doomed_any (b g c : Nat) (L : List Grp) (ps : List Prc) (pv : Value) (t : Int) (wh : List Bool) (wv : Value) (w : World) (h : TreeAt w b g c L) (hp : RowsAt ecP 3 w pv ps) (hw : RowsAt ecB 1 w wv wh) (hl : ps.length ≤ 1000) :
    Calls Try.prog 16 #[.pointer (some ⟨b, 0, none⟩), pv, .int .i64 t, wv] w fun e w' => ∃ v, e = .returned v ∧ Mod (fun _ => False) w w' ∧ IntsAt w' v (doomL L ps t wh) := by
  obtain ⟨pa, pc, rfl, hcap, hmax, hcell⟩ := prc_cells hp
  unfold maxLen at hmax
  obtain ⟨wa, wc, rfl, _⟩ := id hw
  have HC := Lib.hid hcell
  have HP := Lib.hid hp
  have HW := Lib.hid hw
  clear hcell hp hw
  obtain ⟨r, hr⟩ : ∃ r, r = doomL L ps t wh := ⟨_, rfl⟩
  rw [← hr]
  unfold doomL at hr
  have HR := Lib.hid hr
  clear hr
  go_enter Try.func16, Try.ntmps16
  go_wp2_with fail
  refine (below_any b g c L t _ h).mono ?_
  rintro e w1 ⟨v1, rfl, hm1, hi1⟩
  obtain ⟨a1, k1, rfl, _⟩ := id hi1
  have hT1 := h.keepN hm1
  go_wp2_with fail
  refine (pick_any ps _ (belowL L t) _ _ (HP.out.keep ecP_len hm1 (fun _ _ x => x)) hi1).mono ?_
  rw [show (pickK ps (belowL L t) ps.length).1 = vicL L ps t from rfl]
  rintro e w2 ⟨rfl, hm2⟩
  have hT2 := hT1.keepN hm2
  have hm02 := hm1.trans hm2
  clear hi1
  rcases vicL_cases (L := L) (ps := ps) (t := t) with ⟨hneg, hv⟩ | ⟨j, p, hv, hj, hpj, hpl, hpg⟩
  · have hr := HR.out
    rw [if_pos hneg] at hr
    subst hr
    rw [hv]
    have d0 : decide ((-1 : Int) < 0) = true := rfl
    clear hneg hv HR
    go_wp2_with fail
    go_ret
    exact ⟨_, rfl, hm02, ints_of_row (base := 0) ⟨rfl, .inl ⟨rfl, rfl⟩⟩⟩
  · have hr := HR.out
    unfold atOnce at hr
    rw [hv, if_neg (by omega), grpOf_at hpj] at hr
    rw [hv]
    have d0 : decide ((j : Int) < 0) = false := by simp
    obtain ⟨ab, aoff, rfl, q0', q1', q2'⟩ := HC.out j p hpj
    have q0 := hm02.keeps q0' (fun x => x)
    have hjI : (j : Int) < ps.length := by omega
    have hjN : 0 ≤ (j : Int) := by omega
    have HR2 := Lib.hid hr
    clear HR hr hv hpj hpl hpg q0' q1' q2'
    go_wp2_with fail
    refine (chain_any b g c L p.group _ hT2).mono ?_
    rintro e w3 ⟨v3, rfl, hm3, hi3⟩
    obtain ⟨a3, k3, rfl, _⟩ := id hi3
    have hT3 := hT2.keepN hm3
    have hm03 := hm02.trans hm3
    go_wp2_with fail
    refine (whole_any (chainL L p.group) _ t wh _ _ hi3 (HW.out.keep (fun _ => rfl) hm03 (fun _ _ x => x))).mono ?_
    obtain ⟨W, hW⟩ : ∃ W, W = wholeL (chainL L p.group) t wh := ⟨_, rfl⟩
    rw [← hW]
    have hr := HR2.out
    rw [← hW] at hr
    clear hW hi3 HR2
    rintro e w4 ⟨rfl, hm4⟩
    have hT4 := hT3.keepN hm4
    have hm04 := hm03.trans hm4
    by_cases hWn : W < 0
    · rw [if_pos hWn] at hr
      subst hr
      have d1 : decide (W < 0) = true := by simp [hWn]
      clear hWn
      go_wp2_with fail
      go_ret
      exact ⟨_, rfl, hm04.alloc _, ints_one _ _⟩
    · rw [if_neg hWn] at hr
      have d1 : decide (W < 0) = false := by simp; omega
      have HR3 := Lib.hid hr
      clear hWn hr
      go_wp2_with fail
      refine (below_any b g c L W _ hT4).mono ?_
      rintro e w5 ⟨v5, rfl, hm5, hi5⟩
      obtain ⟨a5, k5, rfl, _⟩ := id hi5
      have hm05 := hm04.trans hm5
      clear d0 d1 q0
      go_wp2_with fail
      go_loopw [12, 41] (fun v i wr => ∃ k : Nat, k ≤ ps.length ∧ i = .int .i64 k ∧ wr.ownsRow w5.heap.size 3 1 v (doomK ps (belowL L W) k).length ((doomK ps (belowL L W) k).map encI) ∧ Mod (fun _ => False) w5 wr) (fun _ i _ => ps.length - (intOf i).toNat)
      case atStart => exact ⟨0, by omega, rfl, ⟨rfl, .inl ⟨rfl, rfl⟩⟩, Mod.refl _ _⟩
      case round =>
        obtain ⟨k, hk, rfl, hown, hmr⟩ := hrel
        obtain ⟨wo, rfl⟩ : ∃ wo : World, wo = wr := ⟨_, rfl⟩
        by_cases hlt : k < ps.length
        · obtain ⟨p2, hpk⟩ : ∃ p2, ps[k]? = some p2 := ⟨_, List.getElem?_eq_getElem hlt⟩
          obtain ⟨_, _, eq3, f0, f1, f2⟩ := HC.out k p2 hpk
          injection eq3 with eq3
          injection eq3 with eq3 eq4
          subst eq3 eq4
          have M := hm05.trans hmr
          have e0 := M.keeps f0 (fun x => x)
          have e1 := M.keeps f1 (fun x => x)
          have e2 := M.keeps f2 (fun x => x)
          have hsucc := doomK_succ (ins := belowL L W) hpk
          have hkle := doomK_le ps (belowL L W) k
          have hkI : (k : Int) < ps.length := by omega
          have hsm := hmr.size
          have hma := Mod.alloc' (fun _ => False) wo (.cells #[.int .i64 p2.group, .int .i64 p2.size, .bool p2.live] 41)
          have hi6 := (hi5.keep hmr (fun _ _ x => x)).keep hma (fun _ _ x => x)
          have HI6 := Lib.hid hi6
          have HI5 := Lib.hid hi5
          clear f0 f1 f2 hpk hi6 hi5
          cases hl2 : p2.live with
          | false =>
            rw [hl2] at hsucc hma e2
            rw [Bool.false_and, if_neg (by decide)] at hsucc
            rw [← hsucc] at hown
            clear hsucc hl2
            go_wp2_with fail
            go_roundw
            case rel => exact ⟨k + 1, by omega, by go_num, ownsRow_keep hown hma (fun _ _ x => x), hmr.trans hma⟩
            case measure => simp [intOf]; omega
          | true =>
            rw [hl2] at hsucc hma e2 HI6
            rw [Bool.true_and] at hsucc
            have HS := Lib.hid hsucc
            clear hsucc hl2
            go_wp2_with fail
            refine (contains_any (belowL L W) _ p2.group _ HI6.out).mono ?_
            cases hin : decide (p2.group ∈ belowL L W) with
            | false =>
              have hnext : doomK ps (belowL L W) (k + 1) = doomK ps (belowL L W) k := by rw [HS.out, hin]; simp
              rw [← hnext] at hown
              clear hnext hin
              rintro e w6 ⟨rfl, rfl⟩
              go_wp2_with fail
              go_roundw
              case rel => exact ⟨k + 1, by omega, by go_num, ownsRow_keep hown hma (fun _ _ x => x), hmr.trans hma⟩
              case measure => simp [intOf]; omega
            | true =>
              have hnext : doomK ps (belowL L W) (k + 1) = doomK ps (belowL L W) k ++ [(k : Int)] := by rw [HS.out, hin]; simp
              have HN := Lib.hid hnext
              clear hnext hin
              rintro e w6 ⟨rfl, rfl⟩
              have hown2 := ownsRow_keep hown hma (fun _ _ x => x)
              have hsz := hma.size
              obtain ⟨w6, hw6⟩ : ∃ w6, w6 = wo.alloc (.cells #[.int .i64 p2.group, .int .i64 p2.size, .bool true] 41) := ⟨_, rfl⟩
              rw [← hw6] at hown2 hma hsz ⊢
              clear hw6
              go_wp2_with (at_builtin; refine wpList_app rfl _ _ 22 rfl w5.heap.size 3 (.int .i64 0) 1 8 Try.underlying22 info_int rfl (by decide) (by decide) _ _ _ rfl (hown2.alloc _) ⟨w6.heap.size, 0, none⟩ 1 [.int .i64 k] rfl rfl (cell_one_new _ _ _) (by simp [Value.oneCell']) (by omega) (by simp; omega) ?_; intro g1 cap1 w7 o3 m3 hg3 hlt3)
              have o4 : w7.ownsRow w5.heap.size 3 1 (.slice (some ⟨g1, 0, none⟩) ((doomK ps (belowL L W) k).length + 1) cap1) (doomK ps (belowL L W) (k + 1)).length ((doomK ps (belowL L W) (k + 1)).map encI) := by
                rw [HN.out, List.map_append, List.length_append]; exact o3
              have m4 : Mod (fun _ => False) w5 w7 := ((hmr.trans hma).alloc _).trans' m3 (fun q hq e => by have := ownsRow_ge hown q e.symm; omega)
              go_roundw
              case rel => exact ⟨k + 1, by omega, by go_num, o4, m4⟩
              case measure => simp [intOf]; omega
        · obtain rfl : k = ps.length := by omega
          obtain ⟨a, c', rfl⟩ := ownsRow_form hown
          go_wp2_with fail
          go_ret
          rw [HR3.out]
          exact ⟨_, rfl, hm05.trans hmr, ints_of_row hown⟩

end Go.Proofs.Ytjmcfodlhhndoaa
