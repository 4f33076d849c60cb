/-
  Contracts: millpondref16's Doomed.
-/
import Derived.Test.YtjmcfodlhhndoaaVicC
namespace Go.Proofs.Ytjmcfodlhhndoaa
open Go.RowKit Go.ChangeShapes Go.WideShapes Go.ChangeAt

set_option maxRecDepth 100000 in
set_option maxHeartbeats 4000000 in
theorem refDoomed_any (R : RP) (L : List Grp) (ps : List Prc) (pv : Value) (t : Int) (wh : List Bool) (wv : Value) (w : World) (h : RTreeAt w R L) (hp : RowsAt ecP 3 w pv ps) (hw : RowsAt ecB 1 w wv wh) (hl : ps.length ≤ 1000) :
    Calls Try.prog 17 #[.pointer (some ⟨R.rb, 0, none⟩), pv, .int .i64 t, wv] w fun e w' => ∃ v, e = .returned v ∧ Mod (fun _ => False) w w' ∧ IntsAt w' v (doomL L ps t wh) := by
  obtain ⟨pa, pc, rfl, hcap, hmax, hcell⟩ := prc_cells hp
  unfold maxLen at hmax
  obtain ⟨wa, wc, rfl, _⟩ := id hw
  have HC := Lib.hid hcell
  have HP := Lib.hid hp
  have HW := Lib.hid hw
  clear hcell hp hw
  obtain ⟨r, hr⟩ : ∃ r, r = doomL L ps t wh := ⟨_, rfl⟩
  rw [← hr]
  unfold doomL at hr
  have HR := Lib.hid hr
  clear hr
  go_enter Try.func17, Try.ntmps17
  go_wp2_with fail
  refine (refBelow_any R L t _ h).mono ?_
  rintro e w1 ⟨v1, rfl, hm1, hi1⟩
  obtain ⟨a1, k1, rfl, _⟩ := id hi1
  have hT1 := h.keepN hm1
  go_wp2_with fail
  refine (refPick_any ps _ (belowL L t) _ _ (HP.out.keep ecP_len hm1 (fun _ _ x => x)) hi1).mono ?_
  rw [show (pickK ps (belowL L t) ps.length).1 = vicL L ps t from rfl]
  rintro e w2 ⟨rfl, hm2⟩
  have hT2 := hT1.keepN hm2
  have hm02 := hm1.trans hm2
  clear hi1
  rcases vicL_cases (L := L) (ps := ps) (t := t) with ⟨hneg, hv⟩ | ⟨j, p, hv, hj, hpj, hpl, hpg⟩
  · have hr := HR.out
    rw [if_pos hneg] at hr
    subst hr
    rw [hv]
    have d0 : decide ((-1 : Int) < 0) = true := rfl
    clear hneg hv HR
    go_wp2_with fail
    go_ret
    exact ⟨_, rfl, hm02, ints_of_row (base := 0) ⟨rfl, .inl ⟨rfl, rfl⟩⟩⟩
  · have hr := HR.out
    unfold atOnce at hr
    rw [hv, if_neg (by omega), grpOf_at hpj] at hr
    rw [hv]
    have d0 : decide ((j : Int) < 0) = false := by simp
    obtain ⟨ab, aoff, rfl, q0', q1', q2'⟩ := HC.out j p hpj
    have q0 := hm02.keeps q0' (fun x => x)
    have hjI : (j : Int) < ps.length := by omega
    have hjN : 0 ≤ (j : Int) := by omega
    have HR2 := Lib.hid hr
    clear HR hr hv hpj hpl hpg q0' q1' q2'
    go_wp2_with fail
    refine (refChain_any R L p.group _ hT2).mono ?_
    rintro e w3 ⟨v3, rfl, hm3, hi3⟩
    obtain ⟨a3, k3, rfl, _⟩ := id hi3
    have hT3 := hT2.keepN hm3
    have hm03 := hm02.trans hm3
    go_wp2_with fail
    refine (refWhole_any (chainL L p.group) _ t wh _ _ hi3 (HW.out.keep (fun _ => rfl) hm03 (fun _ _ x => x))).mono ?_
    obtain ⟨W, hW⟩ : ∃ W, W = wholeL (chainL L p.group) t wh := ⟨_, rfl⟩
    rw [← hW]
    have hr := HR2.out
    rw [← hW] at hr
    clear hW hi3 HR2
    rintro e w4 ⟨rfl, rfl⟩
    have hT4 := hT3
    have hm04 := hm03
    by_cases hWn : W < 0
    · rw [if_pos hWn] at hr
      subst hr
      have d1 : decide (W < 0) = true := by simp [hWn]
      clear hWn
      go_wp2_with fail
      go_ret
      exact ⟨_, rfl, hm04.alloc _, ints_one _ _⟩
    · rw [if_neg hWn] at hr
      have d1 : decide (W < 0) = false := by simp; omega
      have HR3 := Lib.hid hr
      clear hWn hr
      clear d0 q0
      go_wp2_with fail
      clear d1
      obtain ⟨wb, rfl⟩ : ∃ wb : World, wb = w3 := ⟨_, rfl⟩
      go_loopw [11, 12] (fun v i wr => ∃ k : Nat, k ≤ ps.length ∧ i = .int .i64 k ∧ wr.ownsRow wb.heap.size 3 1 v (doomK ps (belowL L W) k).length ((doomK ps (belowL L W) k).map encI) ∧ Mod (fun _ => False) wb wr) (fun _ i _ => ps.length - (intOf i).toNat)
      case atStart => exact ⟨0, by omega, rfl, ⟨rfl, .inl ⟨rfl, rfl⟩⟩, Mod.refl _ _⟩
      case round =>
        obtain ⟨k, hk, rfl, hown, hmr⟩ := hrel
        obtain ⟨wo, rfl⟩ : ∃ wo : World, wo = wr := ⟨_, rfl⟩
        by_cases hlt : k < ps.length
        · obtain ⟨p2, hpk⟩ : ∃ p2, ps[k]? = some p2 := ⟨_, List.getElem?_eq_getElem hlt⟩
          obtain ⟨_, _, eq3, f0, f1, f2⟩ := HC.out k p2 hpk
          injection eq3 with eq3
          injection eq3 with eq3 eq4
          subst eq3 eq4
          have M := hm04.trans hmr
          have e0 := M.keeps f0 (fun x => x)
          have e2 := M.keeps f2 (fun x => x)
          have hsucc := doomK_succ (ins := belowL L W) hpk
          have hkle := doomK_le ps (belowL L W) k
          have hkI : (k : Int) < ps.length := by omega
          have hkN : 0 ≤ (k : Int) := by omega
          have hTr := hT4.keepN hmr
          have hsm := hmr.size
          clear f0 f1 f2 hpk
          cases hl2 : p2.live with
          | false =>
            rw [hl2] at hsucc e2
            rw [Bool.false_and, if_neg (by decide)] at hsucc
            rw [← hsucc] at hown
            clear hsucc hl2
            have x2 := fun x : Ext wo => x.cell e2
            clear e2 e0
            go_wp2_with fail
            refine wp_region_ext_lit (by kernel_rfl) (by kernel_rfl) ?_
            repeat (go_big_quiet_step (fail))
            refine wpQuiet_nil ?_
            rintro w9 ⟨⟨w9', hm9⟩, he⟩
            obtain rfl : w9 = w9' := he
            clear x2
            go_wp2_with fail
            go_roundw
            case rel => exact ⟨k + 1, by omega, by go_num, ownsRow_keep hown hm9 (fun _ _ x => x), hmr.trans hm9⟩
            case measure => simp [intOf]; omega
          | true =>
            rw [hl2] at hsucc e2
            rw [Bool.true_and] at hsucc
            have HS := Lib.hid hsucc
            clear hsucc hl2
            obtain ⟨B, hB⟩ : ∃ B, B = decide (p2.group ∈ belowL L W) := ⟨_, rfl⟩
            have HB := Lib.hid hB
            clear hB
            go_wp2_with fail
            go_region_held3 (fun w' => w'.cell? ⟨ab, aoff + k * 3, none⟩ = some (.int .i64 p2.group) ∧ w'.cell? ⟨ab, aoff + k * 3 + 2, none⟩ = some (.bool true)) (first | exact ⟨e0, e2⟩ | exact ⟨y0, y2⟩) (first | (go_at_call 29; refine (refBelow_any R L W _ (hTr.keepN (Mod.refl _ _).drew)).mono ?_; rintro e w5 ⟨v5, rfl, hm5', hi5⟩; obtain ⟨a5, k5, rfl, _⟩ := id hi5; have hm5 : Mod (fun _ => False) wo w5 := (Mod.refl _ _).drew.trans hm5'; have y0 := hm5.keeps e0 (fun x => x); have y2 := hm5.keeps e2 (fun x => x)) | (go_at_call 19; refine (in_any (belowL L W) _ p2.group _ hi5).mono ?_; rw [← HB.out]; rintro e w6 ⟨rfl, rfl⟩; clear hi5))
            cases B with
            | false =>
              have hnext : doomK ps (belowL L W) (k + 1) = doomK ps (belowL L W) k := by rw [HS.out, ← HB.out]; simp
              have hown2 := ownsRow_keep hown hm5 (fun _ _ x => x)
              rw [← hnext] at hown2
              clear hnext
              go_wp2_with fail
              go_roundw
              case rel => exact ⟨k + 1, by omega, by go_num, hown2, hmr.trans hm5⟩
              case measure => simp [intOf]; omega
            | true =>
              have hnext : doomK ps (belowL L W) (k + 1) = doomK ps (belowL L W) k ++ [(k : Int)] := by rw [HS.out, ← HB.out]; simp
              have HN := Lib.hid hnext
              clear hnext
              have hown2 := ownsRow_keep hown hm5 (fun _ _ x => x)
              have hsz := hm5.size
              go_wp2_with (at_builtin; refine wpList_app rfl _ _ 22 rfl wb.heap.size 3 (.int .i64 0) 1 8 Try.underlying22 info_int rfl (by decide) (by decide) _ _ _ rfl (hown2.alloc _) ⟨w5.heap.size, 0, none⟩ 1 [.int .i64 k] rfl rfl (cell_one_new _ _ _) (by simp [Value.oneCell']) (by omega) (by simp; omega) ?_; intro g1 cap1 w7 o3 m3 hg3 hlt3)
              have o4 : w7.ownsRow wb.heap.size 3 1 (.slice (some ⟨g1, 0, none⟩) ((doomK ps (belowL L W) k).length + 1) cap1) (doomK ps (belowL L W) (k + 1)).length ((doomK ps (belowL L W) (k + 1)).map encI) := by
                rw [HN.out, List.map_append, List.length_append]; exact o3
              have m4 : Mod (fun _ => False) wb w7 := ((hmr.trans hm5).alloc _).trans' m3 (fun q hq e => by have := ownsRow_ge hown q e.symm; omega)
              go_roundw
              case rel => exact ⟨k + 1, by omega, by go_num, o4, m4⟩
              case measure => simp [intOf]; omega
        · obtain rfl : k = ps.length := by omega
          obtain ⟨a, c', rfl⟩ := ownsRow_form hown
          go_wp2_with fail
          go_ret
          rw [HR3.out]
          exact ⟨_, rfl, hm04.trans hmr, ints_of_row hown⟩

end Go.Proofs.Ytjmcfodlhhndoaa
