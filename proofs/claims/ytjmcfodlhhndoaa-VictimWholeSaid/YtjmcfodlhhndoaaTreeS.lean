/-
  More contracts of millpondref08: Below, Kids, Add, Remove, New, Row.
-/
import Derived.Test.YtjmcfodlhhndoaaTreeR
namespace Go.Proofs.Ytjmcfodlhhndoaa
open Go.RowKit Go.ChangeShapes Go.WideShapes Go.ChangeAt

set_option maxHeartbeats 1000000 in
theorem refBelow_any (R : RP) (l : List Grp) (n : Int) (w : World) (h : RTreeAt w R l) :
    Calls Try.prog 29 #[.pointer (some ⟨R.rb, 0, none⟩), .int .i64 n] w fun e w' => ∃ v, e = .returned v ∧ Mod (fun _ => False) w w' ∧ IntsAt w' v (belowL l n) := by
  have hl64 := h.good.le
  obtain ⟨xs, hxs⟩ : ∃ xs, xs = belowL l n := ⟨_, rfl⟩
  rw [← hxs]
  cases hl : liveB l n with
  | false =>
    rw [belowL_dead hl] at hxs
    subst hxs
    obtain ⟨hb0, hb1⟩ := h.head
    have hpos := h.good.pos
    have d0 : decide ((0 : Int) < l.length) = true := by simp; omega
    go_enter Try.func29, Try.ntmps29
    go_wp2_with fail
    go_loopw [5, 6] (fun v i wr => v = .slice none 0 0 ∧ i = .int .i64 0 ∧ w = wr) (fun _ _ _ => 0)
    case atStart => exact ⟨rfl, rfl, rfl⟩
    case round =>
      obtain ⟨rfl, rfl, rfl⟩ := hrel
      go_wp2_with fail
      refine (refLive_any R l n _ h).mono ?_
      rw [hl]
      clear hl
      rintro e w1 ⟨rfl, rfl⟩
      go_wp2_with fail
      go_ret
      exact ⟨_, rfl, Mod.refl _ _, ints_of_row (base := 0) ⟨rfl, .inl ⟨rfl, rfl⟩⟩⟩
  | true =>
    have e1 : xs = thoseK l (fun x => decide (n ∈ chainL l x)) l.length := by rw [hxs]; unfold belowL; rw [if_pos hl]; rfl
    have HX := Lib.hid e1
    have HL := Lib.hid hl
    clear hxs e1 hl
    go_enter Try.func29, Try.ntmps29
    go_wp2_with fail
    obtain ⟨wo, rfl⟩ : ∃ wo : World, wo = w := ⟨_, rfl⟩
    go_loopw [5, 6] (fun v i wr => ∃ k : Nat, k ≤ l.length ∧ i = .int .i64 k ∧ wr.ownsRow wo.heap.size 3 1 v (thoseK l (fun x => decide (n ∈ chainL l x)) k).length ((thoseK l (fun x => decide (n ∈ chainL l x)) k).map encI) ∧ Mod (fun _ => False) wo wr) (fun _ i _ => l.length - (intOf i).toNat)
    case atStart => exact ⟨0, by omega, rfl, ⟨rfl, .inl ⟨rfl, rfl⟩⟩, Mod.refl _ _⟩
    case round =>
      obtain ⟨k, hk, rfl, hown, hmr⟩ := hrel
      have hr := h.keepN hmr
      obtain ⟨hb0, hb1⟩ := hr.head
      by_cases hlt : k < l.length
      · have hsucc := thoseK_succ l (fun x => decide (n ∈ chainL l x)) k
        have e2 : (liveB l (k : Int) && decide (n ∈ chainL l (k : Int))) = decide (n ∈ chainL l (k : Int)) := by
          cases hlk : liveB l (k : Int) with
          | true => rfl
          | false => rw [chain_dead hlk]; rfl
        rw [e2] at hsucc
        have hkle := thoseK_le l (fun x => decide (n ∈ chainL l x)) k
        have hkI : (k : Int) < l.length := by omega
        have HS := Lib.hid hsucc
        clear hsucc e2
        go_wp2_with fail
        refine (refLive_any R l n _ hr).mono ?_
        rw [HL.out]
        rintro e w1 ⟨rfl, rfl⟩
        go_wp2_with fail
        refine (refChain_any R l k _ hr).mono ?_
        rintro e w2 ⟨v2, rfl, hm2, hi2⟩
        have hsm1 := hmr.size
        have hsm2 := hm2.size
        go_wp2_with fail
        refine (in_any _ _ n _ hi2).mono ?_
        obtain ⟨r, hrr⟩ : ∃ r, r = decide (n ∈ chainL l (k : Int)) := ⟨_, rfl⟩
        rw [← hrr]
        have HR := Lib.hid hrr
        clear hrr hi2
        cases r with
        | false =>
          have hnext : thoseK l (fun x => decide (n ∈ chainL l x)) (k + 1) = thoseK l (fun x => decide (n ∈ chainL l x)) k := by rw [HS.out, ← HR.out]; simp
          rw [← hnext] at hown
          clear hnext
          rintro e w3 ⟨rfl, rfl⟩
          go_wp2_with fail
          go_roundw
          case rel => exact ⟨k + 1, by omega, by go_num, ownsRow_keep hown hm2 (fun _ _ x => x), hmr.trans hm2⟩
          case measure => simp [intOf]; omega
        | true =>
          have hnext : thoseK l (fun x => decide (n ∈ chainL l x)) (k + 1) = thoseK l (fun x => decide (n ∈ chainL l x)) k ++ [(k : Int)] := by rw [HS.out, ← HR.out]; simp
          have HN := Lib.hid hnext
          clear hnext
          rintro e w3 ⟨rfl, rfl⟩
          have hown2 := ownsRow_keep hown hm2 (fun _ _ x => x)
          go_wp2_with (at_builtin; refine wpList_app rfl _ _ 22 rfl wo.heap.size 3 (.int .i64 0) 1 8 Try.underlying22 info_int rfl (by decide) (by decide) _ _ _ rfl (hown2.alloc _) ⟨w2.heap.size, 0, none⟩ 1 [.int .i64 k] rfl rfl (cell_one_new _ _ _) (by simp [Value.oneCell']) (by omega) (by simp; omega) ?_; intro g1 cap1 w3 o3 m3 hg3 hlt3)
          have o4 : w3.ownsRow wo.heap.size 3 1 (.slice (some ⟨g1, 0, none⟩) ((thoseK l (fun x => decide (n ∈ chainL l x)) k).length + 1) cap1) (thoseK l (fun x => decide (n ∈ chainL l x)) (k + 1)).length ((thoseK l (fun x => decide (n ∈ chainL l x)) (k + 1)).map encI) := by
            rw [HN.out, List.map_append, List.length_append]; exact o3
          have m4 : Mod (fun _ => False) wo w3 := ((hmr.trans hm2).alloc _).trans' m3 (fun q hq e => by have := ownsRow_ge hown q e.symm; omega)
          go_roundw
          case rel => exact ⟨k + 1, by omega, by go_num, o4, m4⟩
          case measure => simp [intOf]; omega
      · obtain rfl : k = l.length := by omega
        obtain ⟨a, c', rfl⟩ := ownsRow_form hown
        go_wp2_with fail
        go_ret
        rw [HX.out]
        exact ⟨_, rfl, hmr, ints_of_row hown⟩

set_option maxHeartbeats 400000 in
theorem row_any (xs : List Int) (v1 v2 : Value) (w : World) (h1 : IntsAt w v1 xs) (h2 : IntsAt w v2 xs) :
    Calls Try.prog 15 #[v1, v2] w fun e w' => e = .returned (.bool true) ∧ Mod (fun _ => False) w w' := by
  obtain ⟨a1, cap1, rfl, hcap1, hmax1, _⟩ := id h1
  obtain ⟨a2, cap2, rfl, hcap2, hmax2, _⟩ := id h2
  unfold maxLen at hmax1
  have t0 : ((xs.length : Int) != (xs.length : Int)) = false := by simp
  have H1 := Lib.hid h1
  have H2 := Lib.hid h2
  clear h1 h2
  go_enter Try.func15, Try.ntmps15
  go_wp2_with fail
  clear t0
  go_loopw [5] (fun i wr => ∃ k : Nat, k ≤ xs.length ∧ i = .int .i64 k ∧ Mod (fun _ => False) w wr) (fun i _ => xs.length - (intOf i).toNat)
  case atStart => exact ⟨0, by omega, rfl, Mod.refl _ _⟩
  case round =>
    obtain ⟨k, hk, rfl, hm⟩ := hrel
    by_cases hlt : k < xs.length
    · obtain ⟨x, hx⟩ : ∃ x, xs[k]? = some x := ⟨_, List.getElem?_eq_getElem hlt⟩
      obtain ⟨b1, o1, rfl, r1⟩ := intsAt_get H1.out hx
      obtain ⟨b2, o2, rfl, r2⟩ := intsAt_get H2.out hx
      have q1 := hm.keeps r1 (fun x => x)
      have q2 := hm.keeps r2 (fun x => x)
      have t1 : (x != x) = false := by simp
      have hkI : (k : Int) < xs.length := by omega
      have hkN : 0 ≤ (k : Int) := by omega
      clear r1 r2 hx
      go_wp2_with fail
      go_quiet (fail)
      go_wp2_with fail
      go_roundw
      case rel => exact ⟨k + 1, by omega, by go_num, hm.drewN _⟩
      case measure => simp [intOf]; omega
    · obtain rfl : k = xs.length := by omega
      go_wp2_with fail
      go_ret
      exact ⟨rfl, hm⟩

end Go.Proofs.Ytjmcfodlhhndoaa
