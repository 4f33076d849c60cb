/-
  Contracts of package victim: Pick, Whole.
-/
import Derived.Test.YtjmcfodlhhndoaaVicP
import Derived.Test.YtjmcfodlhhndoaaTreeT
namespace Go.Proofs.Ytjmcfodlhhndoaa
open Go.RowKit Go.ChangeShapes Go.WideShapes Go.ChangeAt

theorem prc_cells {w : World} {v : Value} {l : List Prc} (h : RowsAt ecP 3 w v l) :
    ∃ a cap, v = .slice a l.length cap ∧ l.length ≤ cap ∧ cap ≤ maxLen ∧ ∀ (j : Nat) (x : Prc), l[j]? = some x → ∃ b off, a = some ⟨b, off, none⟩ ∧
      w.cell? ⟨b, off + j * 3, none⟩ = some (.int .i64 x.group) ∧ w.cell? ⟨b, off + j * 3 + 1, none⟩ = some (.int .i64 x.size) ∧ w.cell? ⟨b, off + j * 3 + 2, none⟩ = some (.bool x.live) := by
  obtain ⟨a, cap, h1, h2, h3, h4⟩ := h
  refine ⟨a, cap, h1, h2, h3, fun j x hj => ?_⟩
  obtain ⟨b, off, h5, h6⟩ := h4 j _ hj
  exact ⟨b, off, h5, by simpa [ecP] using h6 0 (by omega), by simpa [ecP] using h6 1 (by omega), by simpa [ecP] using h6 2 (by omega)⟩

theorem bool_cells {w : World} {v : Value} {l : List Bool} (h : RowsAt ecB 1 w v l) :
    ∃ a cap, v = .slice a l.length cap ∧ l.length ≤ cap ∧ cap ≤ maxLen ∧ ∀ (j : Nat) (x : Bool), l[j]? = some x → ∃ b off, a = some ⟨b, off, none⟩ ∧ w.cell? ⟨b, off + j, none⟩ = some (.bool x) := by
  obtain ⟨a, cap, h1, h2, h3, h4⟩ := h
  refine ⟨a, cap, h1, h2, h3, fun j x hj => ?_⟩
  obtain ⟨b, off, h5, h6⟩ := h4 j _ hj
  exact ⟨b, off, h5, by simpa [ecB] using h6 0 (by omega)⟩

set_option maxHeartbeats 1000000 in
theorem pick1_any (p : Prc) (m : Int) (ins : List Int) (iv : Value) (mb ib : Nat) (w : World) (hm : Blk w mb #[.int .i64 m] 3) (hib : Blk w ib #[iv] 22) (hi : IntsAt w iv ins) :
    Calls Try.prog 25 #[.agg #[.int .i64 p.group, .int .i64 p.size, .bool p.live], .pointer (some ⟨mb, 0, none⟩), .pointer (some ⟨ib, 0, none⟩)] w fun e w' => e = .returned (.bool (okP ins m p)) ∧ Mod (fun _ => False) w w' := by
  have c0 := hm.cell 0
  have c1 := hib.cell 0
  simp only [List.getElem?_toArray, List.getElem?_cons_zero] at c0 c1
  obtain ⟨r, hr⟩ : ∃ r, r = okP ins m p := ⟨_, rfl⟩
  rw [← hr]
  unfold okP at hr
  have hma := Mod.alloc' (fun _ => False) w (.cells #[.int .i64 p.group, .int .i64 p.size, .bool p.live] 41)
  have hi2 := hi.keep hma (fun _ _ x => x)
  have c2 := hma.keeps c0 (fun x => x)
  have c3 := hma.keeps c1 (fun x => x)
  cases hl : p.live with
  | false =>
    rw [hl] at hr
    obtain rfl : r = false := hr
    clear hl
    go_enter Try.func25, Try.ntmps25
    go_wp2_with fail
    go_ret
    exact ⟨rfl, Mod.alloc' _ _ _⟩
  | true =>
    rw [hl] at hr hma hi2 c2 c3
    rw [Bool.true_and] at hr
    cases hd : decide (m < p.size) with
    | false =>
      rw [hd] at hr
      obtain rfl : r = false := hr
      clear hl
      go_enter Try.func25, Try.ntmps25
      go_wp2_with fail
      go_ret
      exact ⟨rfl, Mod.alloc' _ _ _⟩
    | true =>
      rw [hd, Bool.true_and] at hr
      have HR := Lib.hid hr
      clear hl hr
      go_enter Try.func25, Try.ntmps25
      go_wp2_with fail
      refine (contains_any ins _ p.group _ hi2).mono ?_
      rw [← HR.out]
      rintro e w2 ⟨rfl, rfl⟩
      go_wp2_with fail
      go_ret
      exact ⟨rfl, hma⟩

set_option maxRecDepth 100000 in
set_option maxHeartbeats 2000000 in
theorem pick_any (ps : List Prc) (pv : Value) (ins : List Int) (iv : Value) (w : World) (hp : RowsAt ecP 3 w pv ps) (hi : IntsAt w iv ins) :
    Calls Try.prog 11 #[pv, iv] w fun e w' => e = .returned (.int .i64 (pickK ps ins ps.length).1) ∧ Mod (fun _ => False) w w' := by
  obtain ⟨pa, pc, rfl, hcap, hmax, hcell⟩ := prc_cells hp
  unfold maxLen at hmax
  clear hp
  obtain ⟨ia, ic, rfl, _⟩ := id hi
  have HC := Lib.hid hcell
  have hok := pick_ok ps ins
  have HK := Lib.hid hok
  clear hcell hok
  go_enter Try.func11, Try.ntmps11
  go_wp2_with fail
  have b1 := Blk.new w #[.slice ia ins.length ic] 22
  have m1 := Mod.alloc' (fun _ => False) w (.cells #[.slice ia ins.length ic] 22)
  obtain ⟨w1, hw1⟩ : ∃ w1, w1 = w.alloc (.cells #[.slice ia ins.length ic] 22) := ⟨_, rfl⟩
  have s1 : w1.heap.size = w.heap.size + 1 := by rw [hw1]; simp
  rw [← hw1] at b1 m1 ⊢
  have b2 := Blk.new w1 #[.int .i64 0] 3
  have m2 := Mod.alloc' (fun _ => False) w1 (.cells #[.int .i64 0] 3)
  obtain ⟨w2, hw2⟩ : ∃ w2, w2 = w1.alloc (.cells #[.int .i64 0] 3) := ⟨_, rfl⟩
  have s2 : w2.heap.size = w1.heap.size + 1 := by rw [hw2]; simp
  rw [s1] at b2
  rw [← hw2] at b2 m2 ⊢
  have b1' := b1.keep m2 (fun x => x)
  have hm02 := m1.trans m2
  have hi2 := hi.keep hm02 (fun _ _ x => x)
  have hil := Lib.hid hi
  have S1 := Lib.hid s1
  have S2 := Lib.hid s2
  clear hw1 hw2 m1 m2 b1 hi hi2 s1 s2
  go_loopw [5, 13] (fun a i wr => ∃ k : Nat, k ≤ ps.length ∧ i = .int .i64 k ∧ a = .int .i64 (pickK ps ins k).1 ∧ Blk wr (w.heap.size + 1) #[.int .i64 (pickK ps ins k).2] 3 ∧ Mod (fun i => i = w.heap.size + 1) w2 wr) (fun _ i _ => ps.length - (intOf i).toNat)
  case atStart => exact ⟨0, by omega, rfl, rfl, b2, Mod.refl _ _⟩
  case round =>
    obtain ⟨k, hk, rfl, rfl, hB, hmr⟩ := hrel
    obtain ⟨wo, rfl⟩ : ∃ wo : World, wo = wr := ⟨_, rfl⟩
    by_cases hlt : k < ps.length
    · obtain ⟨p, hpk⟩ : ∃ p, ps[k]? = some p := ⟨_, List.getElem?_eq_getElem hlt⟩
      obtain ⟨ab, aoff, rfl, d0, d1, d2⟩ := HC.out k p hpk
      have hdl := lt_of_cell d0
      have M : Mod (fun i => w.heap.size ≤ i) w wo := (hm02.mono (fun _ x => x.elim)).trans (hmr.mono (fun i e => by omega))
      have e0 := M.keeps d0 (by omega)
      have e1 := M.keeps d1 (by omega)
      have e2 := M.keeps d2 (by omega)
      have hsucc := pickK_succ (ins := ins) hpk
      unfold stepP at hsucc
      have hkI : (k : Int) < ps.length := by omega
      have HSU := Lib.hid hsucc
      clear d0 d1 d2 hpk hsucc
      have hne : w.heap.size < w2.heap.size := by have := S1.out; have := S2.out; omega
      have hI5 := (hil.out.keep M (fun b hb => by omega)).keep (Mod.alloc' (fun _ => False) wo (.cells #[.int .i64 p.group, .int .i64 p.size, .bool p.live] 41)) (fun _ _ x => x)
      have hib5 := (b1'.keep hmr (by omega)).alloc (.cells #[.int .i64 p.group, .int .i64 p.size, .bool p.live] 41)
      have hB5 := hB.alloc (.cells #[.int .i64 p.group, .int .i64 p.size, .bool p.live] 41)
      have hP5 := Blk.new wo #[.int .i64 p.group, .int .i64 p.size, .bool p.live] 41
      have m5 := Mod.alloc' (fun _ => False) wo (.cells #[.int .i64 p.group, .int .i64 p.size, .bool p.live] 41)
      go_wp2_with fail
      refine (pick1_any p _ ins _ _ _ _ hB5 hib5 hI5).mono ?_
      cases hokp : okP ins (pickK ps ins k).2 p with
      | false =>
        have hnext : pickK ps ins (k + 1) = pickK ps ins k := by rw [HSU.out, hokp]; rfl
        rintro e w6 ⟨rfl, hm6⟩
        have hB6 := hB5.keep hm6 (fun x => x)
        rw [← hnext] at hB6
        have HN := Lib.hid hnext
        clear hnext hokp
        go_wp2_with fail
        go_roundw
        case rel => exact ⟨k + 1, by omega, by go_num, by rw [HN.out], hB6, hmr.trans ((m5.trans hm6).mono (fun _ x => x.elim))⟩
        case measure => simp [intOf]; omega
      | true =>
        have hnext : pickK ps ins (k + 1) = ((k : Int), p.size) := by rw [HSU.out, hokp]; rfl
        rintro e w6 ⟨rfl, hm6⟩
        have hB6 := hB5.keep hm6 (fun x => x)
        have hP6 := hP5.keep hm6 (fun x => x)
        have z0 := hB6.cell 0
        have z1 := hP6.cell 1
        simp only [List.getElem?_toArray, List.getElem?_cons_zero, List.getElem?_cons_succ] at z0 z1
        have zf := hB6.frozen 0
        have hset := hB6.set 0 (.int .i64 p.size)
        have hms : Mod (fun i => i = w.heap.size + 1) w6 (w6.setCell ⟨w.heap.size + 1, 0, none⟩ (.int .i64 p.size)) := mod_setCell _ _ _ _
        have HN := Lib.hid hnext
        clear hnext hokp
        go_wp2_with fail
        go_region
        go_wp2_with fail
        go_roundw
        case rel => exact ⟨k + 1, by omega, by go_num, by rw [HN.out], by rw [HN.out]; exact hset, (hmr.trans ((m5.trans hm6).mono (fun _ x => x.elim))).trans hms.drew⟩
        case measure => simp [intOf]; omega
    · obtain rfl : k = ps.length := by omega
      go_wp2_with fail
      go_ret
      exact ⟨rfl, hm02.trans' hmr (fun i hi h => by omega)⟩

end Go.Proofs.Ytjmcfodlhhndoaa
