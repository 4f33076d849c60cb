/-
  Contracts of the law's own helpers: of, grown.
-/
import Derived.Test.YtjmcfodlhhndoaaVicD
namespace Go.Proofs.Ytjmcfodlhhndoaa
open Go.RowKit Go.ChangeShapes Go.WideShapes Go.ChangeAt

theorem own : ownKnob Try.prog.godebug = none := by kernel_rfl
theorem laidOut : laidOutB Try.prog = true := by kernel_rfl

theorem info_rproc : (Try.prog.info? 51).map (fun i => (i.zero, i.size, i.bytes)) = some (some (.agg #[.int .i64 0, .int .i64 0, .bool false]), 3, 24) := by kernel_rfl
theorem info_proc : (Try.prog.info? 41).map (fun i => (i.zero, i.size, i.bytes)) = some (some (.agg #[.int .i64 0, .int .i64 0, .bool false]), 3, 24) := by kernel_rfl

/-- A row of processes of the program's own can be read. -/
theorem rows_of_owns {w : World} {base T n : Nat} {v : Value} {xs : List Prc} (h : w.ownsRow base T 3 v n (xs.flatMap ecP)) (hn : n = xs.length) : RowsAt ecP 3 w v xs := by
  subst hn
  rcases id h.2 with ⟨rfl, h0⟩ | ⟨g, cap, cur, rfl, _, hg, hc, hm, hs, ht⟩
  · exact ⟨none, 0, by rw [h0], by omega, by unfold maxLen; omega, fun j x hj => by have := (List.getElem?_eq_some_iff.1 hj).1; omega⟩
  · refine ⟨_, cap, rfl, hc, hm, fun j x hj => ⟨g, 0, rfl, fun i hi => ?_⟩⟩
    have hlt := (List.getElem?_eq_some_iff.1 hj).1
    rw [Nat.zero_add, h.cellAt (j * 3 + i) (by omega), flat_get ecP_len xs j i hi, hj]
    rfl

set_option maxRecDepth 100000 in
set_option maxHeartbeats 2000000 in
theorem of_any (ps : List Prc) (pv : Value) (w : World) (hp : RowsAt ecP 3 w pv ps) (hl : ps.length ≤ 1000) :
    Calls Try.prog 10 #[pv] w fun e w' => ∃ v, e = .returned v ∧ Mod (fun _ => False) w w' ∧ RowsAt ecP 3 w' v ps := by
  obtain ⟨pa, pc, rfl, hcap, hmax, hcell⟩ := prc_cells hp
  unfold maxLen at hmax
  have HC := Lib.hid hcell
  clear hcell hp
  go_enter Try.func10, Try.ntmps10
  go_wp2_with fail
  go_loopw [3, 4] (fun v i wr => ∃ k : Nat, k ≤ ps.length ∧ i = .int .i64 k ∧ wr.ownsRow w.heap.size 51 3 v k ((ps.take k).flatMap ecP) ∧ Mod (fun _ => False) w wr) (fun _ i _ => ps.length - (intOf i).toNat)
  case atStart => exact ⟨0, by omega, rfl, ⟨rfl, .inl ⟨rfl, rfl⟩⟩, Mod.refl _ _⟩
  case round =>
    obtain ⟨k, hk, rfl, hown, hmr⟩ := hrel
    obtain ⟨wo, rfl⟩ : ∃ wo : World, wo = wr := ⟨_, rfl⟩
    by_cases hlt : k < ps.length
    · obtain ⟨p, hpk⟩ : ∃ p, ps[k]? = some p := ⟨_, List.getElem?_eq_getElem hlt⟩
      obtain ⟨ab, aoff, rfl, f0, f1, f2⟩ := HC.out k p hpk
      have e0 := hmr.keeps f0 (fun x => x)
      have e1 := hmr.keeps f1 (fun x => x)
      have e2 := hmr.keeps f2 (fun x => x)
      have htk := take_succ_get hpk
      have hkI : (k : Int) < ps.length := by omega
      have hkN : 0 ≤ (k : Int) := by omega
      have hsz := hmr.size
      have HT := Lib.hid htk
      have hal := lt_of_cell e0
      clear f0 f1 f2 hpk htk
      go_wp2_with fail
      go_region_law ((refine step_app (by rfl) _ _ _ (by rfl) w.heap.size 51 _ 3 24 Try.underlying30 info_rproc rfl (by decide) (by decide) _ k _ (by rfl) ((hown.alloc _).drew) ⟨wo.heap.size, 0, none⟩ 1 [.int .i64 p.group, .int .i64 p.size, .bool p.live] (by rfl) (by rfl) (World.news_of_block (cs := #[.int .i64 p.group, .int .i64 p.size, .bool p.live]) (t := 51) (fr := (0, 0)) (heap_alloc_new wo _)) (by simp [Value.oneCell']) (by omega) (by simp; omega) ?_; intro g cap w2 o2 m2 hg2 hl2))
      all_goals
        have m3 : Mod (fun _ => False) w w2 := ((hmr.alloc _).drew).trans' m2 (fun q hq e => by have := ownsRow_ge hown q e.symm; omega)
        have o3 : w2.ownsRow w.heap.size 51 3 (.slice (some ⟨g, 0, none⟩) (k + 1) cap) (k + 1) ((ps.take (k + 1)).flatMap ecP) := by
          rw [HT.out, List.flatMap_append]; exact o2
        go_wp2_with fail
        go_roundw
        case rel => exact ⟨k + 1, by omega, by go_num, o3, m3⟩
        case measure => simp [intOf]; omega
    · obtain rfl : k = ps.length := by omega
      obtain ⟨a, c', rfl⟩ := ownsRow_form hown
      have htk : ps.take ps.length = ps := List.take_length
      rw [htk] at hown
      clear htk
      go_wp2_with fail
      go_ret
      exact ⟨_, rfl, hmr, rows_of_owns hown rfl⟩

set_option maxRecDepth 100000 in
set_option maxHeartbeats 2000000 in
theorem grown_any (ns : List Int) (nv : Value) (w : World) (hn : IntsAt w nv ns) :
    Calls Try.prog 9 #[nv] w fun e w' => ∃ (b g c : Nat) (R : RP) (L : List Grp), e = .returned (.tuple #[.pointer (some ⟨b, 0, none⟩), .pointer (some ⟨R.rb, 0, none⟩)]) ∧ Mod (fun _ => False) w w' ∧ TreeAt w' b g c L ∧ RTreeAt w' R L ∧ w.heap.size ≤ b ∧ w.heap.size ≤ g ∧ ∀ i, R.own i → w.heap.size ≤ i := by
  obtain ⟨na, nc, rfl, ncap, nmax, _⟩ := id hn
  unfold maxLen at nmax
  have HN := Lib.hid hn
  clear hn
  go_enter Try.func9, Try.ntmps9
  go_wp2_with fail
  refine (new_any _).mono ?_
  rintro e w1 ⟨b, g0, c0, rfl, hm1, hT1, hb1, hg1⟩
  go_wp2_with fail
  refine (refNew_any _).mono ?_
  rintro e w2 ⟨R0, rfl, hm2, hR2, hRw⟩
  have hT2 := hT1.keepN hm2
  have hs1 := hm1.size
  have hm02 : Mod (fun _ => False) w w2 := hm1.trans hm2
  have hRw0 : ∀ i, R0.own i → w.heap.size ≤ i := fun i hi => by have := hRw i hi; omega
  obtain ⟨rb, hrb⟩ : ∃ rb, rb = R0.rb := ⟨_, rfl⟩
  rw [← hrb]
  have HRB := Lib.hid hrb
  clear hrb hRw
  go_wp2_with fail
  go_loopw [6] (fun i wr => ∃ (k : Nat) (g c : Nat) (R : RP) (L : List Grp), k ≤ ns.length ∧ i = .int .i64 k ∧ TreeAt wr b g c L ∧ RTreeAt wr R L ∧ Hid (rb = R.rb) ∧ w.heap.size ≤ g ∧ Hid (∀ i, R.own i → w.heap.size ≤ i) ∧ Mod (fun _ => False) w wr) (fun i _ => ns.length - (intOf i).toNat)
  case atStart => exact ⟨0, g0, c0, R0, newT, by omega, rfl, hT2, hR2, HRB, by omega, hRw0, hm02⟩
  case round =>
    obtain ⟨k, g, c, R, L, hk, rfl, hT, hR, hrb, hgw, HRo, hm⟩ := hrel
    obtain ⟨wo, rfl⟩ : ∃ wo : World, wo = wr := ⟨_, rfl⟩
    by_cases hlt : k < ns.length
    · obtain ⟨x, hx⟩ : ∃ x, ns[k]? = some x := ⟨_, List.getElem?_eq_getElem hlt⟩
      obtain ⟨nb, noff, rfl, d0⟩ := intsAt_get HN.out hx
      have e0 := hm.keeps d0 (fun x => x)
      have dl := lt_of_cell d0
      have hsep := sep_trees hT hR
      have hmsz := hm.size
      have hkI : (k : Int) < ns.length := by omega
      have hkN : 0 ≤ (k : Int) := by omega
      have HS := Lib.hid hsep
      clear hx hsep
      go_wp2_with fail
      refine (add_any b g c L x _ hT).mono ?_
      rintro e w4 ⟨g5, c5, rfl, hm4, hT4, hg5⟩
      have hR4 := hR.keep hm4 (fun i hi e => by have := HS.out i hi; omega)
      have hm4s := hm4.size
      have e0' := hm4.keeps e0 (by omega)
      rw [hrb.out]
      clear d0 e0
      go_wp2_with fail
      refine (refAdd_any R L x _ hR4).mono ?_
      rintro e w5 ⟨R5, hR5b, rfl, hm5, hR5, hR5o⟩
      rw [← hrb.out]
      have HS4 := sep_trees hT4 hR4
      have hT5 := hT4.keep hm5 (fun hi => (HS4 _ hi).1 rfl) (fun hi => (HS4 _ hi).2 rfl)
      have hbw : w.heap.size ≤ b := hb1
      have hm05 : Mod (fun _ => False) w w5 := (hm.trans' hm4 (fun i hi h => by omega)).trans' hm5 (fun i hi h => by have := HRo.out i h; omega)
      have hrb5 : Hid (rb = R5.rb) := Lib.hid (hrb.out.trans hR5b.symm)
      have hRo5 : Hid (∀ i, R5.own i → w.heap.size ≤ i) := Lib.hid (fun i hi => by
        rcases hR5o i hi with h | h
        · exact HRo.out i h
        · omega)
      clear hR5b hR5o HS4 e0' hT4 hR4 hT hR
      go_wp2_with fail
      go_roundw
      case rel => exact ⟨k + 1, g5, c5, R5, _, by omega, by go_num, hT5, hR5, hrb5, by omega, hRo5, hm05⟩
      case measure => simp [intOf]; omega
    · obtain rfl : k = ns.length := by omega
      go_wp2_with fail
      go_ret2
      exact ⟨b, g, c, R, L, by rw [← hrb.out]; rfl, hm, hT, hR, hb1, hgw, HRo.out⟩

end Go.Proofs.Ytjmcfodlhhndoaa
