/-
  Contracts of millpondref08: New, Add, Remove.
-/
import Derived.Test.YtjmcfodlhhndoaaTreeR
import Derived.Test.YtjmcfodlhhndoaaTreeS
namespace Go.Proofs.Ytjmcfodlhhndoaa
open Go.RowKit Go.ChangeShapes Go.WideShapes Go.ChangeAt

theorem cell_one_set (w : World) (p : Addr) (u x : Value) (T : TypeId) : ∀ j v, [x][j]? = some v → ((w.setCell p u).alloc (.cells #[x] T)).cell? (Addr.add ⟨w.heap.size, 0, none⟩ j) = some v := by
  have h := cell_one_new (w.setCell p u) x T
  have e : (w.setCell p u).heap.size = w.heap.size := by simp [World.setCell]
  rw [e] at h
  exact h

set_option maxHeartbeats 400000 in
theorem refNew_any (w : World) : Calls Try.prog 23 #[] w fun e w' => ∃ R : RP, e = .returned (.pointer (some ⟨R.rb, 0, none⟩)) ∧ Mod (fun _ => False) w w' ∧ RTreeAt w' R newT ∧ ∀ i, R.own i → w.heap.size ≤ i := by
  go_enter Try.func23, Try.ntmps23
  go_wp2_with fail
  go_ret
  have b2 := Blk.new w #[.int .i64 (-1)] 3
  have m2 := Mod.alloc' (fun _ => False) w (.cells #[.int .i64 (-1)] 3)
  obtain ⟨w2, hw2⟩ : ∃ w2, w2 = w.alloc (.cells #[.int .i64 (-1)] 3) := ⟨_, rfl⟩
  have s2 : w2.heap.size = w.heap.size + 1 := by rw [hw2]; simp
  rw [← hw2] at b2 m2 ⊢
  have b3 := Blk.new w2 #[.bool true] 4
  have m3 := Mod.alloc' (fun _ => False) w2 (.cells #[.bool true] 4)
  obtain ⟨w3, hw3⟩ : ∃ w3, w3 = w2.alloc (.cells #[.bool true] 4) := ⟨_, rfl⟩
  have s3 : w3.heap.size = w2.heap.size + 1 := by rw [hw3]; simp
  rw [s2] at b3
  rw [← hw3] at b3 m3 ⊢
  have b4 := Blk.new w3 #[.slice (some ⟨w.heap.size, 0, none⟩) 1 1, .slice (some ⟨w.heap.size + 1, 0, none⟩) 1 1] 66
  have m4 := Mod.alloc' (fun _ => False) w3 (.cells #[.slice (some ⟨w.heap.size, 0, none⟩) 1 1, .slice (some ⟨w.heap.size + 1, 0, none⟩) 1 1] 66)
  rw [s3, s2] at b4
  refine ⟨⟨w.heap.size + 1 + 1, w.heap.size, 1, w.heap.size + 1, 1⟩, rfl, (m2.trans m3).trans m4, ⟨b4, ?_, ?_, newT_good⟩, ?_⟩
  · exact ownsRow_base (owns_of_blk (n := 1) (size := 1) (b2.keep (m3.trans m4) (fun x => x)) rfl (by unfold maxLen; omega)) (Nat.zero_le _)
  · exact ownsRow_base (owns_of_blk (n := 1) (size := 1) (b3.keep m4 (fun x => x)) rfl (by unfold maxLen; omega)) (Nat.zero_le _)
  · rintro i (rfl | rfl | rfl) <;> simp <;> omega

theorem map_set_up {l : List Grp} {k : Nat} {x : Grp} (hx : l[k]? = some x) (b : Bool) : (l.set k ⟨x.up, b⟩).map encU = l.map encU := by
  apply List.ext_getElem?
  intro i
  rw [List.getElem?_map, List.getElem?_map, getElem?_set']
  split
  next h => rw [h.1, hx]; rfl
  next => rfl

theorem map_set_live {l : List Grp} {k : Nat} {x : Grp} (b : Bool) : (l.set k ⟨x.up, b⟩).map encL = (l.map encL).set k (.bool b) := by
  rw [List.map_set]; rfl

set_option maxHeartbeats 2000000 in
theorem refAdd_any (R : RP) (l : List Grp) (p : Int) (w : World) (h : RTreeAt w R l) :
    Calls Try.prog 24 #[.pointer (some ⟨R.rb, 0, none⟩), .int .i64 p] w fun e w' =>
      ∃ R' : RP, R'.rb = R.rb ∧ e = .returned (.tuple #[.int .i64 (addG l p), .int .i64 (addE l p)]) ∧ Mod R.own w w' ∧ RTreeAt w' R' (addS l p) ∧ ∀ i, R'.own i → R.own i ∨ w.heap.size ≤ i := by
  cases hl : liveB l p with
  | false =>
    have e1 : addE l p = 2 := by unfold addE; rw [hl]; rfl
    have e2 : addS l p = l := by unfold addS; rw [e1]; rfl
    have e3 : addG l p = -1 := by unfold addG; rw [e1]; rfl
    rw [e1, e2, e3]
    clear e1 e2 e3
    go_enter Try.func24, Try.ntmps24
    go_wp2_with fail
    refine (refLive_any R l p _ h).mono ?_
    rw [hl]
    clear hl
    rintro e w1 ⟨rfl, rfl⟩
    go_wp2_with fail
    go_ret2
    exact ⟨R, rfl, rfl, Mod.refl _ _, h, fun _ hi => .inl hi⟩
  | true =>
    by_cases hd : 7 ≤ depthL l p
    · have e1 : addE l p = 21 := by unfold addE; rw [hl, if_pos rfl, if_pos hd]
      have e2 : addS l p = l := by unfold addS; rw [e1]; rfl
      have e3 : addG l p = -1 := by unfold addG; rw [e1]; rfl
      rw [e1, e2, e3]
      have hd' : decide (7 ≤ depthL l p) = true := by simp [hd]
      clear e1 e2 e3
      go_enter Try.func24, Try.ntmps24
      go_wp2_with fail
      refine (refLive_any R l p _ h).mono ?_
      rw [hl]
      clear hl
      rintro e w1 ⟨rfl, rfl⟩
      go_wp2_with fail
      refine (refDepth_any R l p _ h).mono ?_
      rintro e w2 ⟨rfl, hm2⟩
      go_wp2_with fail
      go_ret2
      exact ⟨R, rfl, rfl, hm2.mono (fun _ x => x.elim), h.keepN hm2, fun _ hi => .inl hi⟩
    · have hd' : decide (7 ≤ depthL l p) = false := by simp; omega
      by_cases hn : 64 ≤ l.length
      · have e1 : addE l p = 3 := by unfold addE; rw [hl, if_pos rfl, if_neg hd, if_pos hn]
        have e2 : addS l p = l := by unfold addS; rw [e1]; rfl
        have e3 : addG l p = -1 := by unfold addG; rw [e1]; rfl
        rw [e1, e2, e3]
        have hn' : decide (64 ≤ (l.length : Int)) = true := by simp; omega
        clear e1 e2 e3 hd hn
        go_enter Try.func24, Try.ntmps24
        go_wp2_with fail
        refine (refLive_any R l p _ h).mono ?_
        rw [hl]
        clear hl
        rintro e w1 ⟨rfl, rfl⟩
        go_wp2_with fail
        refine (refDepth_any R l p _ h).mono ?_
        rintro e w2 ⟨rfl, hm2⟩
        obtain ⟨hb0, hb1⟩ := (h.keepN hm2).head
        go_wp2_with fail
        go_ret2
        exact ⟨R, rfl, rfl, hm2.mono (fun _ x => x.elim), h.keepN hm2, fun _ hi => .inl hi⟩
      · have e1 : addE l p = 0 := by unfold addE; rw [hl, if_pos rfl, if_neg hd, if_neg hn]
        have e2 : addS l p = l ++ [⟨p, true⟩] := by unfold addS; rw [e1]; rfl
        have e3 : addG l p = l.length := by unfold addG; rw [e1]; rfl
        have hgood := addS_good h.good p
        rw [e1, e2, e3]
        rw [e2] at hgood
        have hn' : decide (64 ≤ (l.length : Int)) = false := by simp; omega
        have hlen := h.good.le
        clear e1 e2 e3 hd hn
        go_enter Try.func24, Try.ntmps24
        go_wp2_with fail
        refine (refLive_any R l p _ h).mono ?_
        rw [hl]
        clear hl
        rintro e w1 ⟨rfl, rfl⟩
        go_wp2_with fail
        refine (refDepth_any R l p _ h).mono ?_
        rintro e w2 ⟨rfl, hm2⟩
        have hh := h.keepN hm2
        obtain ⟨hb0, hb1⟩ := hh.head
        obtain ⟨hn1, hn2, hn3⟩ := hh.ne
        have N1 := Lib.hid hn1
        have N2 := Lib.hid hn2
        have N3 := Lib.hid hn3
        have hul := ownsRow_lt hh.ups R.ub rfl
        have hhl := ownsRow_lt hh.here R.hb rfl
        clear hn1 hn2 hn3
        go_wp2_with (at_builtin; first | (refine wpList_app rfl _ _ 22 rfl 0 3 (.int .i64 0) 1 8 Try.underlying22 info_int rfl (by decide) (by decide) _ _ _ rfl (hh.ups.alloc _) ⟨w2.heap.size, 0, none⟩ 1 [.int .i64 p] rfl rfl (cell_one_new _ _ _) (by simp [Value.oneCell']) (by omega) (Nat.zero_le _) ?_; intro g1 cap1 w3 o3 m3' hg3 hlt3; have m3 : Mod (fun k => k = R.ub) w2 w3 := (Mod.alloc' _ _ _).trans (m3'.mono (fun i e => by injection e)); have hB3 := hh.blk.keep m3 (fun e => N1.out e.symm); have hH3 := ownsRow_keep hh.here m3 (fun x hx => by injection hx with hx; simp only at hx; subst hx; exact fun e => N3.out e.symm); have hz0 := hB3.cell 0; have hz1 := hB3.cell 1; simp only [List.getElem?_toArray, List.getElem?_cons_zero, List.getElem?_cons_succ] at hz0 hz1; have hfz := hB3.frozen 0; have hB4 := hB3.set 0 (.slice (some ⟨g1, 0, none⟩) (l.length + 1) cap1); have hH4 := ownsRow_keep hH3 (mod_setCell w3 R.rb 0 (.slice (some ⟨g1, 0, none⟩) (l.length + 1) cap1)) (fun x hx => by injection hx with hx; simp only at hx; subst hx; exact N2.out)) | (refine wpList_app rfl _ _ 24 rfl 0 4 (.bool false) 1 1 Try.underlying24 info_bool rfl (by decide) (by decide) _ _ _ rfl (hH4.alloc _) ⟨w3.heap.size, 0, none⟩ 1 [.bool true] rfl rfl (cell_one_set _ _ _ _ _) (by simp [Value.oneCell']) (by omega) (Nat.zero_le _) ?_; intro g2 cap2 w4 o4 m4' hg4 hlt4; have m4 : Mod (fun k => k = R.hb) (w3.setCell ⟨R.rb, 0, none⟩ (.slice (some ⟨g1, 0, none⟩) (l.length + 1) cap1)) w4 := (Mod.alloc' _ _ _).trans (m4'.mono (fun i e => by injection e)); have hB5 := hB4.keep m4 (fun e => N2.out e.symm); have hy0 := hB5.cell 0; have hy1 := hB5.cell 1; simp at hy0 hy1; have hfy := hB5.frozen 1; have hB6 := hB5.set 1 (.slice (some ⟨g2, 0, none⟩) (l.length + 1) cap2); have hx0 := hB6.cell 0; simp at hx0))
        go_ret2
        have hsA := m3.size
        have hsB := m4.size
        have hsC : (w3.setCell ⟨R.rb, 0, none⟩ (.slice (some ⟨g1, 0, none⟩) (l.length + 1) cap1)).heap.size = w3.heap.size := by simp [World.setCell]
        have q1 : g1 = R.ub ∨ w2.heap.size + 1 = g1 := by
          rcases hg3 with e | e
          · injection e with e; exact .inl e.symm
          · rw [e]; simp
        have q2 : g2 = R.hb ∨ w3.heap.size + 1 = g2 := by
          rcases hg4 with e | e
          · injection e with e; exact .inl e.symm
          · right; rw [e]; simp [World.setCell]
        have hbl := hh.blk.lt
        have hs2 := hm2.size
        have n1 := N1.out
        have n2 := N2.out
        have n3 := N3.out
        refine ⟨⟨R.rb, g1, cap1, g2, cap2⟩, rfl, rfl, ?_, ⟨?_, ?_, ?_, hgood⟩, ?_⟩
        · exact (((hm2.mono (fun _ x => x.elim)).trans (m3.mono (fun i e => .inr (.inl e)))).trans ((mod_setCell _ _ _ _).mono (fun i e => .inl e))).trans ((m4.mono (fun i e => .inr (.inr e))).trans ((mod_setCell _ _ _ _).mono (fun i e => .inl e)))
        · rw [List.length_append]; exact hB6
        · rw [List.length_append, List.map_append]
          refine ownsRow_keep (ownsRow_keep (ownsRow_keep o3 (mod_setCell w3 R.rb 0 (.slice (some ⟨g1, 0, none⟩) (l.length + 1) cap1)) ?_) m4 ?_) (mod_setCell w4 R.rb 1 (.slice (some ⟨g2, 0, none⟩) (l.length + 1) cap2)) ?_
          all_goals
            intro x hx
            injection hx with hx
            simp only at hx
            omega
        · rw [List.length_append, List.map_append]
          refine ownsRow_keep o4 (mod_setCell w4 R.rb 1 (.slice (some ⟨g2, 0, none⟩) (l.length + 1) cap2)) ?_
          intro x hx
          injection hx with hx
          simp only at hx
          omega
        · rintro i (rfl | rfl | rfl)
          · exact .inl (.inl rfl)
          · rcases q1 with e | e
            · exact .inl (.inr (.inl e))
            · exact .inr (by omega)
          · rcases q2 with e | e
            · exact .inl (.inr (.inr e))
            · exact .inr (by omega)

theorem sep_trees {w : World} {b g c : Nat} {R : RP} {l l' : List Grp} (h : TreeAt w b g c l) (hr : RTreeAt w R l') : ∀ i, R.own i → i ≠ b ∧ i ≠ g := by
  rintro i (rfl | rfl | rfl)
  · exact ⟨hr.blk.ne h.blk (by decide), fun e => ownsRow_ne_blk h.row hr.blk (by decide) g rfl e.symm⟩
  · exact ⟨ownsRow_ne_blk hr.ups h.blk (by decide) _ rfl, fun e => ownsRow_ne_row hr.ups h.row (by decide) R.ub rfl (by rw [e]; rfl)⟩
  · exact ⟨ownsRow_ne_blk hr.here h.blk (by decide) _ rfl, fun e => ownsRow_ne_row hr.here h.row (by decide) R.hb rfl (by rw [e]; rfl)⟩

end Go.Proofs.Ytjmcfodlhhndoaa
