/-
  Contracts: tree's New, Add, Remove.
-/
import Derived.Test.YtjmcfodlhhndoaaTreeD
namespace Go.Proofs.Ytjmcfodlhhndoaa
open Go.RowKit Go.Shelf

theorem info_group : (Try.prog.info? 60).map (fun i => (i.zero, i.size, i.bytes)) = some (some (.agg #[.int .i64 0, .bool false]), 2, 16) := by kernel_rfl

/-- A block known whole is a row of the program's own. -/
theorem owns_of_blk {w : World} {g n size T : Nat} {cs : Array Value} (h : Blk w g cs T) (hn : cs.size = n * size) (hm : n ≤ maxLen) : w.ownsRow g T size (.slice (some ⟨g, 0, none⟩) n n) n cs.toList := by
  refine ⟨by simp [hn], .inr ⟨g, n, cs, rfl, Nat.le_refl _, h, Nat.le_refl _, hm, hn, ?_⟩⟩
  exact List.take_of_length_le (by simp [hn])

/-- One cell of a row of the program's own is stored. -/
theorem ownsRow_put {w : World} {base T size n g c : Nat} {xs : List Value} (h : w.ownsRow base T size (.slice (some ⟨g, 0, none⟩) n c) n xs) (i : Nat) (u : Value) :
    (w.setCell ⟨g, i, none⟩ u).ownsRow base T size (.slice (some ⟨g, 0, none⟩) n c) n (xs.set i u) := by
  rcases id h.2 with ⟨h0, _⟩ | ⟨g', cap, cur, hv, hb, hg, h1, h2, h3, h4⟩
  · cases h0
  · injection hv with e1 e2 e3
    injection e1 with e1
    injection e1 with e1 _ _
    subst e1 e3
    refine ⟨by rw [List.length_set]; exact h.1, .inr ⟨_, _, cur.setIfInBounds i u, rfl, hb, heap_setCell_same w _ i cur T u hg, h1, h2, by rw [Array.size_setIfInBounds]; exact h3, ?_⟩⟩
    rw [Array.toList_setIfInBounds, ← h4, List.take_set]

theorem frozen_row {w : World} {base T size n g c : Nat} {xs : List Value} (h : w.ownsRow base T size (.slice (some ⟨g, 0, none⟩) n c) n xs) (i : Nat) : w.frozen? ⟨g, i, none⟩ = false := by
  rcases id h.2 with ⟨h0, _⟩ | ⟨g', cap, cur, hv, hb, hg, h1, h2, h3, h4⟩
  · cases h0
  · injection hv with e1 e2 e3
    injection e1 with e1
    injection e1 with e1 _ _
    subst e1
    exact Blk.frozen (w := w) (cs := cur) (T := T) hg i

theorem flat_set {α : Type} {ec : α → List Value} {sz : Nat} (hlen : ∀ x, (ec x).length = sz) (v : Value) (x' : α) : ∀ (l : List α) (j i : Nat) (x : α), i < sz → l[j]? = some x → ec x' = (ec x).set i v → (l.flatMap ec).set (j * sz + i) v = (l.set j x').flatMap ec := by
  intro l
  induction l with
  | nil => intro j i x _ hx; simp at hx
  | cons y l ih =>
    intro j i x hi hx he
    rw [List.flatMap_cons]
    cases j with
    | zero =>
      simp only [List.getElem?_cons_zero, Option.some.injEq] at hx
      subst hx
      rw [Nat.zero_mul, Nat.zero_add, List.set_append_left _ _ (by rw [hlen]; exact hi), List.set_cons_zero, List.flatMap_cons, he]
    | succ j =>
      simp only [List.getElem?_cons_succ] at hx
      rw [Nat.succ_mul, List.set_append_right _ _ (by rw [hlen]; omega), hlen, show j * sz + sz + i - sz = j * sz + i from by omega, ih j i x hi hx he, List.set_cons_succ, List.flatMap_cons]

set_option maxHeartbeats 400000 in
theorem new_any (w : World) : Calls Try.prog 21 #[] w fun e w' => ∃ b g c, e = .returned (.pointer (some ⟨b, 0, none⟩)) ∧ Mod (fun _ => False) w w' ∧ TreeAt w' b g c newT ∧ w.heap.size ≤ b ∧ w.heap.size ≤ g := by
  go_enter Try.func21, Try.ntmps21
  go_wp2_with fail
  go_ret
  have b2 := Blk.new w #[.int .i64 (-1), .bool true] 60
  have hm2 := Mod.alloc' (fun _ => False) w (.cells #[.int .i64 (-1), .bool true] 60)
  have b3 := Blk.new (w.alloc (.cells #[.int .i64 (-1), .bool true] 60)) #[.slice (some ⟨w.heap.size, 0, none⟩) 1 1] 63
  have hm3 := Mod.alloc' (fun _ => False) (w.alloc (.cells #[.int .i64 (-1), .bool true] 60)) (.cells #[.slice (some ⟨w.heap.size, 0, none⟩) 1 1] 63)
  have b4 := b2.keep hm3 (fun x => x)
  rw [World.size_alloc] at b3
  refine ⟨_, w.heap.size, 1, rfl, hm2.trans hm3, ⟨b3, ownsRow_base (owns_of_blk (n := 1) (size := 2) b4 rfl (by unfold maxLen; omega)) (Nat.zero_le _), newT_good⟩, by omega, Nat.le_refl _⟩

set_option maxHeartbeats 1000000 in
theorem add_any (b g c : Nat) (l : List Grp) (p : Int) (w : World) (h : TreeAt w b g c l) :
    Calls Try.prog 22 #[.pointer (some ⟨b, 0, none⟩), .int .i64 p] w fun e w' =>
      ∃ g' c', e = .returned (.tuple #[.int .i64 (addG l p), .int .i64 (addE l p)]) ∧ Mod (fun i => i = b ∨ i = g) w w' ∧ TreeAt w' b g' c' (addS l p) ∧ (g' = g ∨ w.heap.size ≤ g') := by
  cases hl : liveB l p with
  | false =>
    have e1 : addE l p = 2 := by unfold addE; rw [hl]; rfl
    have e2 : addS l p = l := by unfold addS; rw [e1]; rfl
    have e3 : addG l p = -1 := by unfold addG; rw [e1]; rfl
    rw [e1, e2, e3]
    clear e1 e2 e3
    go_enter Try.func22, Try.ntmps22
    go_wp2_with fail
    refine (live_any b g c l p _ h).mono ?_
    rw [hl]
    clear hl
    rintro e w1 ⟨rfl, rfl⟩
    go_wp2_with fail
    go_ret2
    exact ⟨g, c, rfl, Mod.refl _ _, h, .inl rfl⟩
  | true =>
    by_cases hd : 7 ≤ depthL l p
    · have e1 : addE l p = 21 := by unfold addE; rw [hl, if_pos rfl, if_pos hd]
      have e2 : addS l p = l := by unfold addS; rw [e1]; rfl
      have e3 : addG l p = -1 := by unfold addG; rw [e1]; rfl
      rw [e1, e2, e3]
      have hd' : decide (7 ≤ depthL l p) = true := by simp [hd]
      clear e1 e2 e3
      go_enter Try.func22, Try.ntmps22
      go_wp2_with fail
      refine (live_any b g c l p _ h).mono ?_
      rw [hl]
      clear hl
      rintro e w1 ⟨rfl, rfl⟩
      go_wp2_with fail
      refine (depth_any b g c l p _ h).mono ?_
      rintro e w2 ⟨rfl, hm2⟩
      go_wp2_with fail
      go_ret2
      exact ⟨g, c, rfl, hm2.mono (fun _ x => x.elim), h.keepN hm2, .inl rfl⟩
    · have hd' : decide (7 ≤ depthL l p) = false := by simp; omega
      by_cases hn : 64 ≤ l.length
      · have e1 : addE l p = 3 := by unfold addE; rw [hl, if_pos rfl, if_neg hd, if_pos hn]
        have e2 : addS l p = l := by unfold addS; rw [e1]; rfl
        have e3 : addG l p = -1 := by unfold addG; rw [e1]; rfl
        rw [e1, e2, e3]
        have hn' : decide (64 ≤ (l.length : Int)) = true := by simp; omega
        clear e1 e2 e3 hd hn
        go_enter Try.func22, Try.ntmps22
        go_wp2_with fail
        refine (live_any b g c l p _ h).mono ?_
        rw [hl]
        clear hl
        rintro e w1 ⟨rfl, rfl⟩
        go_wp2_with fail
        refine (depth_any b g c l p _ h).mono ?_
        rintro e w2 ⟨rfl, hm2⟩
        have hb := (h.keepN hm2).head
        go_wp2_with fail
        go_ret2
        exact ⟨g, c, rfl, hm2.mono (fun _ x => x.elim), h.keepN hm2, .inl rfl⟩
      · have e1 : addE l p = 0 := by unfold addE; rw [hl, if_pos rfl, if_neg hd, if_neg hn]
        have e2 : addS l p = l ++ [⟨p, true⟩] := by unfold addS; rw [e1]; rfl
        have e3 : addG l p = l.length := by unfold addG; rw [e1]; rfl
        have hgood := addS_good h.good p
        rw [e1, e2, e3]
        rw [e2] at hgood
        have hn' : decide (64 ≤ (l.length : Int)) = false := by simp; omega
        have hlen := h.good.le
        clear e1 e2 e3 hd hn
        go_enter Try.func22, Try.ntmps22
        go_wp2_with fail
        refine (live_any b g c l p _ h).mono ?_
        rw [hl]
        clear hl
        rintro e w1 ⟨rfl, rfl⟩
        go_wp2_with fail
        refine (depth_any b g c l p _ h).mono ?_
        rintro e w2 ⟨rfl, hm2⟩
        have hh := h.keepN hm2
        have hb := hh.head
        go_wp2_with (at_builtin; refine wpList_app rfl _ _ 61 rfl 0 60 _ 2 16 Try.underlying61 info_group rfl (by decide) (by decide) _ _ _ rfl (hh.row.alloc _) ⟨w2.heap.size, 0, none⟩ 1 [.int .i64 p, .bool true] rfl rfl (World.news_of_block (cs := #[.int .i64 p, .bool true]) (t := 60) (fr := (0, 0)) (heap_alloc_new w2 _)) (by simp [Value.oneCell']) (by omega) (Nat.zero_le _) ?_; intro g1 cap1 w3 o3 m3 hg3 hlt3; have m4 : Mod (fun k => some k = (Value.slice (some ⟨g, 0, none⟩) l.length c).ownBlock) w2 w3 := (Mod.alloc' _ _ _).trans m3; have hB3 := hh.blk.keep m4 (fun e => ownsRow_ne_blk hh.row hh.blk (by decide) _ e.symm rfl); have hd3 := hB3.cell 0; simp only [List.getElem?_toArray, List.getElem?_cons_zero] at hd3; have hf3 := hB3.frozen 0; have hset := hB3.set 0 (.slice (some ⟨g1, 0, none⟩) (l.length + 1) cap1); have hs3 := hset.cell 0; simp at hs3)
        go_ret2
        have hg3' : g1 = g ∨ w2.heap.size + 1 = g1 := by
          rcases hg3 with hg3 | hg3
          · injection hg3 with hg3; exact .inl hg3.symm
          · rw [hg3]; simp
        have hs2 := hm2.size
        have o5 := ownsRow_keep o3 (mod_setCell w3 b 0 (.slice (some ⟨g1, 0, none⟩) (l.length + 1) cap1)) (ownsRow_ne_blk o3 hB3 (by decide))
        refine ⟨g1, cap1, rfl, ?_, ⟨?_, ?_, hgood⟩, by omega⟩
        · exact ((hm2.mono (fun _ x => x.elim)).trans (m4.mono (fun i e => by injection e with e; exact .inr e))).trans ((mod_setCell _ _ _ _).mono (fun i e => .inl e))
        · rw [List.length_append]; exact hset
        · rw [List.length_append, List.flatMap_append]; exact o5

end Go.Proofs.Ytjmcfodlhhndoaa
