/-
  Contracts: slices.Collect of an iterator with a captured cell; Chain; slices.Contains.
-/
import Derived.Test.YtjmcfodlhhndoaaTreeA
import Derived.Maps.OwnIn
namespace Go.Proofs.Ytjmcfodlhhndoaa
open Go.RowKit Go.Shelf
attribute [local go_sem] Oper.semAt_some

theorem info_int : (Try.prog.info? 3).map (fun i => (i.zero, i.size, i.bytes)) = some (some (.int .i64 0), 1, 8) := by kernel_rfl

/-- Append of one element, in a fence. -/
theorem wpListIn_app {P : Program} {F : Fence} {nF : Nat} {ops : Array Oper} {rest : List Oper} {o : Oper} {a : Act} {Q : Exit → Act → World → Prop} {w : World} (hgd : o.guard = none) (s x : Operand) (t : TypeId) (ho : o.op = .call { callee := .builtin .append, args := #[s, x], argTypes := #[t, t] })
    (base : Nat) (e : TypeId) (z : Value) (size bytes : Nat) (ht : P.underlying t = some (.slice e)) (hi : (P.info? e).map (fun i => (i.zero, i.size, i.bytes)) = some (some z, size, bytes))
    (hzs : z.cells.size = size) (hsz : 0 < size) (hby : bytes ≤ 1000)
    (v : Value) (n : Nat) (xs : List Value) (hs : a.eval s = v) (hown : w.ownsRow base e size v n xs)
    (ad : Addr) (c : Nat) (news : List Value) (hx : a.eval x = .slice (some ad) 1 c) (hl : news.length = size) (hnews : ∀ j u, news[j]? = some u → w.cell? (ad.add j) = some u) (h1 : ∀ u ∈ news, u.oneCell' = true)
    (hn : n ≤ 1000000000) (hbase : base ≤ w.heap.size)
    (h : ∀ g cap w', w'.ownsRow base e size (.slice (some ⟨g, 0, none⟩) (n + 1) cap) (n + 1) (xs ++ news) → Mod (fun k => some k = v.ownBlock) w w' → (v.ownBlock = some g ∨ g = w.heap.size) → g < w'.heap.size →
      wpListIn F nF P ops Q rest (a.put o.dst (.slice (some ⟨g, 0, none⟩) (n + 1) cap)) w') : wpListIn F nF P ops Q (o :: rest) a w := by
  obtain ⟨i, hi1, hz, h2, h3⟩ := info_parts hi
  refine wpListIn_append_own_at _ hgd s x t ho base e i z size bytes ht hi1 hz h2 h3 hzs hsz v n xs hs hown ad 1 c news hx (by omega) hnews h1 (by unfold maxLen; omega) ?_ hbase ?_
  · have : (n + 1) * bytes ≤ (1000000000 + 1) * 1000 := Nat.mul_le_mul (by omega) hby
    omega
  · intro v' w' h4 h5 _ h6
    rcases id h4.2 with ⟨_, h0⟩ | ⟨g', cap, cur, rfl, _, hh, _⟩
    · omega
    · refine h g' cap w' h4 (Mod.ofGrown h5) (h6.imp (fun e => ?_) (fun e => ?_)) (Array.getElem?_eq_some_iff.1 hh).1
      · rw [← e]; rfl
      · injection e

/-- What is owned can be read. -/
theorem ints_of_row {w : World} {base : Nat} {v : Value} {xs : List Int} (h : w.ownsRow base 3 1 v xs.length (xs.map encI)) : IntsAt w v xs := by
  rcases id h.2 with ⟨rfl, h0⟩ | ⟨g, cap, cur, rfl, _, hg, hc, hm, hs, ht⟩
  · exact ⟨none, 0, by rw [h0], by omega, by unfold maxLen; omega, fun j hj => by omega⟩
  · refine ⟨_, cap, rfl, hc, hm, fun j hj => ⟨g, 0, rfl, ?_⟩⟩
    rw [Nat.zero_add, h.cellAt j (by omega), List.getElem?_map, List.getD_eq_getElem?_getD, List.getElem?_eq_getElem hj]
    rfl

theorem SeqC.at {α : Type} {P : Program} {gf : Nat} {lb : Array Value} {enc : α → Value} {gb : Nat} {S : Nat → Prop} {xs : List α} {w w' : World} (h : SeqC (P := P) gf lb enc gb S xs w) (hm : Mod (fun _ => False) w w') : SeqC (P := P) gf lb enc gb S xs w' :=
  fun l J W hW => h l J W (hm.trans hW)

theorem SeqC.mono {α : Type} {P : Program} {gf : Nat} {lb : Array Value} {enc : α → Value} {gb : Nat} {S S' : Nat → Prop} {xs : List α} {w : World} (h : SeqC (P := P) gf lb enc gb S xs w) (hs : ∀ i, S' i → S i) : SeqC (P := P) gf lb enc gb S' xs w :=
  fun l J W hW hJ hY h0 => h l J W hW hJ (fun pre x A hj hlt => by
    obtain ⟨fn, tmps, asg, bo, hy, hR⟩ := hY pre x A hj hlt
    exact ⟨fn, tmps, asg, bo, hy, hR.mono (fun e B ⟨h1, h2, h3⟩ => ⟨h1, h2, h3.mono hs⟩)⟩) h0

set_option maxHeartbeats 2000000 in
theorem appendSeq_any (gf : Nat) (lb : Array Value) (eg : ∀ args w, (callFunc gf args).run Try.prog w = .ok (.enter gf args) w) (gb : Nat) (xs : List Int) (w : World)
    (hseq : SeqC (P := Try.prog) gf lb encI gb (fun i => w.heap.size ≤ i) xs w) (hgb : gb < w.heap.size) (hxl : xs.length ≤ 1000) :
    Calls Try.prog 39 #[.slice none 0 0, .func (.func gf) #[] lb] w fun e w' => ∃ v, e = .returned v ∧ Mod (fun i => i = gb) w w' ∧ w'.ownsRow w.heap.size 3 1 v xs.length (xs.map encI) := by
  refine (callsIn_wide (n := 0)).1 ?_
  refine callsIn_of_wp_marks Try.func39 rfl trivial ?_ rfl
  simp only [Try.ntmps39, List.size_toArray, List.length_cons, List.length_nil, Nat.reduceAdd, Nat.reduceSub, Array.replicate_succ, Array.replicate_zero, List.push_toArray, List.append_toArray, List.nil_append, List.cons_append]
  gi_wp2
  obtain ⟨w1, hw1⟩ : ∃ w1, w1 = w.alloc (.cells #[.slice none 0 0] 22) := ⟨_, rfl⟩
  have b1 : Blk w1 w.heap.size #[.slice none 0 0] 22 := by rw [hw1]; exact Blk.new w _ _
  have m1 : Mod (fun _ => False) w w1 := by rw [hw1]; exact Mod.alloc' _ _ _
  have s1 : w1.heap.size = w.heap.size + 1 := by rw [hw1]; simp
  rw [← hw1]
  have hq1 := hseq.at m1
  clear hseq hw1
  refine wp_range_cap (gf := gf) (lb := lb) rfl eg hq1 rfl (by omega) (fun i hi => by omega)
    (fun pre W => ∃ v, Blk W w.heap.size #[v] 22 ∧ W.ownsRow w.heap.size 3 1 v pre.length (pre.map encI) ∧ Mod (fun i => i = gb) w W ∧ (∀ g, v.ownBlock = some g → w1.heap.size + 2 ≤ g)) ?hJ ?h0 (fun x => { tmps := #[.slice none 0 0, .func (.func gf) #[] lb, .pointer (some ⟨w.heap.size, 0, none⟩), undef, .slice none 0 0, .int .i64 x, .func (.func gf) #[] lb, .int .i64 x, undef, undef, undef, undef, undef], defers := [] }) ?assign ?body ?done
  case hJ =>
    rintro pre A B ⟨v, h1, h2, h3, h4⟩ hm
    have := h1.lt
    exact ⟨v, h1.keep hm (by omega), ownsRow_keep h2 hm (fun g hg => by have := h4 g hg; omega), h3.trans' hm (fun i hi h => by omega), h4⟩
  case h0 => exact ⟨_, b1, ⟨rfl, .inl ⟨rfl, rfl⟩⟩, m1.mono (fun _ x => x.elim), fun g hg => by cases hg⟩
  case assign =>
    intro l x W K hK
    clear s1
    gi_wp2
    simpa [encI] using hK
  case body =>
    rintro l pre x W ⟨v, h1, h2, h3, h4⟩ hlen hsz
    have hc := h1.cell 0
    simp only [List.getElem?_toArray, List.getElem?_cons_zero] at hc
    have hf := h1.frozen 0
    have z1 := Lib.hid s1
    have hs3 := h3.size
    have hlt := h1.lt
    have hx1 : pre.length ≤ 1000 := by omega
    have hL := Lib.hid hlen
    clear s1 hlen
    gi_wp2_with (gi_at_builtin; refine wpListIn_app rfl _ _ 22 rfl w.heap.size 3 (.int .i64 0) 1 8 Try.underlying22 info_int rfl (by decide) (by decide) v pre.length _ rfl (h2.alloc _) ⟨W.heap.size, 0, none⟩ 1 [.int .i64 x] rfl rfl (cell_one_new _ _ _) (by simp [Value.oneCell']) (by omega) (by simp; omega) ?_; intro g cap w2 o2 m2 hg hlt2; have hB2 : Blk w2 w.heap.size #[v] 22 := (h1.alloc _).keep m2 (fun e => ownsRow_ne_blk h2 h1 (by decide) _ e.symm rfl); have he2 := hB2.cell 0; simp only [List.getElem?_toArray, List.getElem?_cons_zero] at he2; have hf2 := hB2.frozen 0)
    have s1 := z1.out
    have hb := hB2.set 0 (.slice (some ⟨g, 0, none⟩) (pre.length + 1) cap)
    have o3 := ownsRow_keep o2 (mod_setCell w2 w.heap.size 0 (.slice (some ⟨g, 0, none⟩) (pre.length + 1) cap)) (ownsRow_ne_blk o2 hB2 (by decide))
    have m3 : Mod (fun k => some k = v.ownBlock) W w2 := (Mod.alloc' _ _ _).trans m2
    have m4 := mod_setCell w2 w.heap.size 0 (.slice (some ⟨g, 0, none⟩) (pre.length + 1) cap)
    have hge : w1.heap.size + 2 ≤ g := by
      rcases hg with hg | hg
      · exact h4 g hg
      · rw [hg]; simp; omega
    have hz := m3.size
    refine ⟨⟨_, hb, o3, (h3.trans' m3 (fun i hi e => by have := h4 i e.symm; omega)).trans' m4 (fun i hi e => by omega), fun g' e => ?_⟩, (m3.mono (S' := fun i => w.heap.size ≤ i ∧ ¬i = w1.heap.size ∧ ¬i = w1.heap.size + 1) (fun i e => by have := h4 i e.symm; omega)).trans' m4 (fun i hi e => by omega)⟩
    injection e with e
    simp only at e
    omega
  case done =>
    rintro W ⟨v, h1, h2, h3, h4⟩ hK
    have hc := h1.cell 0
    simp only [List.getElem?_toArray, List.getElem?_cons_zero] at hc
    obtain ⟨a, c, rfl⟩ := ownsRow_form h2
    clear s1
    gi_wp2
    refine ⟨by simp, .inl ⟨_, _, rfl, run_takeDeferred hK, ?_⟩⟩
    exact ⟨_, results_tmp rfl _ _ _, _, rfl, h3.putObj (.inr (by have := m1.size; omega)) _, ownsRow_keep h2 (mod_putObj _ _ _) (fun g hg => by have := h4 g hg; omega)⟩

theorem collect_any (gf : Nat) (lb : Array Value) (eg : ∀ args w, (callFunc gf args).run Try.prog w = .ok (.enter gf args) w) (gb : Nat) (xs : List Int) (w : World)
    (hseq : SeqC (P := Try.prog) gf lb encI gb (fun i => w.heap.size ≤ i) xs w) (hgb : gb < w.heap.size) (hxl : xs.length ≤ 1000) :
    Calls Try.prog 34 #[.func (.func gf) #[] lb] w fun e w' => ∃ v, e = .returned v ∧ Mod (fun i => i = gb) w w' ∧ w'.ownsRow w.heap.size 3 1 v xs.length (xs.map encI) := by
  go_enter Try.func34, Try.ntmps34
  go_wp2_with fail
  refine (appendSeq_any gf lb eg gb xs _ hseq hgb hxl).mono ?_
  rintro e w1 ⟨v, rfl, hm, ho⟩
  obtain ⟨a, c, rfl⟩ := ownsRow_form ho
  go_wp2_with fail
  go_ret
  exact ⟨_, rfl, hm, ho⟩

set_option maxHeartbeats 400000 in
theorem chain_any (b g c : Nat) (l : List Grp) (n : Int) (w : World) (h : TreeAt w b g c l) :
    Calls Try.prog 20 #[.pointer (some ⟨b, 0, none⟩), .int .i64 n] w fun e w' => ∃ v, e = .returned v ∧ Mod (fun _ => False) w w' ∧ IntsAt w' v (chainL l n) := by
  have hle := chain_le h.good n
  have hbl := h.blk.lt
  have hgl := h.glt
  go_enter Try.func20, Try.ntmps20
  go_wp2_with fail
  refine (up_any b n _).mono ?_
  rintro e w1 ⟨rfl, hw1⟩
  have b2 := Blk.new w #[.pointer (some ⟨b, 0, none⟩)] 26
  have m2 := Mod.alloc' (fun _ => False) w (.cells #[.pointer (some ⟨b, 0, none⟩)] 26)
  have b3 := Blk.new (w.alloc (.cells #[.pointer (some ⟨b, 0, none⟩)] 26)) #[.int .i64 n] 3
  have m3 := Mod.alloc' (fun _ => False) (w.alloc (.cells #[.pointer (some ⟨b, 0, none⟩)] 26)) (.cells #[.int .i64 n] 3)
  rw [← hw1] at b3 m3
  rw [World.size_alloc] at b3
  have hB2 := b2.keep m3 (fun x => x)
  have hm1 := m2.trans m3
  have hsz : w1.heap.size = w.heap.size + 2 := by rw [hw1]; simp
  have hT := h.keepN hm1
  clear b2 m2 m3 hw1
  have hb3 := Lib.hid hsz
  clear hsz
  go_wp2_with fail
  refine (collect_any _ _ (enters_of Try.func40 (by kernel_rfl) rfl) (w.heap.size + 1) (chainL l n) w1 (up1_seq b g c l n w.heap.size (w.heap.size + 1) _ w1 hT hB2 b3 (by have := hb3.out; refine ⟨?_, ?_, ?_, ?_⟩ <;> omega)) (by have := hb3.out; omega) (by omega)).mono ?_
  rintro e w2 ⟨v, rfl, hm, ho⟩
  obtain ⟨a, c', rfl⟩ := ownsRow_form ho
  go_wp2_with fail
  go_ret
  exact ⟨_, rfl, hm1.trans' hm (fun i hi e => by have := hb3.out; omega), ints_of_row ho⟩

end Go.Proofs.Ytjmcfodlhhndoaa
