/-
  More plain facts about a tree of groups: chains end at the root, who is below, how many are.
-/
import Derived.Test.YtjmcfodlhhndoaaTreeP
namespace Go.Proofs.Ytjmcfodlhhndoaa
open Go.RowKit

theorem ups_at {l : List Grp} (h : TGood l) : ∀ (n : Nat) (g : Int), g.toNat < n → liveB l g = true → ∀ (i : Nat) (y : Int), (ups l g)[i]? = some y → liveB l y = true ∧ upOf l y = ((ups l g)[i + 1]?).getD (-1) := by
  intro n
  induction n with
  | zero => intro g hg; omega
  | succ n ih =>
    intro g hg hl i y hy
    obtain ⟨hcons, hnext⟩ := ups_live_cons h hl
    rw [hcons] at hy ⊢
    have hgn := (live_get hl)
    obtain ⟨x, k, rfl, _⟩ := hgn
    cases i with
    | zero =>
      simp only [List.getElem?_cons_zero, Option.some.injEq] at hy
      subst hy
      refine ⟨hl, ?_⟩
      rw [List.getElem?_cons_succ]
      rcases hnext with ⟨e, _⟩ | ⟨hl2, _⟩
      · rw [ups_neg (by rw [e]; decide), e]; rfl
      · rw [(ups_live_cons h hl2).1]; rfl
    | succ i =>
      rw [List.getElem?_cons_succ] at hy ⊢
      rcases hnext with ⟨e, _⟩ | ⟨hl2, hlt⟩
      · rw [ups_neg (by rw [e]; decide)] at hy; cases hy
      · obtain ⟨x2, k2, e2, _⟩ := live_get hl2
        exact ih _ (by omega) hl2 i y hy

theorem ups_len {l : List Grp} (h : TGood l) {g : Int} (hl : liveB l g = true) : 1 ≤ (ups l g).length ∧ (ups l g)[0]? = some g ∧ (ups l g)[(ups l g).length - 1]? = some 0 := by
  have h1 := (ups_live_cons h hl).1
  have hpos : 1 ≤ (ups l g).length := by rw [h1]; simp
  refine ⟨hpos, by rw [h1]; rfl, ?_⟩
  obtain ⟨y, hy⟩ : ∃ y, (ups l g)[(ups l g).length - 1]? = some y := ⟨_, List.getElem?_eq_getElem (by omega)⟩
  obtain ⟨h2, h3⟩ := ups_at h _ g (Nat.lt_succ_self _) hl _ y hy
  rw [List.getElem?_eq_none (by omega)] at h3
  have h3 : upOf l y = -1 := h3
  rcases (ups_live_cons h h2).2 with ⟨_, e⟩ | ⟨h4, _⟩
  · rw [hy, e]
  · rw [h3] at h4
    rw [live_neg (by decide)] at h4
    cases h4

theorem parL_live {l : List Grp} {g : Int} (hl : liveB l g = true) : parL l g = upOf l g := by unfold parL; rw [if_pos hl]
theorem parL_dead {l : List Grp} {g : Int} (hl : liveB l g = false) : parL l g = -1 := by unfold parL; rw [if_neg (by rw [hl]; decide)]
theorem depthL_dead {l : List Grp} {g : Int} (hl : liveB l g = false) : depthL l g = -1 := by unfold depthL; rw [chain_dead hl]; rfl
theorem belowL_dead {l : List Grp} {g : Int} (hl : liveB l g = false) : belowL l g = [] := by unfold belowL; rw [if_neg (by rw [hl]; decide)]
theorem kidsL_dead {l : List Grp} {g : Int} (hl : liveB l g = false) : kidsL l g = [] := by unfold kidsL; rw [if_neg (by rw [hl]; decide)]

theorem below_in {l : List Grp} (h : TGood l) {g : Int} (hl : liveB l g = true) (x : Int) : decide (g ∈ belowL l x) = decide (x ∈ chainL l g) := by
  rw [decide_eq_decide, mem_below, chain_live hl]
  exact ⟨fun hx => hx.2.2, fun hx => ⟨ups_live h hl hx, hl, hx⟩⟩

/-! ### counting who is below -/

theorem countP_excl {α : Type} (p q r : α → Bool) (l : List α) (h : ∀ x, x ∈ l → (if r x = true then 1 else 0) = (if p x = true then 1 else 0) + (if q x = true then (1 : Nat) else 0)) : l.countP r = l.countP p + l.countP q := by
  induction l with
  | nil => rfl
  | cons a l ih =>
    rw [List.countP_cons, List.countP_cons, List.countP_cons, ih (fun x hx => h x (List.mem_cons_of_mem _ hx)), h a List.mem_cons_self]
    omega

theorem nodup_those (l : List Grp) (p : Int → Bool) : (thoseL l p).Nodup := by
  unfold thoseL
  refine List.Pairwise.filter _ ?_
  refine List.Pairwise.map (fun (i : Nat) => (i : Int)) (R := fun a b : Nat => a < b) (fun a b hab => ?_) List.pairwise_lt_range
  omega

theorem nodup_kids (l : List Grp) (g : Int) : (kidsL l g).Nodup := by
  unfold kidsL
  split
  · exact nodup_those _ _
  · exact List.Pairwise.nil

theorem count_eq {L : List Int} (hn : L.Nodup) (i : Int) : L.countP (fun y => decide (y = i)) = if i ∈ L then 1 else 0 := by
  rw [← hn.count, List.count_eq_countP]
  congr 1

/-- Of the kids of a group, one is in the chain of each one that is below it. -/
theorem kids_in {l : List Grp} (h : TGood l) {g : Int} (hg : liveB l g = true) : ∀ (n : Nat) (i : Int), i.toNat < n → liveB l i = true →
    (kidsL l g).countP (fun y => decide (y ∈ ups l i)) = if g ∈ ups l (upOf l i) then 1 else 0 := by
  intro n
  induction n with
  | zero => intro i hi; omega
  | succ n ih =>
    intro i hi hl
    obtain ⟨hcons, hnext⟩ := ups_live_cons h hl
    obtain ⟨x, k, rfl, _⟩ := live_get hl
    have hg0 : 0 ≤ g := by obtain ⟨_, _, rfl, _⟩ := live_get hg; omega
    have hsplit : (kidsL l g).countP (fun y => decide (y ∈ ups l k)) = (kidsL l g).countP (fun y => decide (y = (k : Int))) + (kidsL l g).countP (fun y => decide (y ∈ ups l (upOf l k))) := by
      refine countP_excl _ _ _ _ (fun y _ => ?_)
      rw [hcons]
      by_cases hy : y = (k : Int)
      · have hnot : ¬ (k : Int) ∈ ups l (upOf l k) := by
          intro hm
          rcases hnext with ⟨e, _⟩ | ⟨h2, h3⟩
          · rw [ups_neg (by rw [e]; decide)] at hm; cases hm
          · have := ups_le h h2 hm; omega
        subst hy
        simp [hnot]
      · simp [hy]
    rw [hsplit, count_eq (nodup_kids l g)]
    have hmk : ((k : Int) ∈ kidsL l g) ↔ upOf l k = g := by
      rw [mem_kids]; exact ⟨fun hx => hx.2.2, fun hx => ⟨hg, hl, hx⟩⟩
    rcases hnext with ⟨e, _⟩ | ⟨h2, h3⟩
    · have hn : ups l (upOf l k) = [] := ups_neg (by rw [e]; decide)
      rw [hn, if_neg (by rw [hmk, e]; omega), if_neg (by simp)]
      simp
    · obtain ⟨x2, k2, e2, _⟩ := live_get h2
      rw [ih _ (by omega) h2]
      obtain ⟨hc2, hn2⟩ := ups_live_cons h h2
      by_cases hp : upOf l k = g
      · have hnot : ¬ g ∈ ups l (upOf l g) := by
          rw [hp] at hn2
          intro hm
          rcases hn2 with ⟨e, _⟩ | ⟨h4, h5⟩
          · rw [ups_neg (by rw [e]; decide)] at hm; cases hm
          · have := ups_le h h4 hm; omega
        rw [if_pos (hmk.2 hp), hp, if_neg hnot, if_pos]
        rw [(ups_live_cons h hg).1]
        exact List.mem_cons_self
      · rw [if_neg (fun hm => hp (hmk.1 hm)), Nat.zero_add, hc2]
        have : ¬ g = upOf l k := fun e => hp e.symm
        simp [this]

theorem sum_map_add {α : Type} (a b : α → Nat) (L : List α) : (L.map (fun y => a y + b y)).sum = (L.map a).sum + (L.map b).sum := by
  induction L with
  | nil => rfl
  | cons x L ih => simp only [List.map_cons, List.sum_cons, ih]; omega

theorem sum_map_if {α : Type} (p : α → Bool) (L : List α) : (L.map (fun y => if p y = true then 1 else 0)).sum = L.countP p := by
  induction L with
  | nil => rfl
  | cons x L ih => rw [List.map_cons, List.sum_cons, List.countP_cons, ih]; omega

theorem below_count {l : List Grp} (h : TGood l) {g : Int} (hg : liveB l g = true) : ∀ R : List Int,
    R.countP (fun i => liveB l i && decide (g ∈ chainL l i)) = R.countP (fun i => decide (i = g)) + ((kidsL l g).map (fun y => R.countP (fun i => liveB l i && decide (y ∈ chainL l i)))).sum := by
  intro R
  induction R with
  | nil =>
    simp only [List.countP_nil]
    have : ((kidsL l g).map (fun _ => 0)).sum = 0 := by
      generalize kidsL l g = K
      induction K with
      | nil => rfl
      | cons x K ih => simpa using ih
    omega
  | cons i R ih =>
    simp only [List.countP_cons]
    rw [ih, sum_map_add, sum_map_if]
    have key : (if (liveB l i && decide (g ∈ chainL l i)) = true then 1 else 0) = (if decide (i = g) = true then 1 else 0) + (kidsL l g).countP (fun y => liveB l i && decide (y ∈ chainL l i)) := by
      cases hl : liveB l i with
      | false =>
        have hne : ¬ i = g := by rintro rfl; rw [hl] at hg; cases hg
        simp [hne]
      | true =>
        simp only [Bool.true_and]
        rw [chain_live hl, kids_in h hg _ i (Nat.lt_succ_self _) hl]
        obtain ⟨hcons, hnext⟩ := ups_live_cons h hl
        rw [hcons]
        by_cases hi : i = g
        · have hnot : ¬ g ∈ ups l (upOf l i) := by
            intro hm
            rcases hnext with ⟨e, _⟩ | ⟨h4, h5⟩
            · rw [ups_neg (by rw [e]; decide)] at hm; cases hm
            · have := ups_le h h4 hm; omega
          subst hi
          simp [hnot]
        · have hi' : ¬ g = i := fun e => hi e.symm
          simp [hi, hi']
    omega

def allI (l : List Grp) : List Int := (List.range l.length).map (fun (i : Nat) => (i : Int))

theorem below_len {l : List Grp} {g : Int} (hg : liveB l g = true) : (belowL l g).length = (allI l).countP (fun i => liveB l i && decide (g ∈ chainL l i)) := by
  unfold belowL
  rw [if_pos hg]
  unfold thoseL
  rw [← List.countP_eq_length_filter]
  rfl

theorem below_sum {l : List Grp} (h : TGood l) {g : Int} (hg : liveB l g = true) : (belowL l g).length = 1 + ((kidsL l g).map (fun y => (belowL l y).length)).sum := by
  rw [below_len hg, below_count h hg]
  congr 1
  · rw [count_eq]
    · rw [if_pos]
      obtain ⟨x, k, rfl, hk, _⟩ := live_get hg
      exact List.mem_map.2 ⟨k, List.mem_range.2 hk, rfl⟩
    · refine List.Pairwise.map (fun (i : Nat) => (i : Int)) (R := fun a b : Nat => a < b) (fun a b hab => ?_) List.pairwise_lt_range
      omega
  · congr 1
    refine List.map_congr_left (fun y hy => ?_)
    rw [mem_kids] at hy
    exact (below_len hy.2.1).symm

theorem kid_facts {l : List Grp} (h : TGood l) {g y : Int} (hy : y ∈ kidsL l g) : depthL l y = depthL l g + 1 ∧ parL l y = g := by
  rw [mem_kids] at hy
  obtain ⟨h1, h2, h3⟩ := hy
  refine ⟨?_, by rw [parL_live h2, h3]⟩
  unfold depthL
  rw [chain_live h1, chain_live h2, (ups_live_cons h h2).1, h3, List.length_cons]
  omega

theorem sum_take_succ (f : Int → Nat) {L : List Int} {k : Nat} {y : Int} (hy : L[k]? = some y) : ((L.take (k + 1)).map f).sum = ((L.take k).map f).sum + f y := by
  rw [List.take_add_one, hy]
  simp

theorem those_len_le (l : List Grp) (p : Int → Bool) : (thoseL l p).length ≤ l.length := by
  unfold thoseL
  exact Nat.le_trans (List.length_filter_le _ _) (by simp)
theorem kids_len_le {l : List Grp} (h : TGood l) (g : Int) : (kidsL l g).length ≤ 64 := by
  unfold kidsL
  split
  · exact Nat.le_trans (those_len_le _ _) h.le
  · simp
theorem below_len_le {l : List Grp} (h : TGood l) (g : Int) : (belowL l g).length ≤ 64 := by
  unfold belowL
  split
  · exact Nat.le_trans (those_len_le _ _) h.le
  · simp

end Go.Proofs.Ytjmcfodlhhndoaa
