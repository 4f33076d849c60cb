/-
  More plain facts about who is killed.
-/
import Derived.Test.YtjmcfodlhhndoaaVicF
namespace Go.Proofs.Ytjmcfodlhhndoaa
open Go.RowKit

/-! ### chains -/

theorem ups_drop {l : List Grp} (h : TGood l) : ∀ (n : Nat) (g : Int), g.toNat < n → liveB l g = true → ∀ (i : Nat) (y : Int), (ups l g)[i]? = some y → (ups l g).drop i = ups l y := by
  intro n
  induction n with
  | zero => intro g hg; omega
  | succ n ih =>
    intro g hg hl i y hy
    obtain ⟨hcons, hnext⟩ := ups_live_cons h hl
    obtain ⟨x, k, rfl, _⟩ := live_get hl
    cases i with
    | zero =>
      rw [hcons] at hy
      simp only [List.getElem?_cons_zero, Option.some.injEq] at hy
      rw [← hy]; rfl
    | succ i =>
      rw [hcons] at hy ⊢
      rw [List.getElem?_cons_succ] at hy
      rw [List.drop_succ_cons]
      rcases hnext with ⟨e, _⟩ | ⟨hl2, hlt⟩
      · rw [ups_neg (by rw [e]; decide)] at hy; cases hy
      · obtain ⟨x2, k2, e2, _⟩ := live_get hl2
        exact ih _ (by omega) hl2 i y hy

theorem mem_drop_of {l : List Grp} (h : TGood l) {g : Int} (hl : liveB l g = true) {i j : Nat} {y t : Int} (hi : (ups l g)[i]? = some y) (hj : (ups l g)[j]? = some t) (hij : i ≤ j) : t ∈ ups l y := by
  rw [← ups_drop h _ g (Nat.lt_succ_self _) hl i y hi]
  have : ((ups l g).drop i)[j - i]? = some t := by
    rw [List.getElem?_drop, show i + (j - i) = j from by omega]; exact hj
  exact List.mem_of_getElem? this

theorem indexL_mem {ns : List Int} {n : Int} (h : n ∈ ns) : ∃ k : Nat, indexL ns n = k ∧ ns[k]? = some n := by
  refine ⟨ns.idxOf n, ?_, ?_⟩
  · unfold indexL; rw [if_pos h]
  · rw [List.getElem?_eq_getElem (List.idxOf_lt_length_of_mem h), List.getElem_idxOf]

/-! ### the group that is killed at once -/

theorem wholeD_spec (cs : List Int) (wh : List Bool) : ∀ k, (wholeD cs wh k = -1 ∧ ∀ (i : Nat) (g : Int), i < k → cs[i]? = some g → isW wh g = false) ∨ ∃ i, i < k ∧ cs[i]? = some (wholeD cs wh k) ∧ isW wh (wholeD cs wh k) = true := by
  intro k
  induction k with
  | zero => exact .inl ⟨rfl, fun i g hi => by omega⟩
  | succ k ih =>
    have hw : cs[k]? = none ∨ (∃ g, cs[k]? = some g ∧ isW wh g = false) → wholeD cs wh (k + 1) = wholeD cs wh k := by
      rintro (hn | ⟨g, hg, hf⟩)
      · rw [wholeD.eq_2, hn]
      · rw [wholeD_succ hg, hf]; rfl
    cases hk : cs[k]? with
    | none =>
      rw [hw (.inl hk)]
      rcases ih with ⟨h1, h2⟩ | ⟨i, h1, h2, h3⟩
      · refine .inl ⟨h1, fun i g hi hg => ?_⟩
        by_cases hik : i = k
        · subst hik; rw [hk] at hg; cases hg
        · exact h2 i g (by omega) hg
      · exact .inr ⟨i, by omega, h2, h3⟩
    | some g =>
      cases hf : isW wh g with
      | true =>
        right
        rw [wholeD_succ hk, hf, if_pos rfl]
        exact ⟨k, by omega, hk, hf⟩
      | false =>
        rw [hw (.inr ⟨g, hk, hf⟩)]
        rcases ih with ⟨h1, h2⟩ | ⟨i, h1, h2, h3⟩
        · refine .inl ⟨h1, fun i g' hi hg => ?_⟩
          by_cases hik : i = k
          · subst hik; rw [hk] at hg; injection hg with hg; subst hg; exact hf
          · exact h2 i g' (by omega) hg
        · exact .inr ⟨i, by omega, h2, h3⟩

/-- Who is below the group that is killed at once is below the target. -/
theorem whole_below {L : List Grp} (hG : TGood L) {grp t : Int} {wh : List Bool} (hb : grp ∈ belowL L t) (hw : ¬ wholeL (chainL L grp) t wh < 0) :
    grp ∈ belowL L (wholeL (chainL L grp) t wh) ∧ ∀ y, y ∈ belowL L (wholeL (chainL L grp) t wh) → y ∈ belowL L t := by
  rw [mem_below] at hb
  obtain ⟨ht, hl, hm⟩ := hb
  rw [chain_live hl] at hm hw ⊢
  obtain ⟨idx, hidx, hat⟩ := indexL_mem hm
  have e : wholeL (ups L grp) t wh = wholeD (ups L grp) wh (idx + 1) := by
    unfold wholeL; rw [hidx]; congr 1
  rw [e] at hw ⊢
  rcases wholeD_spec (ups L grp) wh (idx + 1) with ⟨h1, _⟩ | ⟨i, h1, h2, _⟩
  · rw [h1] at hw; exact absurd (by decide) hw
  · generalize wholeD (ups L grp) wh (idx + 1) = W at *
    have hWm := List.mem_of_getElem? h2
    have hWl := ups_live hG hl hWm
    have htW : t ∈ ups L W := mem_drop_of hG hl h2 hat (by omega)
    refine ⟨by rw [mem_below]; exact ⟨hWl, hl, by rw [chain_live hl]; exact hWm⟩, fun y hy => ?_⟩
    rw [mem_below] at hy ⊢
    obtain ⟨_, hyl, hyW⟩ := hy
    refine ⟨ht, hyl, ?_⟩
    rw [chain_live hyl] at hyW ⊢
    obtain ⟨i2, hi2⟩ := List.getElem?_of_mem hyW
    have hd := ups_drop hG _ y (Nat.lt_succ_self _) hyl i2 W hi2
    rw [← hd] at htW
    exact List.mem_of_mem_drop htW

/-! ### all that are killed -/

theorem mem_doomK {ps : List Prc} {ins : List Int} {y : Int} : ∀ k, y ∈ doomK ps ins k ↔ ∃ (j : Nat) (p : Prc), y = j ∧ j < k ∧ ps[j]? = some p ∧ p.live = true ∧ p.group ∈ ins := by
  intro k
  induction k with
  | zero => simp [doomK]
  | succ k ih =>
    cases hk : ps[k]? with
    | none =>
      rw [doomK.eq_2, hk]
      show y ∈ doomK ps ins k ↔ _
      rw [ih]
      constructor
      · rintro ⟨j, p, h1, h2, h3⟩; exact ⟨j, p, h1, by omega, h3⟩
      · rintro ⟨j, p, h1, h2, h3, h4⟩
        have : j ≠ k := by rintro rfl; rw [hk] at h3; cases h3
        exact ⟨j, p, h1, by omega, h3, h4⟩
    | some q =>
      rw [doomK_succ hk]
      by_cases hq : (q.live && decide (q.group ∈ ins)) = true
      · rw [if_pos hq, List.mem_append, List.mem_singleton, ih]
        rw [Bool.and_eq_true, decide_eq_true_eq] at hq
        constructor
        · rintro (⟨j, p, h1, h2, h3⟩ | rfl)
          · exact ⟨j, p, h1, by omega, h3⟩
          · exact ⟨k, q, rfl, by omega, hk, hq.1, hq.2⟩
        · rintro ⟨j, p, h1, h2, h3⟩
          by_cases hjk : j = k
          · subst hjk; exact .inr h1
          · exact .inl ⟨j, p, h1, by omega, h3⟩
      · rw [if_neg hq, ih]
        constructor
        · rintro ⟨j, p, h1, h2, h3⟩; exact ⟨j, p, h1, by omega, h3⟩
        · rintro ⟨j, p, h1, h2, h3, h4, h5⟩
          have : j ≠ k := by
            rintro rfl
            rw [hk] at h3
            injection h3 with h3
            subst h3
            exact hq (by simp [h4, h5])
          exact ⟨j, p, h1, by omega, h3, h4, h5⟩

theorem sorted_doomK (ps : List Prc) (ins : List Int) : ∀ k, (doomK ps ins k).Pairwise (· < ·) := by
  intro k
  induction k with
  | zero => exact List.Pairwise.nil
  | succ k ih =>
    rw [doomK.eq_2]
    cases hk : ps[k]? with
    | none => exact ih
    | some q =>
      show (if _ then _ else _ : List Int).Pairwise (· < ·)
      split
      · rw [List.pairwise_append]
        refine ⟨ih, List.pairwise_singleton _ _, fun a ha b hb => ?_⟩
        rw [List.mem_singleton] at hb
        subst hb
        obtain ⟨j, _, rfl, hj, _⟩ := (mem_doomK k).1 ha
        omega
      · exact ih

/-- What the law asks of each that is killed. -/
theorem doom_each {L : List Grp} (hG : TGood L) {ps : List Prc} {t : Int} {wh : List Bool} {y : Int} (hy : y ∈ doomL L ps t wh) : ∃ (j : Nat) (p : Prc), y = j ∧ j < ps.length ∧ ps[j]? = some p ∧ p.live = true ∧ p.group ∈ belowL L t := by
  unfold doomL at hy
  split at hy
  · cases hy
  · rename_i hv
    rcases vicL_cases (L := L) (ps := ps) (t := t) with ⟨hneg, _⟩ | ⟨j, p, hvj, hj, hpj, hpl, hpg⟩
    · exact absurd hneg hv
    · split at hy
      · rw [List.mem_singleton] at hy
        rw [hy, hvj]
        exact ⟨j, p, rfl, hj, hpj, hpl, hpg⟩
      · rename_i hw
        unfold atOnce at hw hy
        rw [hvj, grpOf_at hpj] at hw hy
        obtain ⟨j2, p2, h1, h2, h3, h4, h5⟩ := (mem_doomK _).1 hy
        exact ⟨j2, p2, h1, h2, h3, h4, (whole_below hG hpg hw).2 _ h5⟩

theorem doom_sorted (L : List Grp) (ps : List Prc) (t : Int) (wh : List Bool) : (doomL L ps t wh).Pairwise (· < ·) := by
  unfold doomL
  split
  · exact List.Pairwise.nil
  · split
    · exact List.pairwise_singleton _ _
    · exact sorted_doomK _ _ _

theorem doom_vic {L : List Grp} (hG : TGood L) {ps : List Prc} {t : Int} {wh : List Bool} (hv : ¬ vicL L ps t < 0) : vicL L ps t ∈ doomL L ps t wh := by
  unfold doomL
  rw [if_neg hv]
  rcases vicL_cases (L := L) (ps := ps) (t := t) with ⟨hneg, _⟩ | ⟨j, p, hvj, hj, hpj, hpl, hpg⟩
  · exact absurd hneg hv
  · split
    · exact List.mem_singleton.2 rfl
    · rename_i hw
      unfold atOnce at hw ⊢
      rw [hvj, grpOf_at hpj] at hw ⊢
      exact (mem_doomK _).2 ⟨j, p, rfl, hj, hpj, hpl, (whole_below hG hpg hw).1⟩

def sizeAt (ps : List Prc) (v : Int) : Int := ((ps[v.toNat]?).map (·.size)).getD 0
theorem sizeAt_at {ps : List Prc} {j : Nat} {p : Prc} (h : ps[j]? = some p) : sizeAt ps (j : Int) = p.size := by
  unfold sizeAt
  rw [Int.toNat_natCast, h]
  rfl

def hasK (ps : List Prc) (D : List Int) : Nat → Int
  | 0 => 0
  | k + 1 => match D[k]? with
    | some d => max (hasK ps D k) (sizeAt ps d)
    | none => hasK ps D k
theorem hasK_succ {ps : List Prc} {D : List Int} {k : Nat} {d : Int} (h : D[k]? = some d) : hasK ps D (k + 1) = max (hasK ps D k) (sizeAt ps d) := by
  rw [hasK.eq_2, h]
theorem hasK_ge {ps : List Prc} {D : List Int} : ∀ (k j : Nat) (d : Int), j < k → D[j]? = some d → sizeAt ps d ≤ hasK ps D k := by
  intro k
  induction k with
  | zero => intro j d h; omega
  | succ k ih =>
    intro j d hj hd
    rw [hasK.eq_2]
    cases hk : D[k]? with
    | none =>
      have h1 := (List.getElem?_eq_some_iff.1 hd).1
      have h2 := List.getElem?_eq_none_iff.1 hk
      exact ih j d (by omega) hd
    | some q =>
      show sizeAt ps d ≤ max _ _
      by_cases hjk : j = k
      · subst hjk; rw [hd] at hk; injection hk with hk; subst hk; omega
      · have := ih j d (by omega) hd; omega
theorem hasK_le {ps : List Prc} {D : List Int} {M : Int} (hM : 0 ≤ M) (h : ∀ d ∈ D, sizeAt ps d ≤ M) : ∀ k, hasK ps D k ≤ M := by
  intro k
  induction k with
  | zero => exact hM
  | succ k ih =>
    rw [hasK.eq_2]
    cases hk : D[k]? with
    | none => exact ih
    | some d =>
      show max _ _ ≤ M
      have := h d (List.mem_of_getElem? hk)
      omega

/-- The one who has the most is among them; somebody is, just if somebody there has something. -/
theorem doom_most {L : List Grp} (hG : TGood L) {ps : List Prc} {t : Int} {wh : List Bool} :
    hasK ps (doomL L ps t wh) (doomL L ps t wh).length = (pickK ps (belowL L t) ps.length).2 ∧ ((doomL L ps t wh).length = 0 ↔ ¬ 0 < (pickK ps (belowL L t) ps.length).2) := by
  have hnn := pick_nonneg ps (belowL L t) ps.length
  have hup : ∀ d ∈ doomL L ps t wh, sizeAt ps d ≤ (pickK ps (belowL L t) ps.length).2 := by
    intro d hd
    obtain ⟨j, p, rfl, hj, hp, hl, hg⟩ := doom_each hG hd
    rw [sizeAt_at hp]
    exact pick_le _ j p hj hp hl hg
  rcases pick_ok ps (belowL L t) ps.length with ⟨h1, h2⟩ | ⟨j, p, h1, h2, h3, h4, h5, h6, h7⟩
  · have hv : vicL L ps t < 0 := by unfold vicL; rw [h1]; decide
    have hD : doomL L ps t wh = [] := by unfold doomL; rw [if_pos hv]
    rw [hD, h2]
    exact ⟨rfl, by simp⟩
  · have hv : vicL L ps t = j := h1
    have hm := doom_vic (wh := wh) hG (L := L) (ps := ps) (t := t) (by rw [hv]; omega)
    obtain ⟨i, hi⟩ := List.getElem?_of_mem hm
    have hlt := (List.getElem?_eq_some_iff.1 hi).1
    have hge := hasK_ge (ps := ps) (doomL L ps t wh).length i _ hlt hi
    rw [hv, sizeAt_at h3] at hge
    have hle := hasK_le hnn hup (doomL L ps t wh).length
    refine ⟨by omega, by omega⟩

end Go.Proofs.Ytjmcfodlhhndoaa
