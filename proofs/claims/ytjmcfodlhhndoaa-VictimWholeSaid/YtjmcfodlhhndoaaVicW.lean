/-
  Plain facts about a single group that is killed at once.
-/
import Derived.Test.YtjmcfodlhhndoaaVicG
namespace Go.Proofs.Ytjmcfodlhhndoaa
open Go.RowKit

theorem isW_nil (g : Int) : isW [] g = false := by
  unfold isW
  cases h0 : decide (0 ≤ g) with
  | false => rfl
  | true =>
    have : decide (g < (([] : List Bool).length : Int)) = false := by
      rw [decide_eq_true_eq] at h0
      exact decide_eq_false (by simp; omega)
    rw [this]; rfl

theorem wholeL_nil (cs : List Int) (t : Int) : wholeL cs t [] = -1 := by
  unfold wholeL
  rcases wholeD_spec cs [] (indexL cs t + 1).toNat with ⟨h, _⟩ | ⟨i, _, _, h⟩
  · exact h
  · rw [isW_nil] at h; cases h

theorem doom_one (L : List Grp) (ps : List Prc) (t : Int) : doomL L ps t [] = if vicL L ps t < 0 then [] else [vicL L ps t] := by
  unfold doomL atOnce
  rw [wholeL_nil]
  split
  · rfl
  · rw [if_pos (by decide)]

/-- One group alone is killed at once. -/
def oneW (g : Nat) : List Bool := (List.replicate 64 false).set g true

theorem isW_one {g : Nat} (hg : g < 64) (x : Int) : isW (oneW g) x = decide (x = (g : Int)) := by
  unfold isW oneW
  have hlen : ((List.replicate 64 false).set g true).length = 64 := by simp
  rw [hlen]
  by_cases h0 : 0 ≤ x
  · by_cases h1 : x < 64
    · obtain ⟨k, rfl⟩ : ∃ k : Nat, x = k := ⟨x.toNat, by omega⟩
      have hk : k < 64 := by omega
      rw [Int.toNat_natCast, List.getD_eq_getElem?_getD, List.getElem?_set]
      by_cases hkg : g = k
      · subst hkg
        simp [hk]; omega
      · have hkg' : ¬ (k : Int) = (g : Int) := by omega
        have h3 : decide ((k : Int) = (g : Int)) = false := decide_eq_false hkg'
        rw [if_neg hkg, List.getElem?_replicate, if_pos hk, h3]
        exact Bool.and_false _
    · have h2 : decide (x < ((64 : Nat) : Int)) = false := decide_eq_false (by omega)
      have h3 : decide (x = (g : Int)) = false := decide_eq_false (by omega)
      rw [h2, h3, Bool.and_false, Bool.false_and]
  · have h2 : decide (0 ≤ x) = false := decide_eq_false h0
    have h3 : decide (x = (g : Int)) = false := decide_eq_false (by omega)
    rw [h2, h3]; rfl

theorem ups_ge {l : List Grp} (h : TGood l) {g y : Int} (hl : liveB l g = true) (hy : y ∈ ups l g) : y ≤ g := ups_le h hl hy

/-- Where the one group lies between the picked one's group and the target. -/
theorem whole_one {L : List Grp} (hG : TGood L) {grp t : Int} {g : Nat} (hg : g < 64) (hb : grp ∈ belowL L t) :
    wholeL (chainL L grp) t (oneW g) = if (g : Int) ∈ chainL L grp ∧ (g : Int) ∈ belowL L t then (g : Int) else -1 := by
  rw [mem_below] at hb
  obtain ⟨ht, hl, hm⟩ := hb
  rw [chain_live hl] at hm ⊢
  obtain ⟨idx, hidx, hat⟩ := indexL_mem hm
  have e : wholeL (ups L grp) t (oneW g) = wholeD (ups L grp) (oneW g) (idx + 1) := by
    unfold wholeL; rw [hidx]; congr 1
  rw [e]
  have hW : ∀ x, isW (oneW g) x = true ↔ x = (g : Int) := fun x => by rw [isW_one hg, decide_eq_true_eq]
  rcases wholeD_spec (ups L grp) (oneW g) (idx + 1) with ⟨h1, h2⟩ | ⟨i, h1, h2, h3⟩
  · rw [h1, if_neg]
    rintro ⟨hgm, hgb⟩
    rw [mem_below] at hgb
    obtain ⟨_, hgl, htg⟩ := hgb
    rw [chain_live hgl] at htg
    obtain ⟨i, hi⟩ := List.getElem?_of_mem hgm
    have hcontra : ∀ i', i' < idx + 1 → (ups L grp)[i']? = some (g : Int) → False := fun i' hi' hg' => by
      have := h2 i' g hi' hg'
      rw [(hW g).2 rfl] at this
      cases this
    by_cases hii : i < idx + 1
    · exact hcontra i hii hi
    · have hgt : (g : Int) ∈ ups L t := mem_drop_of hG hl hat hi (by omega)
      have h4 := ups_le hG ht hgt
      have h5 := ups_le hG hgl htg
      have h6 : (g : Int) = t := by omega
      exact hcontra idx (by omega) (by rw [h6]; exact hat)
  · have h4 := (hW _).1 h3
    rw [h4] at h2 ⊢
    rw [if_pos]
    have hgm := List.mem_of_getElem? h2
    have hgl := ups_live hG hl hgm
    refine ⟨hgm, ?_⟩
    rw [mem_below, chain_live hgl]
    exact ⟨ht, hgl, mem_drop_of hG hl h2 hat (by omega)⟩

theorem doomK_len_succ {ps : List Prc} {ins : List Int} {k : Nat} {p : Prc} (h : ps[k]? = some p) : (doomK ps ins (k + 1)).length = if (p.live && decide (p.group ∈ ins)) = true then (doomK ps ins k).length + 1 else (doomK ps ins k).length := by
  rw [doomK_succ h]
  split <;> simp

theorem made_bools : (madeCells (Value.bool false).cells (64 * 1)).toList = List.replicate 64 (.bool false) := by kernel_rfl

theorem one_cells (g : Nat) : (List.replicate 64 (Value.bool false)).set g (.bool true) = (oneW g).flatMap ecB := by
  have e : ∀ l : List Bool, l.flatMap ecB = l.map Value.bool := by
    intro l
    induction l with
    | nil => rfl
    | cons x l ih => rw [List.flatMap_cons, ih]; rfl
  unfold oneW
  rw [e, List.map_set, List.map_replicate]

end Go.Proofs.Ytjmcfodlhhndoaa
