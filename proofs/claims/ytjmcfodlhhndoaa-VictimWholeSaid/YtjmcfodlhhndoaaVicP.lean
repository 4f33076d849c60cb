/-
  Plain facts about who is killed: who has the most, which group is killed at once, all that are.
-/
import Derived.Test.YtjmcfodlhhndoaaTreeC
import Derived.Test.YtjmcfodlhhndoaaTreeQ
namespace Go.Proofs.Ytjmcfodlhhndoaa
open Go.RowKit

structure Prc where
  group : Int
  size : Int
  live : Bool

def ecP (p : Prc) : List Value := [.int .i64 p.group, .int .i64 p.size, .bool p.live]
theorem ecP_len (p : Prc) : (ecP p).length = 3 := rfl

def okP (ins : List Int) (m : Int) (p : Prc) : Bool := p.live && decide (m < p.size) && decide (p.group ∈ ins)
def stepP (ins : List Int) (k : Nat) (s : Int × Int) (p : Prc) : Int × Int := if okP ins s.2 p = true then ((k : Int), p.size) else s

/-- Who has the most among the first k, and how much. -/
def pickK (ps : List Prc) (ins : List Int) : Nat → Int × Int
  | 0 => (-1, 0)
  | k + 1 => match ps[k]? with
    | some p => stepP ins k (pickK ps ins k) p
    | none => pickK ps ins k

theorem pickK_succ {ps : List Prc} {ins : List Int} {k : Nat} {p : Prc} (h : ps[k]? = some p) : pickK ps ins (k + 1) = stepP ins k (pickK ps ins k) p := by
  rw [pickK.eq_2, h]

/-- What is known of the one picked. -/
def PickOk (ps : List Prc) (ins : List Int) (k : Nat) (s : Int × Int) : Prop :=
  (s.1 = -1 ∧ s.2 = 0) ∨ ∃ (j : Nat) (p : Prc), s.1 = j ∧ j < k ∧ ps[j]? = some p ∧ p.live = true ∧ p.group ∈ ins ∧ p.size = s.2 ∧ 0 < s.2

theorem pick_ok (ps : List Prc) (ins : List Int) : ∀ k, PickOk ps ins k (pickK ps ins k) := by
  intro k
  induction k with
  | zero => exact .inl ⟨rfl, rfl⟩
  | succ k ih =>
    have hw : PickOk ps ins (k + 1) (pickK ps ins k) := by
      rcases ih with h | ⟨j, p, h1, h2, h3⟩
      · exact .inl h
      · exact .inr ⟨j, p, h1, by omega, h3⟩
    rw [pickK.eq_2]
    cases hp : ps[k]? with
    | none => exact hw
    | some p =>
      show PickOk ps ins (k + 1) (stepP ins k (pickK ps ins k) p)
      unfold stepP
      split
      next ho =>
        unfold okP at ho
        simp only [Bool.and_eq_true, decide_eq_true_eq] at ho
        have h0 : 0 ≤ (pickK ps ins k).2 := by
          rcases ih with h | ⟨_, _, _, _, _, _, _, _, h⟩ <;> omega
        exact .inr ⟨k, p, rfl, by omega, hp, ho.1.1, ho.2, rfl, by simp only; omega⟩
      next => exact hw

theorem pick_nonneg (ps : List Prc) (ins : List Int) (k : Nat) : 0 ≤ (pickK ps ins k).2 := by
  rcases pick_ok ps ins k with h | ⟨_, _, _, _, _, _, _, _, h⟩ <;> omega

/-- How much the most is, told by a greatest. -/
theorem pick_most {ps : List Prc} {ins : List Int} {k : Nat} {p : Prc} (h : ps[k]? = some p) :
    (pickK ps ins (k + 1)).2 = if (p.live && decide (p.group ∈ ins)) = true then max (pickK ps ins k).2 p.size else (pickK ps ins k).2 := by
  rw [pickK_succ h]
  unfold stepP okP
  cases hl : p.live with
  | false => simp
  | true =>
    by_cases hg : p.group ∈ ins
    · by_cases hm : (pickK ps ins k).2 < p.size
      · simp [hg, hm]; omega
      · simp [hg, hm]; omega
    · simp [hg]

theorem pick_le {ps : List Prc} {ins : List Int} : ∀ (k j : Nat) (p : Prc), j < k → ps[j]? = some p → p.live = true → p.group ∈ ins → p.size ≤ (pickK ps ins k).2 := by
  intro k
  induction k with
  | zero => intro j p h; omega
  | succ k ih =>
    intro j p hj hp hl hg
    cases hk : ps[k]? with
    | none =>
      have h1 := (List.getElem?_eq_some_iff.1 hp).1
      have h2 := List.getElem?_eq_none_iff.1 hk
      have hjk : j < k := by omega
      have := ih j p hjk hp hl hg
      rw [pickK.eq_2, hk]
      exact this
    | some q =>
      rw [pick_most hk]
      by_cases hjk : j = k
      · subst hjk
        rw [hp] at hk
        injection hk with hk
        subst hk
        rw [if_pos (by simp [hl, hg])]
        omega
      · have := ih j p (by omega) hp hl hg
        split <;> omega

/-- The other way to tell that one is picked. -/
theorem okP_ref {ps : List Prc} {ins : List Int} {k : Nat} (p : Prc) {s : Int × Int} (h : PickOk ps ins k s) (m : Int) (hm : ∀ j q, s.1 = (j : Nat) → ps[j]? = some q → m = q.size) :
    okP ins s.2 p = (p.live && decide (0 < p.size) && decide (p.group ∈ ins) && (decide (s.1 < 0) || decide (m < p.size))) := by
  unfold okP
  rcases h with ⟨h1, h2⟩ | ⟨j, q, h1, h2, h3, h4, h5, h6, h7⟩
  · rw [h1, h2]; simp
  · have e : m = s.2 := by rw [hm j q h1 h3, h6]
    have e2 : decide (s.1 < 0) = false := by rw [h1]; simp
    rw [e, e2, Bool.false_or]
    cases p.live <;> simp
    by_cases hs : s.2 < p.size
    · have : 0 < p.size := by omega
      simp [hs, this]
    · simp [hs]

def isW (wh : List Bool) (g : Int) : Bool := decide (0 ≤ g) && decide (g < wh.length) && wh.getD g.toNat false

/-- The last of the first k that is killed at once, or -1. -/
def wholeD (cs : List Int) (wh : List Bool) : Nat → Int
  | 0 => -1
  | k + 1 => match cs[k]? with
    | some g => if isW wh g = true then g else wholeD cs wh k
    | none => wholeD cs wh k

theorem wholeD_succ {cs : List Int} {wh : List Bool} {k : Nat} {g : Int} (h : cs[k]? = some g) : wholeD cs wh (k + 1) = if isW wh g = true then g else wholeD cs wh k := by
  rw [wholeD.eq_2, h]

def wholeL (cs : List Int) (t : Int) (wh : List Bool) : Int := wholeD cs wh (indexL cs t + 1).toNat

/-- Of the first k those that live and are in. -/
def doomK (ps : List Prc) (ins : List Int) : Nat → List Int
  | 0 => []
  | k + 1 => match ps[k]? with
    | some p => if (p.live && decide (p.group ∈ ins)) = true then doomK ps ins k ++ [(k : Int)] else doomK ps ins k
    | none => doomK ps ins k

theorem doomK_succ {ps : List Prc} {ins : List Int} {k : Nat} {p : Prc} (h : ps[k]? = some p) : doomK ps ins (k + 1) = if (p.live && decide (p.group ∈ ins)) = true then doomK ps ins k ++ [(k : Int)] else doomK ps ins k := by
  rw [doomK.eq_2, h]

theorem doomK_le (ps : List Prc) (ins : List Int) : ∀ k, (doomK ps ins k).length ≤ k := by
  intro k
  induction k with
  | zero => exact Nat.le_refl _
  | succ k ih =>
    rw [doomK.eq_2]
    cases ps[k]? with
    | none => exact Nat.le_succ_of_le ih
    | some p =>
      show (if _ then _ else _ : List Int).length ≤ _
      split
      · rw [List.length_append, List.length_singleton]; omega
      · omega

def grpOf (ps : List Prc) (v : Int) : Int := ((ps[v.toNat]?).map (·.group)).getD 0

def vicL (L : List Grp) (ps : List Prc) (t : Int) : Int := (pickK ps (belowL L t) ps.length).1
def atOnce (L : List Grp) (ps : List Prc) (t : Int) (wh : List Bool) : Int := wholeL (chainL L (grpOf ps (vicL L ps t))) t wh

/-- All that are killed. -/
def doomL (L : List Grp) (ps : List Prc) (t : Int) (wh : List Bool) : List Int :=
  if vicL L ps t < 0 then [] else if atOnce L ps t wh < 0 then [vicL L ps t] else doomK ps (belowL L (atOnce L ps t wh)) ps.length

theorem grpOf_at {ps : List Prc} {j : Nat} {p : Prc} (h : ps[j]? = some p) : grpOf ps (j : Int) = p.group := by
  unfold grpOf
  rw [Int.toNat_natCast, h]
  rfl

end Go.Proofs.Ytjmcfodlhhndoaa
