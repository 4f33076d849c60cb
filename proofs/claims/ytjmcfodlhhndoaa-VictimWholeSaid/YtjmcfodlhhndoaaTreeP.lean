/-
  Plain facts about a tree of groups: no program in sight.
-/
import Derived.Test.YtjmcfodlhhndoaaLib
namespace Go.Proofs.Ytjmcfodlhhndoaa
open Go.RowKit

structure Grp where
  up : Int
  live : Bool

def ecGrp (x : Grp) : List Value := [.int .i64 x.up, .bool x.live]
theorem ecGrp_len (x : Grp) : (ecGrp x).length = 2 := rfl

def upF : Nat → List Grp → Int → List Int
  | 0, _, _ => []
  | n + 1, l, g => if 0 ≤ g then (match l[g.toNat]? with | some x => g :: upF n l x.up | none => []) else []

/-- A group, and all above. -/
def ups (l : List Grp) (g : Int) : List Int := upF (g.toNat + 1) l g

def liveB (l : List Grp) (g : Int) : Bool := decide (0 ≤ g) && ((l[g.toNat]?).map (·.live)).getD false
def upOf (l : List Grp) (g : Int) : Int := ((l[g.toNat]?).map (·.up)).getD (-1)
def chainL (l : List Grp) (g : Int) : List Int := if liveB l g = true then ups l g else []
def depthL (l : List Grp) (g : Int) : Int := ((chainL l g).length : Int) - 1
def parL (l : List Grp) (g : Int) : Int := if liveB l g = true then upOf l g else -1
def thoseL (l : List Grp) (p : Int → Bool) : List Int := ((List.range l.length).map (fun (i : Nat) => (i : Int))).filter (fun i => liveB l i && p i)
def belowL (l : List Grp) (g : Int) : List Int := if liveB l g = true then thoseL l (fun x => decide (g ∈ chainL l x)) else []
def kidsL (l : List Grp) (g : Int) : List Int := if liveB l g = true then thoseL l (fun x => upOf l x == g) else []
def addE (l : List Grp) (p : Int) : Int := if liveB l p = true then (if 7 ≤ depthL l p then 21 else if 64 ≤ l.length then 3 else 0) else 2
def addG (l : List Grp) (p : Int) : Int := if addE l p = 0 then (l.length : Int) else -1
def addS (l : List Grp) (p : Int) : List Grp := if addE l p = 0 then l ++ [⟨p, true⟩] else l
def remE (l : List Grp) (g : Int) : Int := if g = 0 then 1 else if liveB l g = true then (if (kidsL l g).length = 0 then 0 else 4) else 2
def remS (l : List Grp) (g : Int) : List Grp := if remE l g = 0 then l.set g.toNat ⟨upOf l g, false⟩ else l

/-- What every tree is that was made by New, Add, Remove. -/
structure TGood (l : List Grp) : Prop where
  pos : 1 ≤ l.length
  le : l.length ≤ 64
  root : l[0]? = some ⟨-1, true⟩
  up : ∀ (i : Nat) x, l[i]? = some x → 0 < i → 0 ≤ x.up ∧ x.up < i ∧ (x.live = true → liveB l x.up = true)
  deep : ∀ g, liveB l g = true → (ups l g).length ≤ 8

theorem TGood.lt {l : List Grp} (h : TGood l) {i : Nat} {x : Grp} (hx : l[i]? = some x) : -1 ≤ x.up ∧ x.up < i := by
  cases i with
  | zero => rw [h.root] at hx; cases hx; exact ⟨by decide, by decide⟩
  | succ i => obtain ⟨h1, h2, _⟩ := h.up _ x hx (by omega); exact ⟨by omega, h2⟩

theorem upF_neg {l : List Grp} {g : Int} (hg : g < 0) : ∀ n, upF n l g = [] := by
  intro n
  cases n with
  | zero => rfl
  | succ n => unfold upF; rw [if_neg (by omega)]

theorem upF_fuel {l : List Grp} (h : ∀ (i : Nat) x, l[i]? = some x → x.up < i) : ∀ n m g, g.toNat < n → g.toNat < m → upF n l g = upF m l g := by
  intro n
  induction n with
  | zero => intro m g h1; omega
  | succ n ih =>
    intro m g h1 h2
    cases m with
    | zero => omega
    | succ m =>
      unfold upF
      by_cases hg : 0 ≤ g
      · rw [if_pos hg, if_pos hg]
        cases hx : l[g.toNat]? with
        | none => rfl
        | some x =>
          have := h _ x hx
          show g :: upF n l x.up = g :: upF m l x.up
          by_cases hn : x.up < 0
          · rw [upF_neg hn, upF_neg hn]
          · rw [ih m x.up (by omega) (by omega)]
      · rw [if_neg hg, if_neg hg]

theorem ups_neg {l : List Grp} {g : Int} (hg : g < 0) : ups l g = [] := upF_neg hg _

theorem ups_cons {l : List Grp} (h : TGood l) {g : Int} {x : Grp} (hg : 0 ≤ g) (hx : l[g.toNat]? = some x) : ups l g = g :: ups l x.up := by
  have := h.lt hx
  unfold ups
  rw [upF.eq_2, if_pos hg, hx]
  show g :: upF g.toNat l x.up = _
  by_cases hn : x.up < 0
  · rw [upF_neg hn, upF_neg hn]
  · rw [upF_fuel (fun i y hy => (h.lt hy).2) g.toNat (x.up.toNat + 1) x.up (by omega) (by omega)]

theorem ups_out {l : List Grp} {g : Int} (hx : l[g.toNat]? = none) : ups l g = [] := by
  unfold ups
  rw [upF.eq_2, hx]
  split <;> rfl

/-- A live group lies in the list. -/
theorem live_get {l : List Grp} {g : Int} (h : liveB l g = true) : ∃ x : Grp, ∃ k : Nat, g = k ∧ k < l.length ∧ l[k]? = some x ∧ x.live = true := by
  unfold liveB at h
  rw [Bool.and_eq_true, decide_eq_true_eq] at h
  obtain ⟨h1, h2⟩ := h
  cases hx : l[g.toNat]? with
  | none => rw [hx] at h2; cases h2
  | some x => rw [hx] at h2; exact ⟨x, g.toNat, by omega, (List.getElem?_eq_some_iff.1 hx).1, hx, h2⟩

theorem live_of {l : List Grp} {k : Nat} {x : Grp} (hx : l[k]? = some x) : liveB l (k : Int) = x.live := by
  unfold liveB
  rw [Int.toNat_natCast, hx]
  simp

theorem live_neg {l : List Grp} {g : Int} (hg : g < 0) : liveB l g = false := by
  unfold liveB
  have : decide (0 ≤ g) = false := by simp; omega
  rw [this]; rfl

theorem live_out {l : List Grp} {g : Int} (hg : (l.length : Int) ≤ g) : liveB l g = false := by
  unfold liveB
  rw [List.getElem?_eq_none (by omega)]
  simp

theorem upOf_of {l : List Grp} {k : Nat} {x : Grp} (hx : l[k]? = some x) : upOf l (k : Int) = x.up := by
  unfold upOf
  rw [Int.toNat_natCast, hx]
  rfl

/-- What is above a live group lives, and is smaller. -/
theorem ups_mem {l : List Grp} (h : TGood l) : ∀ (n : Nat) (g : Int), g.toNat < n → liveB l g = true → ∀ y ∈ ups l g, liveB l y = true ∧ 0 ≤ y ∧ y ≤ g := by
  intro n
  induction n with
  | zero => intro g hg; omega
  | succ n ih =>
    intro g hg hl y hy
    obtain ⟨x, k, rfl, hk, hx, hxl⟩ := live_get hl
    rw [ups_cons h (by omega) (by rw [Int.toNat_natCast]; exact hx)] at hy
    rcases List.mem_cons.1 hy with rfl | hz
    · exact ⟨hl, by omega, by omega⟩
    · clear hy
      cases k with
      | zero =>
        rw [h.root] at hx
        injection hx with hx
        subst hx
        rw [ups_neg (by decide)] at hz
        cases hz
      | succ k =>
        obtain ⟨h1, h2, h3⟩ := h.up _ x hx (by omega)
        obtain ⟨h4, h5, h6⟩ := ih x.up (by omega) (h3 hxl) y hz
        exact ⟨h4, h5, by omega⟩

theorem ups_live {l : List Grp} (h : TGood l) {g : Int} (hl : liveB l g = true) {y : Int} (hy : y ∈ ups l g) : liveB l y = true := (ups_mem h _ g (Nat.lt_succ_self _) hl y hy).1
theorem ups_le {l : List Grp} (h : TGood l) {g : Int} (hl : liveB l g = true) {y : Int} (hy : y ∈ ups l g) : y ≤ g := (ups_mem h _ g (Nat.lt_succ_self _) hl y hy).2.2

theorem ups_live_cons {l : List Grp} (h : TGood l) {g : Int} (hl : liveB l g = true) : ups l g = g :: ups l (upOf l g) ∧ (upOf l g = -1 ∧ g = 0 ∨ liveB l (upOf l g) = true ∧ upOf l g < g) := by
  obtain ⟨x, k, rfl, hk, hx, hxl⟩ := live_get hl
  rw [upOf_of hx]
  refine ⟨ups_cons h (by omega) (by rw [Int.toNat_natCast]; exact hx), ?_⟩
  cases k with
  | zero => rw [h.root] at hx; cases hx; exact .inl ⟨rfl, rfl⟩
  | succ k =>
    obtain ⟨h1, h2, h3⟩ := h.up _ x hx (by omega)
    exact .inr ⟨h3 hxl, by omega⟩

theorem chain_live {l : List Grp} {g : Int} (hl : liveB l g = true) : chainL l g = ups l g := by unfold chainL; rw [if_pos hl]
theorem chain_dead {l : List Grp} {g : Int} (hl : liveB l g = false) : chainL l g = [] := by unfold chainL; rw [if_neg (by rw [hl]; decide)]

theorem chain_le {l : List Grp} (h : TGood l) (g : Int) : (chainL l g).length ≤ 8 := by
  cases hl : liveB l g with
  | true => rw [chain_live hl]; exact h.deep g hl
  | false => rw [chain_dead hl]; simp

theorem ups_grow {l : List Grp} (h : TGood l) (y : Grp) : ∀ (n : Nat) (g : Int), g.toNat < n → g < l.length → ups (l ++ [y]) g = ups l g := by
  have key : ∀ (n : Nat) (g : Int), g < l.length → upF n (l ++ [y]) g = upF n l g := by
    intro n
    induction n with
    | zero => intro g _; rfl
    | succ n ih =>
      intro g hg
      unfold upF
      by_cases h0 : 0 ≤ g
      · rw [if_pos h0, if_pos h0, List.getElem?_append_left (by omega)]
        cases hx : l[g.toNat]? with
        | none => rfl
        | some x =>
          have := h.lt hx
          show g :: _ = g :: _
          rw [ih x.up (by omega)]
      · rw [if_neg h0, if_neg h0]
  intro n g _ hg
  exact key _ g hg

theorem live_grow {l : List Grp} {y : Grp} {g : Int} (hg : g < l.length) : liveB (l ++ [y]) g = liveB l g := by
  unfold liveB
  by_cases h0 : 0 ≤ g
  · rw [List.getElem?_append_left (by omega)]
  · have : decide (0 ≤ g) = false := by simp; omega
    rw [this]; rfl

theorem addS_good {l : List Grp} (h : TGood l) (p : Int) : TGood (addS l p) := by
  unfold addS
  split
  next he =>
    unfold addE at he
    split at he
    next hp =>
      split at he
      next => cases he
      next hd =>
        split at he
        next => cases he
        next hn =>
          obtain ⟨x, k, rfl, hk, hx, hxl⟩ := live_get hp
          refine ⟨by simp, by simp; omega, by rw [List.getElem?_append_left (by have := h.pos; omega)]; exact h.root, ?_, ?_⟩
          · intro i y hy hi
            rw [List.getElem?_append] at hy
            split at hy
            · obtain ⟨h1, h2, h3⟩ := h.up i y hy hi
              refine ⟨h1, h2, fun hyl => ?_⟩
              rw [live_grow (by omega)]
              exact h3 hyl
            · have hl : i = l.length := by
                have := (List.getElem?_eq_some_iff.1 hy).1
                simp at this; omega
              subst hl
              simp at hy
              subst hy
              refine ⟨by simp, by simp; omega, fun _ => ?_⟩
              rw [live_grow (by simp; omega)]
              exact hp
          · intro g hg
            obtain ⟨z, m, rfl, hm, hz, hzl⟩ := live_get hg
            rw [List.length_append, List.length_singleton] at hm
            by_cases hml : m < l.length
            · rw [ups_grow h _ _ _ (Nat.lt_succ_self _) (by omega)]
              exact h.deep _ (by rw [live_grow (by omega)] at hg; exact hg)
            · obtain rfl : m = l.length := by omega
              have e : ups (l ++ [⟨(k : Int), true⟩]) (l.length : Int) = (l.length : Int) :: ups l (k : Int) := by
                unfold ups
                rw [Int.toNat_natCast, upF.eq_2, if_pos (by omega), Int.toNat_natCast, List.getElem?_append_right (Nat.le_refl _), Nat.sub_self]
                show (l.length : Int) :: upF l.length (l ++ [⟨(k : Int), true⟩]) (k : Int) = _
                have hlt : ∀ (i : Nat) (y : Grp), (l ++ [⟨(k : Int), true⟩])[i]? = some y → y.up < i := by
                  intro i y hy
                  rw [List.getElem?_append] at hy
                  split at hy
                  · exact (h.lt hy).2
                  · have hl : i = l.length := by
                      have := (List.getElem?_eq_some_iff.1 hy).1
                      simp at this; omega
                    subst hl
                    simp at hy
                    subst hy
                    simp; omega
                rw [upF_fuel hlt l.length (k + 1) (k : Int) (by rw [Int.toNat_natCast]; exact hk) (by rw [Int.toNat_natCast]; omega)]
                have e2 := ups_grow h ⟨(k : Int), true⟩ _ (k : Int) (Nat.lt_succ_self _) (by omega)
                unfold ups at e2
                rw [Int.toNat_natCast] at e2
                rw [e2, Int.toNat_natCast]
              rw [e, List.length_cons]
              have hd' : ¬ 7 ≤ depthL l (k : Int) := hd
              unfold depthL at hd'
              rw [chain_live hp] at hd'
              omega
    next => cases he
  next => exact h

theorem getElem?_set' {α : Type} (l : List α) (k i : Nat) (y : α) : (l.set k y)[i]? = if i = k ∧ k < l.length then some y else l[i]? := by
  rw [List.getElem?_set]
  by_cases h : k = i
  · subst h
    by_cases hk : k < l.length
    · simp [hk]
    · simp [hk]
  · have : ¬ i = k := fun e => h e.symm
    simp [h, this]

theorem ups_set {l : List Grp} (k : Nat) (b : Bool) (x : Grp) (hx : l[k]? = some x) (g : Int) : ups (l.set k ⟨x.up, b⟩) g = ups l g := by
  have key : ∀ (n : Nat) (g : Int), upF n (l.set k ⟨x.up, b⟩) g = upF n l g := by
    intro n
    induction n with
    | zero => intro g; rfl
    | succ n ih =>
      intro g
      unfold upF
      by_cases h0 : 0 ≤ g
      · rw [if_pos h0, if_pos h0, getElem?_set']
        by_cases h : g.toNat = k ∧ k < l.length
        · rw [if_pos h, h.1, hx]
          show g :: _ = g :: _
          rw [ih]
        · rw [if_neg h]
          cases l[g.toNat]? with
          | none => rfl
          | some x => show g :: _ = g :: _; rw [ih]
      · rw [if_neg h0, if_neg h0]
  exact key _ g

theorem live_set {l : List Grp} (k : Nat) (b : Bool) (x : Grp) (hx : l[k]? = some x) (g : Int) : liveB (l.set k ⟨x.up, b⟩) g = if g = k then b else liveB l g := by
  unfold liveB
  rw [getElem?_set']
  have hk := (List.getElem?_eq_some_iff.1 hx).1
  by_cases h : g = k
  · subst h
    simp [hk]
  · rw [if_neg h]
    by_cases h0 : 0 ≤ g
    · have : ¬ g.toNat = k := by omega
      simp [this]
    · have : decide (0 ≤ g) = false := by simp; omega
      rw [this]; rfl

theorem mem_those {l : List Grp} {p : Int → Bool} {y : Int} : y ∈ thoseL l p ↔ liveB l y = true ∧ p y = true := by
  unfold thoseL
  rw [List.mem_filter, Bool.and_eq_true]
  constructor
  · rintro ⟨_, h⟩; exact h
  · intro h
    refine ⟨?_, h⟩
    obtain ⟨x, k, rfl, hk, _⟩ := live_get h.1
    exact List.mem_map.2 ⟨k, List.mem_range.2 hk, rfl⟩

theorem mem_kids {l : List Grp} {g y : Int} : y ∈ kidsL l g ↔ liveB l g = true ∧ liveB l y = true ∧ upOf l y = g := by
  unfold kidsL
  split
  next h => rw [mem_those, beq_iff_eq]; simp [h]
  next h => simp [h]

theorem mem_below {l : List Grp} {g y : Int} : y ∈ belowL l g ↔ liveB l g = true ∧ liveB l y = true ∧ g ∈ chainL l y := by
  unfold belowL
  split
  next h => rw [mem_those, decide_eq_true_eq]; simp [h]
  next h => simp [h]

theorem remE_cases (l : List Grp) (g : Int) : (remE l g ≠ 0 ∧ remS l g = l) ∨
    ∃ (k : Nat) (x : Grp), g = k ∧ 0 < k ∧ k < l.length ∧ l[k]? = some x ∧ x.live = true ∧ (kidsL l g) = [] ∧ remE l g = 0 ∧ remS l g = l.set k ⟨x.up, false⟩ := by
  by_cases he : remE l g = 0
  · right
    have he' := he
    unfold remE at he'
    split at he'
    · cases he'
    · rename_i h0
      split at he'
      · rename_i hl
        split at he'
        · rename_i hk
          obtain ⟨x, k, rfl, hkl, hx, hxl⟩ := live_get hl
          refine ⟨k, x, rfl, by omega, hkl, hx, hxl, List.length_eq_zero_iff.1 hk, he, ?_⟩
          unfold remS
          rw [if_pos he, Int.toNat_natCast, upOf_of hx]
        · cases he'
      · cases he'
  · left
    exact ⟨he, by unfold remS; rw [if_neg he]⟩

theorem remS_good {l : List Grp} (h : TGood l) (g : Int) : TGood (remS l g) := by
  rcases remE_cases l g with ⟨_, e⟩ | ⟨k, x, rfl, hk0, hk, hx, hxl, hkids, _, e⟩
  · rw [e]; exact h
  · rw [e]
    refine ⟨by rw [List.length_set]; exact h.pos, by rw [List.length_set]; exact h.le, by rw [getElem?_set', if_neg (by omega)]; exact h.root, ?_, ?_⟩
    · intro i y hy hi
      rw [getElem?_set'] at hy
      split at hy
      next hc =>
        cases hy
        obtain ⟨h1, h2, h3⟩ := h.up k x hx hk0
        exact ⟨h1, by rw [hc.1]; exact h2, fun e => by cases e⟩
      next hc =>
        obtain ⟨h1, h2, h3⟩ := h.up i y hy hi
        refine ⟨h1, h2, fun hyl => ?_⟩
        rw [live_set k false x hx]
        split
        next he =>
          exfalso
          have hm : (i : Int) ∈ kidsL l (k : Int) := by
            rw [mem_kids]
            exact ⟨by rw [live_of hx]; exact hxl, by rw [live_of hy]; exact hyl, by rw [upOf_of hy]; exact he⟩
          rw [hkids] at hm
          cases hm
        next => exact h3 hyl
    · intro g hg
      rw [ups_set k false x hx]
      rw [live_set k false x hx] at hg
      split at hg
      · cases hg
      · exact h.deep g hg

def newT : List Grp := [⟨-1, true⟩]
theorem newT_good : TGood newT := by
  refine ⟨by decide, by decide, rfl, ?_, ?_⟩
  · intro i x hx hi
    have := (List.getElem?_eq_some_iff.1 hx).1
    simp [newT] at this
    omega
  · intro g hg
    obtain ⟨x, k, rfl, hk, _⟩ := live_get hg
    simp only [newT, List.length_singleton] at hk
    obtain rfl : k = 0 := by omega
    decide

theorem addE_len {l : List Grp} {p : Int} (h : addE l p = 0) : l.length < 64 := by
  unfold addE at h
  split at h
  · split at h
    · cases h
    · split at h
      · cases h
      · omega
  · cases h

end Go.Proofs.Ytjmcfodlhhndoaa
