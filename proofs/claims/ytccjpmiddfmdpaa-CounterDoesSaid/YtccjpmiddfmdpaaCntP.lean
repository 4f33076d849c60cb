/-
  What trying, giving back and limiting make of a counter, group by group: plain facts, no program.
-/
import Derived.Test.YtccjpmiddfmdpaaCntB
namespace Go.Proofs.Ytccjpmiddfmdpaa
open Go.RowKit

theorem ofS_bad {l : List Cnt} {g : Int} (h : groupB g = false) : ofS l g = Cnt.zero := by unfold ofS; rw [h]; rfl

theorem upUse_at (n : Int) (l : List Cnt) (g : Int) (hl : l.length = 64) (hg : groupB g = true) : ofS (upUse n l g) g = { ofS l g with use := (ofS l g).use + n, peak := max (ofS l g).peak ((ofS l g).use + n) } := by
  obtain ⟨m, rfl, hm⟩ := groupB_nat hg
  unfold upUse
  rw [Int.toNat_natCast, ofS_set hl m _ _ hm, if_pos rfl]
theorem downUse_at (n : Int) (l : List Cnt) (g : Int) (hl : l.length = 64) (hg : groupB g = true) : ofS (downUse n l g) g = { ofS l g with use := (ofS l g).use - n } := by
  obtain ⟨m, rfl, hm⟩ := groupB_nat hg
  unfold downUse
  rw [Int.toNat_natCast, ofS_set hl m _ _ hm, if_pos rfl]

theorem foldl_at {f : List Cnt → Int → List Cnt} {u : Cnt → Cnt} (hf : ∀ l g, (f l g).length = l.length) (ho : ∀ l g x, l.length = 64 → groupB g = true → x ≠ g → ofS (f l g) x = ofS l x)
    (ha : ∀ l g, l.length = 64 → groupB g = true → ofS (f l g) g = u (ofS l g)) (c : List Int) (x : Int) : ∀ l, l.length = 64 → (∀ g ∈ c, groupB g = true) → c.Nodup → ofS (c.foldl f l) x = if x ∈ c then u (ofS l x) else ofS l x := by
  induction c with
  | nil => intro l _ _ _; simp
  | cons g c ih =>
    intro l hl hg hn
    rw [List.nodup_cons] at hn
    rw [List.foldl_cons, ih _ (by rw [hf]; exact hl) (fun y hy => hg y (List.mem_cons_of_mem _ hy)) hn.2]
    by_cases hx : x = g
    · subst hx
      rw [if_neg hn.1, if_pos List.mem_cons_self, ha l x hl (hg x List.mem_cons_self)]
    · rw [ho l g x hl (hg g List.mem_cons_self) hx]
      by_cases hc : x ∈ c
      · rw [if_pos hc, if_pos (List.mem_cons_of_mem _ hc)]
      · rw [if_neg hc, if_neg (by simp [hx, hc])]

def upC (n : Int) (c : Cnt) : Cnt := { c with use := c.use + n, peak := max c.peak (c.use + n) }
def downC (n : Int) (c : Cnt) : Cnt := { c with use := c.use - n }
def failC (c : Cnt) : Cnt := { c with failed := c.failed + 1 }

theorem tryS_len (l : List Cnt) (chain : List Int) (n : Int) : (tryS l chain n).length = l.length := by
  unfold tryS
  split
  · split
    · rw [List.length_set]
    · exact foldl_len (upUse_len n) _ _
  · rfl
theorem giveS_len (l : List Cnt) (chain : List Int) (n : Int) : (giveS l chain n).length = l.length := by
  unfold giveS
  split
  · split
    · rfl
    · exact foldl_len (downUse_len n) _ _
  · rfl
theorem setLimS_len (l : List Cnt) (g n : Int) : (setLimS l g n).length = l.length := by
  unfold setLimS
  split
  · rw [List.length_set]
  · rfl

theorem try_cases (l : List Cnt) (chain : List Int) (n : Int) (hl : l.length = 64) :
    (rightB chain n = false ∧ tryG l chain n = -1 ∧ tryE l chain n = 1 ∧ tryS l chain n = l) ∨
    (rightB chain n = true ∧ ∃ m : Int, groupB m = true ∧ m ∈ chain ∧ tryG l chain n = m ∧ tryE l chain n = 22 ∧ tryP n (ofS l m) = true ∧ ∀ g, ofS (tryS l chain n) g = if g = m then failC (ofS l g) else ofS l g) ∨
    (rightB chain n = true ∧ tryG l chain n = -1 ∧ tryE l chain n = 0 ∧ (∀ g ∈ chain, tryP n (ofS l g) = false) ∧ ∀ g, ofS (tryS l chain n) g = if g ∈ chain then upC n (ofS l g) else ofS l g) := by
  cases hr : rightB chain n with
  | false => exact .inl ⟨rfl, by unfold tryG; rw [hr]; rfl, by unfold tryE; rw [hr]; rfl, by unfold tryS; rw [hr]; rfl⟩
  | true =>
    right
    obtain ⟨hgs, hnd, hn0, hn1⟩ := rightB_groups hr
    rcases firstS_mem l (tryP n) chain with hno | ⟨hin, hyes⟩
    · right
      refine ⟨rfl, by unfold tryG; rw [hr, if_pos rfl, hno], by unfold tryE; rw [hr, if_pos rfl, hno]; rfl, firstS_all hno (fun x hx => groupB_nonneg (hgs x hx)), fun g => ?_⟩
      have e : tryS l chain n = chain.foldl (upUse n) l := by unfold tryS; rw [hr, if_pos rfl, hno]; rfl
      rw [e]
      exact foldl_at (upUse_len n) (upUse_other n) (upUse_at n) chain g l hl hgs hnd
    · left
      have hgg := hgs _ hin
      obtain ⟨m, hm, hm64⟩ := groupB_nat hgg
      refine ⟨rfl, firstS l (tryP n) chain, hgg, hin, by unfold tryG; rw [hr, if_pos rfl], by unfold tryE; rw [hr, if_pos rfl, if_pos (groupB_nonneg hgg)], hyes, fun g => ?_⟩
      have e : tryS l chain n = l.set m (failC (ofS l m)) := by unfold tryS failC; rw [hr, if_pos rfl, if_pos (groupB_nonneg hgg), hm, Int.toNat_natCast]
      rw [e, ofS_set hl m _ _ hm64, hm]
      by_cases h : g = (m : Int)
      · rw [if_pos h, if_pos h, h]
      · rw [if_neg h, if_neg h]

theorem give_cases (l : List Cnt) (chain : List Int) (n : Int) (hl : l.length = 64) :
    (rightB chain n = false ∧ giveE l chain n = 1 ∧ giveS l chain n = l) ∨
    (rightB chain n = true ∧ giveE l chain n = 2 ∧ giveS l chain n = l ∧ ∃ g ∈ chain, (ofS l g).use < n) ∨
    (rightB chain n = true ∧ giveE l chain n = 0 ∧ (∀ g ∈ chain, n ≤ (ofS l g).use) ∧ ∀ g, ofS (giveS l chain n) g = if g ∈ chain then downC n (ofS l g) else ofS l g) := by
  cases hr : rightB chain n with
  | false => exact .inl ⟨rfl, by unfold giveE; rw [hr]; rfl, by unfold giveS; rw [hr]; rfl⟩
  | true =>
    right
    obtain ⟨hgs, hnd, hn0, hn1⟩ := rightB_groups hr
    rcases firstS_mem l (giveP n) chain with hno | ⟨hin, hyes⟩
    · right
      refine ⟨rfl, by unfold giveE; rw [hr, if_pos rfl, hno]; rfl, firstS_give hno (fun x hx => groupB_nonneg (hgs x hx)), fun g => ?_⟩
      have e : giveS l chain n = chain.foldl (downUse n) l := by unfold giveS; rw [hr, if_pos rfl, hno]; rfl
      rw [e]
      exact foldl_at (downUse_len n) (downUse_other n) (downUse_at n) chain g l hl hgs hnd
    · left
      have hgg := groupB_nonneg (hgs _ hin)
      refine ⟨rfl, by unfold giveE; rw [hr, if_pos rfl, if_pos hgg], by unfold giveS; rw [hr, if_pos rfl, if_pos hgg], _, hin, ?_⟩
      exact of_decide_eq_true hyes

theorem setLim_cases (l : List Cnt) (g n : Int) (hl : l.length = 64) :
    (setLimE g n = 1 ∧ setLimS l g n = l) ∨
    (groupB g = true ∧ amountB n = true ∧ setLimE g n = 0 ∧ ∀ x, ofS (setLimS l g n) x = if x = g then { ofS l x with limit := n } else ofS l x) := by
  cases hg : groupB g with
  | false => exact .inl ⟨by unfold setLimE; rw [hg]; rfl, by unfold setLimS; rw [hg]; rfl⟩
  | true =>
    cases ha : amountB n with
    | false => exact .inl ⟨by unfold setLimE; rw [hg, ha]; rfl, by unfold setLimS; rw [hg, ha]; rfl⟩
    | true =>
      right
      obtain ⟨m, rfl, hm⟩ := groupB_nat hg
      refine ⟨rfl, rfl, by unfold setLimE; rw [hg, ha]; rfl, fun x => ?_⟩
      have e : setLimS l m n = l.set m { ofS l m with limit := n } := by
        unfold setLimS
        rw [hg, ha, Bool.true_and, if_pos rfl, Int.toNat_natCast]
        have := ofS_nat hl hm
        rw [List.getD_eq_getElem?_getD, this]
        rfl
      rw [e, ofS_set hl m _ _ hm]
      by_cases h : x = (m : Int)
      · rw [if_pos h, if_pos h, h]
      · rw [if_neg h, if_neg h]

theorem CGood.of {F : Int} {l : List Cnt} (hl : l.length = 64) (h : ∀ g, groupB g = true → (ofS l g).good F) : CGood F l := by
  intro c hc
  obtain ⟨k, hk, rfl⟩ := List.getElem_of_mem hc
  have h1 := ofS_nat hl (k := k) (by omega)
  rw [List.getElem?_eq_getElem hk] at h1
  injection h1 with h1
  rw [h1]
  exact h k (by unfold groupB; simp; omega)

theorem try_good {F : Int} {l : List Cnt} (hl : l.length = 64) (hF : 0 ≤ F) (h : CGood F l) (chain : List Int) (n : Int) : CGood (F + 1) (tryS l chain n) := by
  refine CGood.of (by rw [tryS_len]; exact hl) fun g hg => ?_
  have hg0 := ofS_good hF h g
  unfold Cnt.good at *
  rcases try_cases l chain n hl with ⟨_, _, _, h1⟩ | ⟨_, m, _, _, _, _, _, h1⟩ | ⟨hr, _, _, hp, h1⟩
  · rw [h1]; omega
  · rw [h1]
    split
    · simp only [failC]; omega
    · omega
  · obtain ⟨_, _, hn0, hn1⟩ := rightB_groups hr
    rw [h1]
    split
    · rename_i hin
      have hp := hp g hin
      unfold tryP at hp
      simp only [upC]
      by_cases hn : 0 < n
      · have hd : decide (0 < n) = true := by simp; omega
        rw [hd, Bool.true_and, decide_eq_false_iff_not] at hp
        omega
      · omega
    · omega

theorem give_good {F : Int} {l : List Cnt} (hl : l.length = 64) (hF : 0 ≤ F) (h : CGood F l) (chain : List Int) (n : Int) : CGood F (giveS l chain n) := by
  refine CGood.of (by rw [giveS_len]; exact hl) fun g hg => ?_
  have hg0 := ofS_good hF h g
  unfold Cnt.good at *
  rcases give_cases l chain n hl with ⟨_, _, h1⟩ | ⟨_, _, h1, _⟩ | ⟨hr, _, hp, h1⟩
  · rw [h1]; omega
  · rw [h1]; omega
  · obtain ⟨_, _, hn0, hn1⟩ := rightB_groups hr
    rw [h1]
    split
    · rename_i hin
      have hp := hp g hin
      simp only [downC]
      omega
    · omega

theorem setLim_good {F : Int} {l : List Cnt} (hl : l.length = 64) (hF : 0 ≤ F) (h : CGood F l) (g n : Int) : CGood F (setLimS l g n) := by
  refine CGood.of (by rw [setLimS_len]; exact hl) fun x hx => ?_
  have hg0 := ofS_good hF h x
  unfold Cnt.good at *
  rcases setLim_cases l g n hl with ⟨_, h1⟩ | ⟨_, ha, _, h1⟩
  · rw [h1]; omega
  · rw [h1]
    unfold amountB at ha
    simp at ha
    split
    · simp only []; omega
    · omega

theorem CGood.mono {F F' : Int} {l : List Cnt} (h : CGood F l) (hf : F ≤ F') : CGood F' l := fun c hc => by
  have := h c hc
  unfold Cnt.good at *
  omega

theorem newC_good : CGood 0 newC := by
  intro c hc
  have := List.eq_of_mem_replicate hc
  subst this
  unfold Cnt.good
  decide

theorem newC_of (g : Int) : ofS newC g = if groupB g then ⟨0, 1099511627776, 0, 0⟩ else Cnt.zero := by
  cases hg : groupB g with
  | false => rw [ofS_bad hg]; rfl
  | true =>
    obtain ⟨m, rfl, hm⟩ := groupB_nat hg
    have := ofS_nat (l := newC) rfl hm
    unfold newC at this
    rw [List.getElem?_replicate, if_pos hm] at this
    injection this with this
    exact this.symm

end Go.Proofs.Ytccjpmiddfmdpaa
