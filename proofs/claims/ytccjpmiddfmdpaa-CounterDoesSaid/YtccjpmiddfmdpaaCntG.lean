/-
  What the laws that go through acts share.
-/
import Derived.Test.YtccjpmiddfmdpaaCntF
namespace Go.Proofs.Ytccjpmiddfmdpaa
open Go.RowKit Go.ChangeShapes Go.WideShapes Go.ChangeAt

theorem ints_sep {w : World} {v : Value} {ns : List Int} (h : IntsAt w v ns) {cb : Nat} (hb : w.heap.size ≤ cb) : ns ≠ [] → ∀ g, v.ownBlock = some g → g ≠ cb := by
  intro hne g hg
  obtain ⟨x, hx⟩ : ∃ x, ns[0]? = some x := by
    cases ns with
    | nil => exact absurd rfl hne
    | cons x r => exact ⟨x, rfl⟩
  obtain ⟨a, cap, rfl, _⟩ := id h
  obtain ⟨b', off, rfl, hcell⟩ := intsAt_get h hx
  injection hg with hg
  simp only at hg
  have := lt_of_cell hcell
  omega

theorem info_int : (Try.prog.info? 3).map (fun i => (i.zero, i.size, i.bytes)) = some (some (.int .i64 0), 1, 8) := by kernel_rfl

/-- One act, by its remainder modulo 3. -/
def actS (l : List Cnt) (a : CAct) : List Cnt :=
  if a.k.tmod 3 = 0 then tryS l a.ns a.n else if a.k.tmod 3 = 1 then giveS l a.ns a.n else if a.k.tmod 3 = 2 then setLimS l a.g a.n else l

theorem actS_len (l : List Cnt) (a : CAct) : (actS l a).length = l.length := by
  unfold actS
  split
  · exact tryS_len _ _ _
  · split
    · exact giveS_len _ _ _
    · split
      · exact setLimS_len _ _ _
      · rfl

theorem actS_good {F : Int} {l : List Cnt} (hl : l.length = 64) (hF : 0 ≤ F) (h : CGood F l) (a : CAct) : CGood (F + 1) (actS l a) := by
  unfold actS
  split
  · exact try_good hl hF h _ _
  · split
    · exact (give_good hl hF h _ _).mono (by omega)
    · split
      · exact (setLim_good hl hF h _ _).mono (by omega)
      · exact h.mono (by omega)

/-- A row of numbers of the program's own, one for each group so far. -/
def rowOf (f : Int → Int) (k : Nat) : List Value := (List.range k).map fun (g : Nat) => Value.int .i64 (f g)

theorem rowOf_succ (f : Int → Int) (k : Nat) : rowOf f (k + 1) = rowOf f k ++ [.int .i64 (f k)] := by
  unfold rowOf
  rw [List.range_succ, List.map_append]
  rfl

theorem rowOf_get (f : Int → Int) (k j : Nat) (h : j < k) : (rowOf f k)[j]? = some (.int .i64 (f j)) := by
  unfold rowOf
  rw [List.getElem?_map, List.getElem?_range h]
  rfl

theorem row_open {w : World} {base n : Nat} {v : Value} {f : Int → Int} (hn : 0 < n) (h : w.ownsRow base 3 1 v n (rowOf f n)) :
    ∃ g cap, v = .slice (some ⟨g, 0, none⟩) n cap ∧ base ≤ g ∧ g < w.heap.size ∧ ∀ j, j < n → w.cell? ⟨g, j, none⟩ = some (.int .i64 (f j)) := by
  rcases id h.2 with ⟨_, hn0⟩ | ⟨g, cap, cur, rfl, hb, hg, _⟩
  · omega
  · refine ⟨g, cap, rfl, hb, ?_, fun j hj => ?_⟩
    · obtain ⟨hlt, _⟩ := Array.getElem?_eq_some_iff.mp hg
      exact hlt
    · rw [h.cellAt j (by omega), rowOf_get f n j hj]

theorem tmod3 (k : Int) : k.tmod 3 = 0 ∨ k.tmod 3 = 1 ∨ k.tmod 3 = 2 ∨ k.tmod 3 = -1 ∨ k.tmod 3 = -2 := by
  have h1 := Int.tmod_lt_of_pos k (by decide : (0 : Int) < 3)
  have h2 := Int.lt_tmod_of_pos k (by decide : (0 : Int) < 3)
  omega

/-- Where an act takes more, it is not above its limit behind it; and what is used stays between nought and the peak. -/
theorem act_limits {F : Int} {l : List Cnt} (hl : l.length = 64) (hF : 0 ≤ F) (h : CGood F l) (a : CAct) (g : Int) :
    ((ofS (actS l a) g).use ≤ (ofS l g).use ∨ (ofS (actS l a) g).use ≤ (ofS (actS l a) g).limit) ∧ 0 ≤ (ofS (actS l a) g).use ∧ (ofS (actS l a) g).use ≤ (ofS (actS l a) g).peak := by
  have hg := ofS_good (by omega) (actS_good hl hF h a) g
  refine ⟨?_, hg.1, hg.2.1⟩
  unfold actS
  split
  · rcases try_cases l a.ns a.n hl with ⟨_, _, _, h1⟩ | ⟨_, m, _, _, _, _, _, h1⟩ | ⟨hr, _, _, hp, h1⟩
    · rw [h1]; left; omega
    · rw [h1]; left; split <;> simp [failC]
    · obtain ⟨_, _, hn0, hn1⟩ := rightB_groups hr
      rw [h1]
      split
      · rename_i hin
        have hp := hp g hin
        unfold tryP at hp
        simp only [upC]
        by_cases hn : 0 < a.n
        · have hd : decide (0 < a.n) = true := by simp; omega
          rw [hd, Bool.true_and, decide_eq_false_iff_not] at hp
          right; omega
        · left; omega
      · left; omega
  · split
    · rcases give_cases l a.ns a.n hl with ⟨_, _, h1⟩ | ⟨_, _, h1, _⟩ | ⟨hr, _, hp, h1⟩
      · rw [h1]; left; omega
      · rw [h1]; left; omega
      · obtain ⟨_, _, hn0, hn1⟩ := rightB_groups hr
        rw [h1]
        left
        split
        · simp only [downC]; omega
        · omega
    · split
      · rcases setLim_cases l a.g a.n hl with ⟨_, h1⟩ | ⟨_, ha, _, h1⟩
        · rw [h1]; left; omega
        · rw [h1]; left; split <;> simp
      · left; omega

end Go.Proofs.Ytccjpmiddfmdpaa
