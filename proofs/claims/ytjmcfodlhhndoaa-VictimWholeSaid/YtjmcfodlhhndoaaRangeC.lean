/-
  A range over a function whose iterator keeps its state in a cell that it has captured (block gb), and whose body never leaves the loop: one law over the kit's base law.
-/
import Derived.Test.YtjmcfodlhhndoaaLib
import Derived.RangeFuncNested
import Derived.RangeFuncBound
import Derived.RangeFuncCalls
import Derived.RangeFuncLeaves
namespace Go.Proofs.Ytjmcfodlhhndoaa
open Go.RowKit

theorem mod_putObj (w : World) (l : Nat) (o : Obj) : Mod (fun i => i = l) w (w.putObj l o) :=
  ⟨rfl, rfl, rfl, by simp, fun k _ hk => World.putObj_heap_other hk⟩

theorem Mod.putObj {S : Nat → Prop} {a w : World} (h : Mod S a w) {l : Nat} (hl : S l ∨ a.heap.size ≤ l) (o : Obj) : Mod S a (w.putObj l o) :=
  h.trans' (mod_putObj w l o) (fun i hi e => by
    subst e
    rcases hl with h | h
    · exact h
    · omega)

variable {P : Program}

/-- What the iterator promises: for whatever J abides its steps (new blocks, and block gb), with rounds that go on and keep what S does not name: it returns, and xs has come. -/
def SeqC {α : Type} (gf : Nat) (lb : Array Value) (enc : α → Value) (gb : Nat) (S : Nat → Prop) (xs : List α) (w : World) : Prop :=
  ∀ (l : Nat) (J : List α → World → Prop) (W : World), Mod (fun _ => False) w W → (∀ pre A B, J pre A → Mod (fun i => i = gb) A B → J pre B) →
    (∀ pre x A, J pre A → pre.length < xs.length → YieldAt Fence.wide 0 P l #[enc x] A fun e B => e = .returned (.bool true) ∧ J (pre ++ [x]) B ∧ Mod S A B) →
    J [] W → CallsIn Fence.wide 0 P gf (#[.func (.yield l) #[] #[]] ++ lb) W fun e B => (∃ v, e = .returned v) ∧ J xs B

theorem wp_range_cap {α : Type} {g : Operand} {ps : Array Tmp} {assign body : Code} {Q : Exit → Act → World → Prop} {a : Act} {w : World}
    {gf : Nat} {lb : Array Value} (hg : a.eval g = .func (.func gf) #[] lb) (eg : ∀ args w, (callFunc gf args).run P w = .ok (.enter gf args) w)
    {enc : α → Value} {gb : Nat} {S : Nat → Prop} {xs : List α} (hseq : SeqC (P := P) gf lb enc gb S xs w) (hps : ps.size = 1) (hgb : gb < w.heap.size) (hS : ∀ i, w.heap.size ≤ i → S i)
    (J : List α → World → Prop) (hJ : ∀ pre A B, J pre A → Mod (fun i => i = gb ∨ w.heap.size ≤ i ∧ i < w.heap.size + 2) A B → J pre B) (h0 : J [] w) (a₁ : α → Act)
    (hassign : ∀ (l : Nat) (x : α) (W : World) (K : Act → World → Prop), K (a₁ x) W →
      assign.wpIn (Fence.wide.inRound l) 0 P (Exit.then K (fun _ _ _ => False)) { tmps := (ps.zip #[enc x]).foldl (fun t (p, v) => t.setIfInBounds p v) a.tmps, defers := [] } W)
    (hbody : ∀ (l : Nat) (pre : List α) (x : α) (W : World), J pre W → pre.length < xs.length → w.heap.size + 2 ≤ W.heap.size →
      body.wpIn (Fence.wide.inRound l) 0 P (fun e _ B => e = .normal ∧ J (pre ++ [x]) B ∧ Mod (fun i => S i ∧ i ≠ w.heap.size ∧ i ≠ w.heap.size + 1) W B) (a₁ x) W)
    (hdone : ∀ (W : World), J xs W → W.heap[w.heap.size]? = some (.deferred (some [])) → Q .normal { a with defers := { target := .collected w.heap.size, args := #[] } :: a.defers } W) :
    (Code.rangeFunc g ps assign body).wpIn Fence.wide 0 P Q a w := by
  refine wpIn_rangeFunc ?_
  intro fn hfn
  obtain ⟨rec, hrec⟩ : ∃ rec : LoopState → Option Code → Loop, rec = fun st pe => { state := st, pending := pe, fn, tmps := a.tmps, params := ps, assign, body, defers := w.heap.size } := ⟨_, rfl⟩
  obtain ⟨W1, hW1⟩ : ∃ W1, (w.alloc (.deferred (some []))).alloc (.loop (rec .ready none)) = W1 := ⟨_, rfl⟩
  have m1 : Mod (fun _ => False) w W1 := by rw [← hW1]; exact ((Mod.refl _ w).alloc _).alloc _
  have hL1 : W1.heap[w.heap.size + 1]? = some (.loop (rec .ready none)) := by
    rw [← hW1]
    have := World.alloc_heap_new (w.alloc (.deferred (some []))) (.loop (rec .ready none))
    rwa [World.size_alloc] at this
  have hK1 : W1.heap[w.heap.size]? = some (.deferred (some [])) := by
    rw [← hW1]
    exact (Below.heap_alloc _ _ _ (by simp)).trans (World.alloc_heap_new w _)
  refine ⟨w.heap.size + 1, [{ target := .collected w.heap.size, args := #[] }], W1, { target := .fn (.func gf) lb, args := #[.func (.yield (w.heap.size + 1)) #[] #[]] }, W1, gf,
    #[.func (.yield (w.heap.size + 1)) #[] #[]] ++ lb, W1, ?_, ?_, ?_, ?_, ?_, ?_⟩
  · rw [← hW1, hrec]; exact run_enterLoop_outer _ _ _ _ _
  · simp only [resolve, hg]
    simp [go_sem]
  · intro f' _; trivial
  · simp [invoke, go_sem, eg]
  · intro h; simp [Fence.wide] at h
  · refine (hseq (w.heap.size + 1) (fun pre W => J pre W ∧ W.heap[w.heap.size + 1]? = some (.loop (rec .ready none)) ∧ W.heap[w.heap.size]? = some (.deferred (some []))) W1 m1 ?_ ?_ ?_).mono ?_
    · rintro pre A B ⟨h1, h2, h3⟩ hm
      have s2 := (Array.getElem?_eq_some_iff.1 h2).1
      have s3 := (Array.getElem?_eq_some_iff.1 h3).1
      exact ⟨hJ pre A B h1 (hm.mono (fun i e => .inl e)), by rw [hm.block _ s2 (by omega)]; exact h2, by rw [hm.block _ s3 (by omega)]; exact h3⟩
    · rintro pre x A ⟨h1, h2, h3⟩ hlen
      have s2 := (Array.getElem?_eq_some_iff.1 h2).1
      have hy := run_yield (P := P) (args := #[enc x]) h2 (by rw [hrec]; exact hps.symm)
      rw [hrec] at hy
      refine ⟨fn, _, assign, body, hy, roundIn_of_wpIn trivial (hassign _ x A _ ⟨_, run_beginRound h2 (by rw [hrec]), ?_⟩)⟩
      have m2 := mod_putObj A (w.heap.size + 1) (.loop { rec .ready none with state := .busy })
      have hl2 : (A.putObj (w.heap.size + 1) (.loop { rec .ready none with state := .busy })).heap[w.heap.size + 1]? = some (.loop { rec .ready none with state := .busy }) := World.putObj_heap_same s2
      have hk2 : (A.putObj (w.heap.size + 1) (.loop { rec .ready none with state := .busy })).heap[w.heap.size]? = some (.deferred (some [])) := (World.putObj_heap_other (by omega)).trans h3
      generalize A.putObj (w.heap.size + 1) (.loop { rec .ready none with state := .busy }) = A2 at *
      have s4 := (Array.getElem?_eq_some_iff.1 hl2).1
      refine wpIn_mono (hbody _ pre x A2 (hJ pre A A2 h1 (m2.mono (fun i e => .inr (by omega)))) hlen (by omega)) ?_
      rintro e a3 B ⟨rfl, hj3, m3⟩
      have hl3 : B.heap[w.heap.size + 1]? = some (.loop { rec .ready none with state := .busy }) := by rw [m3.block _ s4 (fun h => h.2.2 rfl)]; exact hl2
      have hk3 : B.heap[w.heap.size]? = some (.deferred (some [])) := by rw [m3.block _ (by omega) (fun h => h.2.1 rfl)]; exact hk2
      have hend := run_endRound (P := P) none hl3
      rw [hrec] at hend
      refine ⟨_, _, hend, rfl, ⟨hJ _ B _ hj3 ((mod_putObj B _ _).mono (fun i e => .inr (by omega))), ?_, ?_⟩, ?_⟩
      · rw [hrec]
        exact World.putObj_heap_same (Array.getElem?_eq_some_iff.1 hl3).1
      · exact (World.putObj_heap_other (by omega)).trans hk3
      · exact ((m2.mono (fun i e => hS i (by omega))).trans (m3.mono (fun i h => h.1))).putObj (.inl (hS _ (by omega))) _
    · exact ⟨hJ _ w W1 h0 (m1.mono (fun _ x => x.elim)), hL1, hK1⟩
    · rintro e W2 ⟨⟨v, rfl⟩, hj, hl, hk⟩
      have hend := run_endLoop (P := P) hl (by rw [hrec]; simp)
      rw [hrec] at hend
      refine ⟨none, _, hend, hdone _ (hJ _ W2 _ hj ((mod_putObj W2 _ _).mono (fun i e => .inr (by omega)))) ?_⟩
      exact (World.putObj_heap_other (by omega)).trans hk

end Go.Proofs.Ytjmcfodlhhndoaa
