/-
  How an argument that came in is read: whole numbers, bools, strings, structs of these, slices of these; nothing here names the program but as a parameter.
-/
import Derived.Test.YtjmcfodlhhndoaaLib
import Derived.ProofKit
import Derived.OpenShut
import Derived.ShutString
import Derived.ChangeOld
import Derived.Deep.Slices
namespace Go.Proofs.Ytjmcfodlhhndoaa
open Go.RowKit Go.ChangeShapes Go.WideShapes Go.ChangeAt Go.Deep

/-- A slice whose elements, each some cells, are only read. -/
def RowsAt {α : Type} (ec : α → List Value) (sz : Nat) (w : World) (v : Value) (xs : List α) : Prop :=
  ∃ a cap, v = .slice a xs.length cap ∧ xs.length ≤ cap ∧ cap ≤ maxLen ∧ ∀ (j : Nat) (x : α), xs[j]? = some x → ∃ b off, a = some ⟨b, off, none⟩ ∧ ∀ i, i < sz → w.cell? ⟨b, off + j * sz + i, none⟩ = (ec x)[i]?

section
variable {H : Type} {enc : TypeId × Value → H} {P : Program} {w : World} {base : Nat} {spare : Nat → Bool} {held : Bool}

/-- Cells that read at a type are an encoding of something. -/
def Dec (enc : TypeId × Value → H) (P : Program) (w : World) (base : Nat) (spare : Nat → Bool) (held : Bool) (t : TypeId) {α : Type} (ec : α → List Value) (good : α → Prop) : Prop :=
  ∀ fuel cs y, DataW.trod enc P w base spare held fuel t cs = some y → ∃ x, cs = ec x ∧ good x

def ecI (n : Int) : List Value := [.int .i64 n]
def ecU (n : Int) : List Value := [.int .u8 n]
def ecB (b : Bool) : List Value := [.bool b]
def ecS (s : ByteArray) : List Value := [.string s]
def ecV (v : Value) : List Value := [v]

theorem dec_int {t : TypeId} (ht : P.underlying t = some (.int .i64)) : Dec enc P w base spare held t ecI (fun n => (Lit.int .i64 n).wf = true) := fun fuel cs y h => by
  obtain ⟨n, h1, _, h2⟩ := DataW.trod_int ht h
  exact ⟨n, h1, h2⟩
theorem dec_u8 {t : TypeId} (ht : P.underlying t = some (.int .u8)) : Dec enc P w base spare held t ecU (fun n => (Lit.int .u8 n).wf = true) := fun fuel cs y h => by
  obtain ⟨n, h1, _, h2⟩ := DataW.trod_int ht h
  exact ⟨n, h1, h2⟩
theorem dec_bool {t : TypeId} (ht : P.underlying t = some .bool) : Dec enc P w base spare held t ecB (fun _ => True) := fun fuel cs y h => by
  obtain ⟨n, h1, _⟩ := DataW.trod_bool ht h
  exact ⟨n, h1, trivial⟩
theorem dec_string {t : TypeId} (ht : P.underlying t = some .string) : Dec enc P w base spare held t ecS (fun s => s.size ≤ maxLen) := fun fuel cs y h => by
  obtain ⟨n, h1, _, h2⟩ := DataW.trod_string ht h
  exact ⟨n, h1, h2⟩

theorem drop_take_split {α : Type} (cs : List α) (n m : Nat) (h : cs.length = n + m) : cs = cs.take n ++ (cs.drop n).take m := by
  rw [List.take_of_length_le (l := cs.drop n) (by simp; omega), List.take_append_drop]

theorem dec_struct2 {t : TypeId} {f0 f1 : Field} {α β : Type} {e0 : α → List Value} {e1 : β → List Value} {g0 : α → Prop} {g1 : β → Prop} (ht : P.underlying t = some (.struct #[f0, f1]))
    (d0 : Dec enc P w base spare held f0.type e0 g0) (d1 : Dec enc P w base spare held f1.type e1 g1) (n0 n1 : Nat)
    (hl : f0.offset = 0 ∧ P.cellsOf f0.type = n0 ∧ f1.offset = n0 ∧ P.cellsOf f1.type = n1 ∧ P.cellsOf t = n0 + n1) :
    Dec enc P w base spare held t (fun p : α × β => e0 p.1 ++ e1 p.2) (fun p => g0 p.1 ∧ g1 p.2) := fun fuel cs y h => by
  obtain ⟨xs, n, _, _, hlen, hxs, hf⟩ := DataW.trod_struct ht h
  obtain ⟨h1, h2, h3, h4, h5⟩ := hl
  have k0 := hf 0 f0 rfl
  have k1 := hf 1 f1 rfl
  have hs : xs.length = 2 := by simpa using hxs
  rw [List.getElem?_eq_getElem (by omega)] at k0 k1
  obtain ⟨x0, e0', r0⟩ := d0 _ _ _ k0
  obtain ⟨x1, e1', r1⟩ := d1 _ _ _ k1
  refine ⟨(x0, x1), ?_, r0, r1⟩
  rw [h1, h2, List.drop_zero] at e0'
  rw [h3, h4] at e1'
  show cs = e0 x0 ++ e1 x1
  rw [← e0', ← e1']
  exact drop_take_split cs n0 n1 (by omega)

theorem dec_struct4 {t : TypeId} {f0 f1 f2 f3 : Field} {α β γ δ : Type} {e0 : α → List Value} {e1 : β → List Value} {e2 : γ → List Value} {e3 : δ → List Value} {g0 : α → Prop} {g1 : β → Prop} {g2 : γ → Prop} {g3 : δ → Prop}
    (ht : P.underlying t = some (.struct #[f0, f1, f2, f3]))
    (d0 : Dec enc P w base spare held f0.type e0 g0) (d1 : Dec enc P w base spare held f1.type e1 g1) (d2 : Dec enc P w base spare held f2.type e2 g2) (d3 : Dec enc P w base spare held f3.type e3 g3) (n0 n1 n2 n3 : Nat)
    (hl : f0.offset = 0 ∧ P.cellsOf f0.type = n0 ∧ f1.offset = n0 ∧ P.cellsOf f1.type = n1 ∧ f2.offset = n0 + n1 ∧ P.cellsOf f2.type = n2 ∧ f3.offset = n0 + n1 + n2 ∧ P.cellsOf f3.type = n3 ∧ P.cellsOf t = n0 + n1 + n2 + n3) :
    Dec enc P w base spare held t (fun p : α × β × γ × δ => e0 p.1 ++ (e1 p.2.1 ++ (e2 p.2.2.1 ++ e3 p.2.2.2))) (fun p => g0 p.1 ∧ g1 p.2.1 ∧ g2 p.2.2.1 ∧ g3 p.2.2.2) := fun fuel cs y h => by
  obtain ⟨xs, n, _, _, hlen, hxs, hf⟩ := DataW.trod_struct ht h
  obtain ⟨h1, h2, h3, h4, h5, h6, h7, h8, h9⟩ := hl
  have k0 := hf 0 f0 rfl
  have k1 := hf 1 f1 rfl
  have k2 := hf 2 f2 rfl
  have k3 := hf 3 f3 rfl
  have hs : xs.length = 4 := by simpa using hxs
  rw [List.getElem?_eq_getElem (by omega)] at k0 k1 k2 k3
  obtain ⟨x0, e0', r0⟩ := d0 _ _ _ k0
  obtain ⟨x1, e1', r1⟩ := d1 _ _ _ k1
  obtain ⟨x2, e2', r2⟩ := d2 _ _ _ k2
  obtain ⟨x3, e3', r3⟩ := d3 _ _ _ k3
  refine ⟨(x0, x1, x2, x3), ?_, r0, r1, r2, r3⟩
  rw [h1, h2, List.drop_zero] at e0'
  rw [h3, h4] at e1'
  rw [h5, h6] at e2'
  rw [h7, h8] at e3'
  show cs = e0 x0 ++ (e1 x1 ++ (e2 x2 ++ e3 x3))
  rw [← e0', ← e1', ← e2', ← e3']
  have s3 : (cs.drop (n0 + n1 + n2)).take n3 = cs.drop (n0 + n1 + n2) := List.take_of_length_le (by simp; omega)
  rw [s3, ← List.drop_drop (i := n2) (j := n0 + n1), List.take_append_drop, ← List.drop_drop (i := n1) (j := n0), List.take_append_drop, List.take_append_drop]

theorem dec_slice {t e : TypeId} {α : Type} {ec : α → List Value} {good : α → Prop} (sz : Nat) (ht : P.underlying t = some (.slice e)) (hsz : P.cellsOf e = sz) (hlen : ∀ x, (ec x).length = sz) (hpos : 0 < sz)
    (d : Dec enc P w base spare held e ec good) : Dec enc P w base spare held t ecV (fun v => ∃ xs, RowsAt ec sz w v xs ∧ ∀ x ∈ xs, good x) := fun fuel cs y h => by
  rcases open_slice ht h with ⟨rfl, _⟩ | ⟨a, len, cap, m, n, D, Pl, rfl, hb, hl, hm, hmm, _, hx⟩
  · exact ⟨_, rfl, [], ⟨none, 0, rfl, Nat.le_refl _, Nat.zero_le _, fun j x hx => by simp at hx⟩, fun x hx => by cases hx⟩
  · have hlm : len ≤ m := by rw [hmm]; split <;> omega
    have hone : ∀ i, i < len → ∃ x, w.cells? base (a.add (i * sz)) sz = some (ec x) ∧ good x := by
      intro i hi
      obtain ⟨cs', h1, h2⟩ := hx i (by omega)
      obtain ⟨x, rfl, hg⟩ := d _ _ _ h2
      rw [hsz] at h1
      exact ⟨x, h1, hg⟩
    have hlist : ∀ k, k ≤ len → ∃ xs : List α, xs.length = k ∧ (∀ j x, xs[j]? = some x → w.cells? base (a.add (j * sz)) sz = some (ec x)) ∧ ∀ x ∈ xs, good x := by
      intro k
      induction k with
      | zero => exact fun _ => ⟨[], rfl, fun j x hx => by simp at hx, fun x hx => by cases hx⟩
      | succ k ih =>
        intro hk
        obtain ⟨xs, h1, h2, h3⟩ := ih (by omega)
        obtain ⟨x, h4, h5⟩ := hone k (by omega)
        refine ⟨xs ++ [x], by simp [h1], fun j x' hx' => ?_, fun x' hx' => ?_⟩
        · rw [List.getElem?_append] at hx'
          split at hx'
          · exact h2 j x' hx'
          · rename_i hj
            have : j = k := by
              have := (List.getElem?_eq_some_iff.1 hx').1
              simp at this; omega
            subst this
            rw [h1] at hx'
            simp at hx'
            subst hx'
            exact h4
        · rcases List.mem_append.1 hx' with h | h
          · exact h3 x' h
          · simp at h; subst h; exact h5
    obtain ⟨xs, h1, h2, h3⟩ := hlist len (Nat.le_refl _)
    refine ⟨_, rfl, xs, ⟨some a, cap, by rw [h1], by omega, hm, fun j x hxj => ?_⟩, h3⟩
    have h4 := h2 j x hxj
    obtain ⟨_, hl5, h5⟩ := World.cells?_some h4
    have hspot : (a.add (j * sz)).spot = none := by
      have h6 := h5 0 hpos
      have h7 : (a.add (j * sz)).add 0 = a.add (j * sz) := rfl
      rw [h7, List.getElem?_eq_getElem (by rw [hlen]; exact hpos)] at h6
      exact World.cell?_spot h6
    obtain ⟨b, off, sp⟩ := a
    have hsp : sp = none := by
      have h0 := h2 0 (xs[0]'(by have := (List.getElem?_eq_some_iff.1 hxj).1; omega)) (by rw [List.getElem?_eq_getElem])
      obtain ⟨_, hl6, h6⟩ := World.cells?_some h0
      have h7 := h6 0 hpos
      have h8 : (Addr.add ⟨b, off, sp⟩ (0 * sz)).add 0 = ⟨b, off, sp⟩ := by simp [Addr.add]
      rw [h8, List.getElem?_eq_getElem (by rw [hlen]; exact hpos)] at h7
      exact World.cell?_spot h7
    subst hsp
    refine ⟨b, off, rfl, fun i hi => ?_⟩
    have h6 := h5 i hi
    have h7 : (Addr.add ⟨b, off, none⟩ (j * sz)).add i = ⟨b, off + j * sz + i, none⟩ := by
      unfold Addr.add
      repeat' split
      all_goals simp_all
    rw [h7] at h6
    exact h6

theorem RowsAt.ints {v : Value} {xs : List Int} (h : RowsAt ecI 1 w v xs) : IntsAt w v xs := by
  obtain ⟨a, cap, h1, h2, h3, h4⟩ := h
  refine ⟨a, cap, h1, h2, h3, fun j hj => ?_⟩
  obtain ⟨b, off, h5, h6⟩ := h4 j xs[j] (List.getElem?_eq_getElem hj)
  refine ⟨b, off, h5, ?_⟩
  have h7 := h6 0 (by omega)
  rw [Nat.mul_one, Nat.add_zero] at h7
  rw [h7, List.getD_eq_getElem?_getD, List.getElem?_eq_getElem hj]
  rfl

theorem RowsAt.keep {α : Type} {ec : α → List Value} {sz : Nat} {S : Nat → Prop} {w' : World} {v : Value} {xs : List α} (h : RowsAt ec sz w v xs) (hlen : ∀ x, (ec x).length = sz) (hm : Mod S w w') (hs : ∀ b, b < w.heap.size → ¬ S b) : RowsAt ec sz w' v xs := by
  obtain ⟨a, cap, h1, h2, h3, h4⟩ := h
  refine ⟨a, cap, h1, h2, h3, fun j x hj => ?_⟩
  obtain ⟨b, off, h5, h6⟩ := h4 j x hj
  refine ⟨b, off, h5, fun i hi => ?_⟩
  have h7 := h6 i hi
  rw [List.getElem?_eq_getElem (by rw [hlen]; exact hi)] at h7 ⊢
  rw [hm.cell (lt_of_cell h7) (hs b (lt_of_cell h7))]
  exact h7

variable {v : Value} {t : TypeId} {r : Reach} {b0 : Nat} {d : DataW H} {ps : List MemPlace}

theorem arg_dec {α : Type} {ec : α → List Value} {good : α → Prop} (dd : Dec enc P w base spare held t ec good) (hd : DataW.Trod enc P w base spare held t v d ps) : ∃ x, v.cells.toList = ec x ∧ good x := by
  obtain ⟨fuel, hf⟩ := hd
  exact dd _ _ _ hf

theorem arg_struct {fs : Array Field} {α : Type} {ec : α → List Value} {good : α → Prop} (ht : P.underlying t = some (.struct fs)) (hval : Value.okWide P w r b0 t v) (dd : Dec enc P w base spare held t ec good) (hd : DataW.Trod enc P w base spare held t v d ps) :
    ∃ x, v = .agg (ec x).toArray ∧ good x := by
  obtain ⟨x, h1, h2⟩ := arg_dec dd hd
  obtain ⟨cs, rfl, _⟩ := okWide_struct ht hval
  refine ⟨x, ?_, h2⟩
  simp only [Value.cells] at h1
  rw [← h1]

theorem arg_slice {e : TypeId} {α : Type} {ec : α → List Value} {good : α → Prop} {sz : Nat} (ht : P.underlying t = some (.slice e)) (hval : Value.okWide P w r b0 t v)
    (dd : Dec enc P w base spare held t ecV (fun v => ∃ xs, RowsAt ec sz w v xs ∧ ∀ x ∈ xs, good x)) (hd : DataW.Trod enc P w base spare held t v d ps) : ∃ xs, RowsAt ec sz w v xs ∧ ∀ x ∈ xs, good x := by
  obtain ⟨x, h1, h2⟩ := arg_dec dd hd
  obtain ⟨a, len, cap, rfl⟩ := okWide_slice ht hval
  simp [Value.cells, ecV] at h1
  subst h1
  exact h2
end

end Go.Proofs.Ytjmcfodlhhndoaa
