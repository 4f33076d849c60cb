/-
  The document's example comes true; how the arguments of the victim's laws are read.
-/
import Derived.Test.YtjmcfodlhhndoaaVicE
namespace Go.Proofs.Ytjmcfodlhhndoaa
open Go.RowKit Go.ChangeShapes Go.WideShapes Go.ChangeAt

section
variable {H : Type} {enc : TypeId × Value → H} {w : World} {base : Nat} {spare : Nat → Bool} {held : Bool}
theorem dec_ints : Dec enc Try.prog w base spare held 22 ecV (fun v => ∃ xs, RowsAt ecI 1 w v xs ∧ ∀ x ∈ xs, (Lit.int .i64 x).wf = true) :=
  dec_slice 1 Try.underlying22 (by kernel_rfl) (fun _ => rfl) (by decide) (dec_int Try.underlying3)
theorem dec_bools : Dec enc Try.prog w base spare held 24 ecV (fun v => ∃ xs, RowsAt ecB 1 w v xs ∧ ∀ x ∈ xs, True) :=
  dec_slice 1 Try.underlying24 (by kernel_rfl) (fun _ => rfl) (by decide) (dec_bool Try.underlying4)

theorem dec_struct3 {P : Program} {t : TypeId} {f0 f1 f2 : Field} {α β γ : Type} {e0 : α → List Value} {e1 : β → List Value} {e2 : γ → List Value} {g0 : α → Prop} {g1 : β → Prop} {g2 : γ → Prop}
    (ht : P.underlying t = some (.struct #[f0, f1, f2]))
    (d0 : Dec enc P w base spare held f0.type e0 g0) (d1 : Dec enc P w base spare held f1.type e1 g1) (d2 : Dec enc P w base spare held f2.type e2 g2) (n0 n1 n2 : Nat)
    (hl : f0.offset = 0 ∧ P.cellsOf f0.type = n0 ∧ f1.offset = n0 ∧ P.cellsOf f1.type = n1 ∧ f2.offset = n0 + n1 ∧ P.cellsOf f2.type = n2 ∧ P.cellsOf t = n0 + n1 + n2) :
    Dec enc P w base spare held t (fun p : α × β × γ => e0 p.1 ++ (e1 p.2.1 ++ e2 p.2.2)) (fun p => g0 p.1 ∧ g1 p.2.1 ∧ g2 p.2.2) := fun fuel cs y h => by
  obtain ⟨xs, n, _, _, hlen, hxs, hf⟩ := DataW.trod_struct ht h
  obtain ⟨h1, h2, h3, h4, h5, h6, h9⟩ := hl
  have k0 := hf 0 f0 rfl
  have k1 := hf 1 f1 rfl
  have k2 := hf 2 f2 rfl
  have hs : xs.length = 3 := by simpa using hxs
  rw [List.getElem?_eq_getElem (by omega)] at k0 k1 k2
  obtain ⟨x0, e0', r0⟩ := d0 _ _ _ k0
  obtain ⟨x1, e1', r1⟩ := d1 _ _ _ k1
  obtain ⟨x2, e2', r2⟩ := d2 _ _ _ k2
  refine ⟨(x0, x1, x2), ?_, r0, r1, r2⟩
  rw [h1, h2, List.drop_zero] at e0'
  rw [h3, h4] at e1'
  rw [h5, h6] at e2'
  show cs = e0 x0 ++ (e1 x1 ++ e2 x2)
  rw [← e0', ← e1', ← e2']
  have s3 : (cs.drop (n0 + n1)).take n2 = cs.drop (n0 + n1) := List.take_of_length_le (by simp; omega)
  rw [s3, ← List.drop_drop (i := n1) (j := n0), List.take_append_drop, List.take_append_drop]

def ec3 (p : Int × Int × Bool) : List Value := ecI p.1 ++ (ecI p.2.1 ++ ecB p.2.2)
theorem dec_proc : Dec enc Try.prog w base spare held 41 ec3 (fun p => (Lit.int .i64 p.1).wf = true ∧ (Lit.int .i64 p.2.1).wf = true ∧ True) :=
  dec_struct3 Try.underlying41 (dec_int Try.underlying3) (dec_int Try.underlying3) (dec_bool Try.underlying4) 1 1 1 ⟨rfl, by kernel_rfl, rfl, by kernel_rfl, rfl, by kernel_rfl, by kernel_rfl⟩
theorem dec_procs : Dec enc Try.prog w base spare held 23 ecV (fun v => ∃ xs, RowsAt ec3 3 w v xs ∧ ∀ x ∈ xs, (Lit.int .i64 x.1).wf = true ∧ (Lit.int .i64 x.2.1).wf = true ∧ True) :=
  dec_slice (ec := ec3) 3 Try.underlying23 (by kernel_rfl) (fun _ => rfl) (by decide) dec_proc
end

def mkP (p : Int × Int × Bool) : Prc := ⟨p.1, p.2.1, p.2.2⟩

theorem procs_of {w : World} {v : Value} {xs : List (Int × Int × Bool)} (h : RowsAt ec3 3 w v xs) : RowsAt ecP 3 w v (xs.map mkP) := by
  obtain ⟨a, cap, h1, h2, h3, h4⟩ := h
  refine ⟨a, cap, by rw [List.length_map]; exact h1, by rw [List.length_map]; exact h2, h3, fun j x hj => ?_⟩
  rw [List.getElem?_map] at hj
  cases hx : xs[j]? with
  | none => rw [hx] at hj; cases hj
  | some y =>
    rw [hx] at hj
    injection hj with hj
    subst hj
    exact h4 j y hx

/-- A row of the program's own can be read. -/
theorem rows_owns {α : Type} {ec : α → List Value} {sz : Nat} (hlen : ∀ x, (ec x).length = sz) {w : World} {base T n : Nat} {v : Value} {xs : List α} (h : w.ownsRow base T sz v n (xs.flatMap ec)) (hn : n = xs.length) : RowsAt ec sz w v xs := by
  subst hn
  rcases id h.2 with ⟨rfl, h0⟩ | ⟨g, cap, cur, rfl, _, hg, hc, hm, hs, ht⟩
  · exact ⟨none, 0, by rw [h0], by omega, by unfold maxLen; omega, fun j x hj => by have := (List.getElem?_eq_some_iff.1 hj).1; omega⟩
  · refine ⟨_, cap, rfl, hc, hm, fun j x hj => ⟨g, 0, rfl, fun i hi => ?_⟩⟩
    have hlt := (List.getElem?_eq_some_iff.1 hj).1
    have hb : j * sz + i < xs.length * sz := by
      have h1 : (j + 1) * sz ≤ xs.length * sz := Nat.mul_le_mul_right sz hlt
      rw [Nat.succ_mul] at h1
      omega
    rw [Nat.zero_add, h.cellAt (j * sz + i) hb, flat_get hlen xs j i hi, hj]
    rfl

theorem bools_nil (w : World) : RowsAt ecB 1 w (.slice none 0 0) [] := ⟨none, 0, rfl, by simp, by unfold maxLen; omega, fun j x hj => by simp at hj⟩

def exPs : List Prc := [⟨1, 3, true⟩, ⟨1, 5, true⟩]
def exV1 : List Grp := addS newT 0
theorem exV_facts : addG newT 0 = 1 ∧ addE newT 0 = 0 ∧ doomL exV1 exPs 0 [] = [1] ∧ doomL exV1 exPs 0 [false, true] = [0, 1] ∧ (pickK exPs [1] 2).1 = 1 ∧ wholeL [1, 0] 0 [false, true] = 1 := by decide +kernel

set_option maxRecDepth 100000 in
set_option maxHeartbeats 2000000 in
theorem works_any (w : World) : Calls Try.prog 8 #[] w fun e w' => e = .returned (.bool true) ∧ Mod (fun _ => False) w w' := by
  obtain ⟨x1, x2, x3, x4, x5, x6⟩ := exV_facts
  have X1 := Lib.hid x1
  have X2 := Lib.hid x2
  have X3 := Lib.hid x3
  have X4 := Lib.hid x4
  have X5 := Lib.hid x5
  have X6 := Lib.hid x6
  clear x1 x2 x3 x4 x5 x6
  go_enter Try.func8, Try.ntmps8
  go_wp2_with fail
  refine (new_any _).mono ?_
  rintro e w1 ⟨b, g, c, rfl, hm1, hT1, hb1, hg1⟩
  go_wp2_with fail
  refine (add_any b g c newT 0 _ hT1).mono ?_
  rw [X1.out, X2.out]
  rintro e w2 ⟨g2, c2, rfl, hm2, hT2, hg2⟩
  have hT2 : TreeAt w2 b g2 c2 exV1 := hT2
  have s1 := hm1.size
  have hm02 : Mod (fun _ => False) w w2 := hm1.trans' hm2 (fun i hi h => by omega)
  have bP := Blk.new w2 #[.int .i64 1, .int .i64 3, .bool true, .int .i64 1, .int .i64 5, .bool true] 41
  have mP := Mod.alloc' (fun _ => False) w2 (.cells #[.int .i64 1, .int .i64 3, .bool true, .int .i64 1, .int .i64 5, .bool true] 41)
  have rP : RowsAt ecP 3 _ _ exPs := rows_owns ecP_len (owns_of_blk (n := 2) (size := 3) bP rfl (by unfold maxLen; omega)) rfl
  have hT3 := hT2.keepN mP
  go_wp2_with fail
  refine (doomed_any b g2 c2 exV1 exPs _ 0 [] _ _ hT3 rP (bools_nil _) (by decide)).mono ?_
  rw [X3.out]
  rintro e w4 ⟨v4, rfl, hm4, hi4⟩
  obtain ⟨a4, k4, rfl, _⟩ := id hi4
  obtain ⟨b4, o4, rfl, q4⟩ := intsAt_get hi4 (j := 0) rfl
  rw [Nat.add_zero] at q4
  have hT4 := hT3.keepN hm4
  have bB := Blk.new w4 #[.bool false, .bool true] 4
  have mB := Mod.alloc' (fun _ => False) w4 (.cells #[.bool false, .bool true] 4)
  have rB : RowsAt ecB 1 _ _ [false, true] := rows_owns (ec := ecB) (sz := 1) (fun _ => rfl) (owns_of_blk (n := 2) (size := 1) bB rfl (by unfold maxLen; omega)) rfl
  have rP4 := rP.keep ecP_len (hm4.trans mB) (fun _ _ x => x)
  go_wp2_with fail
  refine (doomed_any b g2 c2 exV1 exPs _ 0 [false, true] _ _ (hT4.keepN mB) rP4 rB (by decide)).mono ?_
  rw [X4.out]
  rintro e w5 ⟨v5, rfl, hm5, hi5⟩
  obtain ⟨a5, k5, rfl, _⟩ := id hi5
  have bI := Blk.new w5 #[.int .i64 1] 3
  have mI := Mod.alloc' (fun _ => False) w5 (.cells #[.int .i64 1] 3)
  have iI := ints_one w5 1
  have rP5 := rP4.keep ecP_len (hm5.trans mI) (fun _ _ x => x)
  have q5 := ((mB.trans hm5).trans mI).keeps q4 (fun x => x)
  go_wp2_with fail
  refine (pick_any exPs _ [1] _ _ rP5 iI).mono ?_
  rw [show exPs.length = 2 from rfl, X5.out]
  rintro e w6 ⟨rfl, hm6⟩
  have q6 := hm6.keeps q5 (fun x => x)
  have bC := Blk.new w6 #[.int .i64 1, .int .i64 0] 3
  have mC := Mod.alloc' (fun _ => False) w6 (.cells #[.int .i64 1, .int .i64 0] 3)
  have iC : IntsAt _ _ [1, 0] := ints_of_row (owns_of_blk (n := 2) (size := 1) bC rfl (by unfold maxLen; omega))
  have bD := Blk.new (w6.alloc (.cells #[.int .i64 1, .int .i64 0] 3)) #[.bool false, .bool true] 4
  have mD := Mod.alloc' (fun _ => False) (w6.alloc (.cells #[.int .i64 1, .int .i64 0] 3)) (.cells #[.bool false, .bool true] 4)
  rw [World.size_alloc] at bD
  have iC2 := iC.keep mD (fun _ _ x => x)
  have rD : RowsAt ecB 1 _ _ [false, true] := rows_owns (ec := ecB) (sz := 1) (fun _ => rfl) (owns_of_blk (n := 2) (size := 1) bD rfl (by unfold maxLen; omega)) rfl
  go_wp2_with fail
  refine (whole_any [1, 0] _ 0 [false, true] _ _ iC2 rD).mono ?_
  rw [X6.out]
  rintro e w7 ⟨rfl, hm7⟩
  go_wp2_with fail
  go_ret
  exact ⟨rfl, ((((((hm02.trans mP).trans hm4).trans (mB.trans hm5)).trans mI).trans hm6).trans (mC.trans mD)).trans hm7⟩

end Go.Proofs.Ytjmcfodlhhndoaa
