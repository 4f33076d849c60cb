/-
  FilesFirst: whatever key is asked, what its page has at first goes up byte by byte by one, and the next file's and the next page's are so much more: the law returns true for every input, and changes nothing that was there.
-/
import Derived.Test.YtdpjlkkpjnmdnaaFilesB
import Derived.Test.YtdpjlkkpjnmdnaaFilesF
namespace Go.Proofs.Ytdpjlkkpjnmdnaa
open Go.RowKit Go.ChangeShapes Go.WideShapes Go.ChangeAt

theorem firstOf_size (f x : Int) : (firstOf f x).size = 16 := by unfold firstOf; rw [strOf_size]; simp [firstL]

theorem firstOf_get (f x : Int) (k : Nat) (h : k < (firstOf f x).size) : ((firstOf f x)[k].toNat : Int) = (lowOf f x + k) % 256 := by
  have e : (firstOf f x)[k] = UInt8.ofNat ((lowOf f x + (k : Int)) % 256).toNat := by
    show (firstOf f x).data[k]'_ = _
    simp [firstOf, strOf, firstL]
  rw [e]
  simp
  omega

theorem lowOf_file (f x : Int) : lowOf (wrap64 (f + 1)) x % 256 = (lowOf f x + 31) % 256 := by
  unfold lowOf wrap64
  omega

theorem lowOf_index (f x : Int) : lowOf f (wrap64 (x + 1)) % 256 = (lowOf f x + 7) % 256 := by
  unfold lowOf wrap64
  omega

/-- What is known of a page's first text. -/
structure Row16 (A : ByteArray) (L : Int) : Prop where
  size : A.size = 16
  get : ∀ (k : Nat) (h : k < A.size), (A[k].toNat : Int) = (L + k) % 256

theorem firstOf_row (f x : Int) : Row16 (firstOf f x) (lowOf f x) := ⟨firstOf_size f x, fun k h => firstOf_get f x k h⟩

set_option maxHeartbeats 400000 in
theorem law_first (f x : Int) (w : World) : Calls Try.prog 5 #[.agg #[.int .i64 f, .int .i64 x]] w fun e w' => e = .returned (.bool true) ∧ Mod (fun _ => False) w w' := by
  go_enter Try.func5, Try.ntmps5
  go_wp2_with fail
  refine (works_any _).mono ?_
  rintro e w1 ⟨rfl, hm1⟩
  have hbx := (Blk.new w #[.int .i64 f, .int .i64 x] 25).keep hm1 (fun x => x)
  have hbx0 := hbx.cell 0
  have hbx1 := hbx.cell 1
  simp only [List.getElem?_toArray, List.getElem?_cons_zero, List.getElem?_cons_succ] at hbx0 hbx1
  go_wp2_with fail
  refine (first_any f x _).mono ?_
  rintro e w2 ⟨rfl, hm2⟩
  have hbx := hbx.keep hm2 (fun x => x)
  have hbx0 := hbx.cell 0
  have hbx1 := hbx.cell 1
  simp only [List.getElem?_toArray, List.getElem?_cons_zero, List.getElem?_cons_succ] at hbx0 hbx1
  go_wp2_with fail
  refine (first_any _ x _).mono ?_
  rintro e w3 ⟨rfl, hm3⟩
  have hbx := hbx.keep hm3 (fun x => x)
  have hbx0 := hbx.cell 0
  have hbx1 := hbx.cell 1
  simp only [List.getElem?_toArray, List.getElem?_cons_zero, List.getElem?_cons_succ] at hbx0 hbx1
  go_wp2_with fail
  refine (first_any f _ _).mono ?_
  rintro e w4 ⟨rfl, hm4⟩
  have rA := firstOf_row f x
  have rB := firstOf_row (wrap64 (f + 1)) x
  have rC := firstOf_row f (wrap64 (x + 1))
  have eB := lowOf_file f x
  have eC := lowOf_index f x
  generalize firstOf f x = A at *
  generalize firstOf (wrap64 (f + 1)) x = B at *
  generalize firstOf f (wrap64 (x + 1)) = C at *
  generalize lowOf f x = LA at *
  generalize lowOf (wrap64 (f + 1)) x = LB at *
  generalize lowOf f (wrap64 (x + 1)) = LC at *
  have EB := Lib.hid eB
  have EC := Lib.hid eC
  have sA := rA.size
  have sB := rB.size
  have sC := rC.size
  clear eB eC
  go_wp2_with fail
  go_loopw [7] (fun i wr => ∃ k : Nat, k ≤ 16 ∧ i = .int .i64 k ∧ Mod (fun _ => False) w4 wr) (fun i _ => 16 - (intOf i).toNat)
  case atStart => exact ⟨0, by omega, rfl, Mod.refl _ _⟩
  case round =>
    obtain ⟨k, hk, rfl, hmr⟩ := hrel
    by_cases hlt : k < 16
    · match k with
      | 0 =>
        obtain ⟨p, hp⟩ : ∃ p : Int, p = (A[0].toNat : Int) := ⟨_, rfl⟩
        have gB : (B[0].toNat : Int) = (p + 31) % 256 := by have := EB.out; have := rA.get 0 (by omega); have := rB.get 0 (by omega); omega
        have gC : (C[0].toNat : Int) = (p + 7) % 256 := by have := EC.out; have := rA.get 0 (by omega); have := rC.get 0 (by omega); omega
        have p0 : 0 ≤ p := by omega
        have p1 : p < 256 := by have := rA.get 0 (by omega); omega
        have gA : (A[0].toNat : Int) = p := hp.symm
        clear hp
        rw [show ((0 : Nat) : Int) = 0 from rfl]
        go_wp2_with fail
        go_quiet (fail)
        go_wp2_with fail
        go_roundw
        case rel => exact ⟨1, by omega, by go_num, hmr.drewN _⟩
        case measure => simp [intOf]
      | j + 1 =>
        obtain ⟨p, hp⟩ : ∃ p : Int, p = (A[j].toNat : Int) := ⟨_, rfl⟩
        have gA : (A[j + 1].toNat : Int) = (p + 1) % 256 := by have := rA.get j (by omega); have := rA.get (j + 1) (by omega); omega
        have gB : (B[j + 1].toNat : Int) = ((p + 1) % 256 + 31) % 256 := by have := EB.out; have := rA.get (j + 1) (by omega); have := rB.get (j + 1) (by omega); omega
        have gC : (C[j + 1].toNat : Int) = ((p + 1) % 256 + 7) % 256 := by have := EC.out; have := rA.get (j + 1) (by omega); have := rC.get (j + 1) (by omega); omega
        have p0 : 0 ≤ p := by omega
        have p1 : p < 256 := by have := rA.get j (by omega); omega
        have gA' : (A[j].toNat : Int) = p := hp.symm
        clear hp
        go_wp2_with fail
        go_quiet (fail)
        go_wp2_with fail
        go_roundw
        case rel => exact ⟨j + 2, by omega, by go_num, hmr.drewN _⟩
        case measure => simp [intOf]; omega
    · go_wp2_with fail
      go_ret
      exact ⟨rfl, (((((Mod.alloc' _ _ _).trans hm1).trans hm2).trans hm3).trans hm4).trans hmr⟩

set_option linter.unusedVariables false in
set_option maxRecDepth 100000 in
theorem filesFirst_lifted (os : Os) (started : os.Started) (H : Type) (enc : TypeId × Value → H) :
    ReturnsInHanded {} Try.checked os 5 .any (Rows.filesFirstSpec.pre6 enc Try.prog Try.f5 Rows.filesFirstRow.domain false) (Rows.filesFirstSpec.post enc Try.prog Try.f5 false true false false) := by
  refine returnsInHanded_of_change (C := Try.checked) own started (by kernel_rfl) Try.func5
    (ChangeSpec.witness6 (enc := enc) (C := Try.checked) false ⟨#[], #[.agg #[.int .i64 0, .int .i64 0]], []⟩ 8 (by kernel_rfl) (by kernel_rfl) (by kernel_rfl) (by kernel_rfl)) ?_
  intro W base args ds gs before hval0 hW hcnd _
  have hval : ∀ (j : Nat) t v, Try.f5.params[j]? = some t → args[j]? = some v → Value.okWide Try.prog W .any base t v := hval0
  have hW' := hW
  obtain ⟨p, q, hA0, hV, rfl, hfz, hnd⟩ := hW
  have hA : DataW.TrodAll enc Try.prog W 0 (fun _ => true) true Try.f5.params.toList args.toList ds p := hA0
  rw [Try.params5] at hA hval
  obtain ⟨v0, vs0, d0, ds0, p0, q0, hargs, rfl, rfl, h0, r0⟩ := trodAll_cons hA
  obtain ⟨rfl, rfl, rfl⟩ := trodAll_nil r0
  obtain rfl : args = #[v0] := by cases args; simp_all
  obtain ⟨rfl, rfl⟩ := trodVars_none hV
  have k0 := h0
  have lt0 : ∀ x ∈ p0, x.block < W.heap.size := by obtain ⟨m, hm⟩ := k0; exact DataW.trod_lt m _ _ _ hm
  obtain ⟨x0, rfl, g0⟩ := arg_struct Try.underlying25 (hval 0 25 v0 rfl rfl) dec_key h0
  clear hA0 hval0
  refine (law_first x0.1 x0.2 W).mono fun e W' ⟨he, bel0⟩ => ?_
  have bel := Mod.none bel0
  subst he
  exact ⟨_, rfl, _, _, _, [], _, [], hW', trodAll_mk1 (shut_bool Try.underlying4 _), (trodAll_cons_mk (Below.trod laidOut (by kernel_rfl) (of_decide_eq_true (by kernel_rfl)) k0 bel lt0) trodAll_mk0), rfl, bel.frame _, fun h => by cases h⟩

theorem filesFirst_holds : Rows.FilesFirstSaid :=
  OpenClaim.holds_of_wide 5 Try.f5 rfl rfl rfl rfl rfl rfl rfl ⟨rfl, rfl, rfl, rfl, rfl⟩ rfl rfl rfl rfl rfl (by kernel_rfl) Try.func5 (by kernel_rfl)
    (of_decide_eq_true (by kernel_rfl)) (by unfold Func.isWrapper; first | (rw [if_pos (by decide +kernel)]; kernel_rfl) | (rw [if_neg (by decide +kernel)]; exact ⟨rfl, rfl⟩))
    (fun os started H enc _ => filesFirst_lifted os started H enc)
#print axioms filesFirst_holds

end Go.Proofs.Ytdpjlkkpjnmdnaa
