/-
  CounterBack: what is given back beyond what is used is refused as a whole; what is tried and given back in parts is as ahead: the law returns true for every input, and changes nothing that was there.
-/
import Derived.Test.YtccjpmiddfmdpaaCntF
namespace Go.Proofs.Ytccjpmiddfmdpaa
open Go.RowKit Go.ChangeShapes Go.WideShapes Go.ChangeAt

theorem newC_try (chain : List Int) (n : Int) (h0 : 0 ≤ n) (h1 : n ≤ 1099511627776) :
    (rightB chain n = false ∧ tryE newC chain n = 1) ∨ (rightB chain n = true ∧ tryE newC chain n = 0 ∧ ∀ g, (ofS (tryS newC chain n) g).use = if g ∈ chain then n else 0) := by
  have hu : ∀ g, (ofS newC g).use = 0 := by intro g; rw [newC_of]; split <;> rfl
  rcases try_cases newC chain n rfl with ⟨hr, _, h3, _⟩ | ⟨hr, m, hg, _, _, _, h6, _⟩ | ⟨hr, _, h3, _, h5⟩
  · exact .inl ⟨hr, h3⟩
  · exfalso
    unfold tryP at h6
    rw [newC_of, hg] at h6
    simp at h6
    omega
  · refine .inr ⟨hr, h3, fun g => ?_⟩
    rw [h5]
    split
    · show (ofS newC g).use + n = n
      rw [hu]; omega
    · exact hu g

theorem rightB_amount {chain : List Int} {n m : Int} (h : rightB chain n = true) (h0 : 0 ≤ m) (h1 : m ≤ 1099511627776) : rightB chain m = true := by
  unfold rightB at *
  rw [Bool.and_eq_true] at *
  exact ⟨h.1, by unfold amountB; simp; omega⟩

/-- What giving back does where all of the chain have u. -/
theorem give_uni (l : List Cnt) (chain : List Int) (u n : Int) (hl : l.length = 64) (hr : rightB chain n = true) (hu : ∀ g, (ofS l g).use = if g ∈ chain then u else 0) :
    (n ≤ u → giveE l chain n = 0 ∧ ∀ g, (ofS (giveS l chain n) g).use = if g ∈ chain then u - n else 0) ∧
    (u < n → (chain = [] → giveE l chain n = 0) ∧ (chain ≠ [] → giveE l chain n = 2) ∧ ∀ g, (ofS (giveS l chain n) g).use = if g ∈ chain then u else 0) := by
  rcases give_cases l chain n hl with ⟨h1, _⟩ | ⟨_, h2, h3, g, h4, h5⟩ | ⟨_, h2, h3, h4⟩
  · rw [hr] at h1; cases h1
  · refine ⟨fun h => ?_, fun _ => ⟨fun he => ?_, fun _ => h2, fun g => by rw [h3]; exact hu g⟩⟩
    · rw [hu g, if_pos h4] at h5; omega
    · rw [he] at h4; cases h4
  · refine ⟨fun _ => ⟨h2, fun g => ?_⟩, fun h => ⟨fun _ => h2, fun hne => ?_, fun g => ?_⟩⟩
    · rw [h4]
      split
      · rename_i hg
        show (ofS l g).use - n = u - n
        rw [hu g, if_pos hg]
      · rename_i hg
        rw [hu g, if_neg hg]
    · cases chain with
      | nil => exact absurd rfl hne
      | cons x r =>
        have := h3 x List.mem_cons_self
        rw [hu x, if_pos List.mem_cons_self] at this
        omega
    · rw [h4]
      split
      · rename_i hg
        have := h3 g hg
        rw [hu g, if_pos hg] at this
        omega
      · rename_i hg
        rw [hu g, if_neg hg]

set_option maxRecDepth 100000 in
set_option maxHeartbeats 1000000 in
theorem law_back (chain : List Int) (v : Value) (a b c : Int) (w : World) (h : IntsAt w v chain) :
    Calls Try.prog 8 #[v, .int .i64 a, .int .i64 b, .int .i64 c] w fun e w' => e = .returned (.bool true) ∧ Mod (fun _ => False) w w' := by
  obtain ⟨va, vc, rfl, hcap, hmax, _⟩ := id h
  unfold maxLen at hmax
  go_enter Try.func8, Try.ntmps8
  go_wp2_with fail
  refine (works_any _).mono ?_
  rintro e w1 ⟨rfl, hm1⟩
  go_wp2_with fail
  any_goals
    go_ret
    exact ⟨rfl, hm1⟩
  refine (newC_any _).mono ?_
  rintro e w2 ⟨cb, rfl, hm2, hc2, hb2⟩
  have ha0 : 0 ≤ a := by omega
  have hb0 : 0 ≤ b := by omega
  have hc0 : 0 ≤ c := by omega
  have ha1 : a ≤ 1073741824 := by omega
  have hb1 : b ≤ 1073741824 := by omega
  have hc1 : c ≤ 1073741824 := by omega
  have hs : ∀ w' : World, Mod (fun _ => False) w w' → IntsAt w' (.slice va chain.length vc) chain := fun w' hm => h.keep hm (fun _ _ x => x)
  have hs12 := hm1.size
  have hsep : chain ≠ [] → ∀ g, (Value.slice va chain.length vc).ownBlock = some g → g ≠ cb := by
    intro hne g hg
    obtain ⟨x, hx⟩ : ∃ x, chain[0]? = some x := by
      cases chain with
      | nil => exact absurd rfl hne
      | cons x r => exact ⟨x, rfl⟩
    obtain ⟨b', off, rfl, hcell⟩ := intsAt_get h hx
    injection hg with hg
    simp only at hg
    have := lt_of_cell hcell
    omega
  have hm2' : Mod (fun _ => False) w w2 := hm1.trans hm2
  clear hcap hmax
  go_wp2_with fail
  refine (try_any cb newC chain _ (a + b) 0 _ hc2 (hs _ hm2') newC_good (by decide) hsep).mono ?_
  rcases newC_try chain (a + b) (by omega) (by omega) with ⟨hr, hE⟩ | ⟨hr, hE, hU⟩
  · rw [hE]
    clear hE hr
    rintro e w3 ⟨rfl, hm3, hc3⟩
    have hm3' : Mod (fun _ => False) w w3 := hm2'.trans' hm3 (fun i hi h => by omega)
    go_wp2_with fail
    go_ret
    exact ⟨rfl, hm3'⟩
  · rw [hE]
    have hl3 : (tryS newC chain (a + b)).length = 64 := (tryS_len _ _ _).trans rfl
    have hg3 : CGood 1 (tryS newC chain (a + b)) := try_good rfl (by decide) newC_good _ _
    clear hE
    generalize tryS newC chain (a + b) = l3 at *
    rintro e w3 ⟨rfl, hm3, hc3⟩
    have hm3' : Mod (fun _ => False) w w3 := hm2'.trans' hm3 (fun i hi h => by omega)
    obtain ⟨q1, _⟩ := give_uni l3 chain (a + b) a hl3 (rightB_amount hr (by omega) (by omega)) hU
    obtain ⟨q1, q2⟩ := q1 (by omega)
    go_wp2_with fail
    refine (give_any cb l3 chain _ a 1 _ hc3 (hs _ hm3') hg3 (by decide) hsep).mono ?_
    rw [q1]
    have hl4 : (giveS l3 chain a).length = 64 := (giveS_len _ _ _).trans hl3
    have hg4 : CGood 1 (giveS l3 chain a) := give_good hl3 (by decide) hg3 _ _
    clear q1 hU
    generalize giveS l3 chain a = l4 at *
    rintro e w4 ⟨rfl, hm4, hc4⟩
    have hm4' : Mod (fun _ => False) w w4 := hm3'.trans' hm4 (fun i hi h => by omega)
    have q2' : ∀ g, (ofS l4 g).use = if g ∈ chain then b else 0 := fun g => by rw [q2]; split <;> omega
    obtain ⟨_, s1⟩ := give_uni l4 chain b (b + 1 + c) hl4 (rightB_amount hr (by omega) (by omega)) q2'
    obtain ⟨r1, r2, r3⟩ := s1 (by omega)
    clear s1
    go_wp2_with fail
    refine (give_any cb l4 chain _ (b + 1 + c) 1 _ hc4 (hs _ hm4') hg4 (by decide) hsep).mono ?_
    have hl5 : (giveS l4 chain (b + 1 + c)).length = 64 := (giveS_len _ _ _).trans hl4
    have hg5 : CGood 1 (giveS l4 chain (b + 1 + c)) := give_good hl4 (by decide) hg4 _ _
    generalize hE5 : giveE l4 chain (b + 1 + c) = E5 at *
    generalize giveS l4 chain (b + 1 + c) = l5 at *
    rintro e w5 ⟨rfl, hm5, hc5⟩
    have hm5' : Mod (fun _ => False) w w5 := hm4'.trans' hm5 (fun i hi h => by omega)
    obtain ⟨q3, _⟩ := give_uni l5 chain b b hl5 (rightB_amount hr (by omega) (by omega)) r3
    obtain ⟨q3, q4⟩ := q3 (by omega)
    have R1 := Lib.hid r1
    have R2 := Lib.hid r2
    clear r1 r2 hE5 q2 q2'
    go_wp2_with fail
    refine (give_any cb l5 chain _ b 1 _ hc5 (hs _ hm5') hg5 (by decide) hsep).mono ?_
    rw [q3]
    have hl6 : (giveS l5 chain b).length = 64 := (giveS_len _ _ _).trans hl5
    clear q3 r3
    generalize giveS l5 chain b = l6 at *
    rintro e w6 ⟨rfl, hm6, hc6⟩
    have hm6' : Mod (fun _ => False) w w6 := hm5'.trans' hm6 (fun i hi h => by omega)
    have hz : ∀ g, (ofS l6 g).use = 0 := fun g => by rw [q4]; split <;> omega
    clear q4
    have HZ := Lib.hid hz
    clear hz hs hsep
    go_wp2_with fail
    go_loopw [16] (fun i wr => ∃ k : Nat, k ≤ 64 ∧ i = .int .i64 k ∧ Mod (fun _ => False) w6 wr) (fun i _ => 64 - (intOf i).toNat)
    case atStart => exact ⟨0, by omega, rfl, Mod.refl _ _⟩
    case round =>
      obtain ⟨k, hk, rfl, hmr⟩ := hrel
      by_cases hlt : k < 64
      · go_wp2_with fail
        refine (use_any cb l6 k _ (hc6.keepN hmr)).mono ?_
        rw [HZ.out]
        rintro e w7 ⟨rfl, hm7⟩
        go_wp2_with fail
        go_roundw
        case rel => exact ⟨k + 1, by omega, by go_num, hmr.trans hm7⟩
        case measure => simp [intOf]; omega
      · obtain rfl : k = 64 := by omega
        rw [show ((64 : Nat) : Int) = 64 from rfl]
        by_cases he : chain = []
        · obtain rfl : E5 = 0 := R1.out he
          have hlen : ((chain.length : Int) == 0) = true := by rw [he]; rfl
          clear he
          go_wp2_with fail
          go_ret
          exact ⟨rfl, hm6'.trans hmr⟩
        · obtain rfl : E5 = 2 := R2.out he
          have hlen : ((chain.length : Int) == 0) = false := by
            cases chain with
            | nil => exact absurd rfl he
            | cons x r => rw [List.length_cons]; simp; omega
          clear he
          go_wp2_with fail
          go_ret
          exact ⟨rfl, hm6'.trans hmr⟩

set_option linter.unusedVariables false in
set_option maxRecDepth 100000 in
theorem counterBack_lifted (os : Os) (started : os.Started) (H : Type) (enc : TypeId × Value → H) :
    ReturnsInHanded {} Try.checked os 8 .any (Rows.counterBackSpec.pre6 enc Try.prog Try.f8 Rows.counterBackRow.domain false) (Rows.counterBackSpec.post enc Try.prog Try.f8 false true false false) := by
  refine returnsInHanded_of_change (C := Try.checked) own started (by kernel_rfl) Try.func8
    (ChangeSpec.witness6 (enc := enc) (C := Try.checked) false ⟨#[], #[.slice none 0 0, .int .i64 0, .int .i64 0, .int .i64 0], []⟩ 8 (by kernel_rfl) (by kernel_rfl) (by kernel_rfl) (by kernel_rfl)) ?_
  intro W base args ds gs before hval0 hW hcnd _
  have hval : ∀ (j : Nat) t v, Try.f8.params[j]? = some t → args[j]? = some v → Value.okWide Try.prog W .any base t v := hval0
  have hW' := hW
  obtain ⟨p, q, hA0, hV, rfl, hfz, hnd⟩ := hW
  have hA : DataW.TrodAll enc Try.prog W 0 (fun _ => true) true Try.f8.params.toList args.toList ds p := hA0
  rw [Try.params8] at hA hval
  obtain ⟨v0, vs0, d0, ds0, p0, q0, hargs, rfl, rfl, h0, r0⟩ := trodAll_cons hA
  obtain ⟨v1, vs1, d1, ds1, p1, q1, rfl, rfl, rfl, h1, r1⟩ := trodAll_cons r0
  obtain ⟨v2, vs2, d2, ds2, p2, q2, rfl, rfl, rfl, h2, r2⟩ := trodAll_cons r1
  obtain ⟨v3, vs3, d3, ds3, p3, q3, rfl, rfl, rfl, h3, r3⟩ := trodAll_cons r2
  obtain ⟨rfl, rfl, rfl⟩ := trodAll_nil r3
  obtain rfl : args = #[v0, v1, v2, v3] := by cases args; simp_all
  obtain ⟨rfl, rfl⟩ := trodVars_none hV
  have k0 := h0
  have lt0 : ∀ x ∈ p0, x.block < W.heap.size := by obtain ⟨m, hm⟩ := k0; exact DataW.trod_lt m _ _ _ hm
  obtain ⟨x0, s0, g0⟩ := arg_slice Try.underlying30 (hval 0 30 v0 rfl rfl) dec_ints h0
  have k1 := h1
  have lt1 : ∀ x ∈ p1, x.block < W.heap.size := by obtain ⟨m, hm⟩ := k1; exact DataW.trod_lt m _ _ _ hm
  obtain ⟨x1, rfl, rfl, rfl, g1⟩ := open_int Try.underlying3 (hval 1 3 v1 rfl rfl) h1
  have k2 := h2
  have lt2 : ∀ x ∈ p2, x.block < W.heap.size := by obtain ⟨m, hm⟩ := k2; exact DataW.trod_lt m _ _ _ hm
  obtain ⟨x2, rfl, rfl, rfl, g2⟩ := open_int Try.underlying3 (hval 2 3 v2 rfl rfl) h2
  have k3 := h3
  have lt3 : ∀ x ∈ p3, x.block < W.heap.size := by obtain ⟨m, hm⟩ := k3; exact DataW.trod_lt m _ _ _ hm
  obtain ⟨x3, rfl, rfl, rfl, g3⟩ := open_int Try.underlying3 (hval 3 3 v3 rfl rfl) h3
  clear hA0 hval0
  refine (law_back x0 v0 x1 x2 x3 W s0.ints).mono fun e W' ⟨he, bel0⟩ => ?_
  have bel := Mod.none bel0
  subst he
  exact ⟨_, rfl, _, _, _, [], _, [], hW', trodAll_mk1 (shut_bool Try.underlying4 _), (trodAll_cons_mk (Below.trod laidOut (by kernel_rfl) (of_decide_eq_true (by kernel_rfl)) k0 bel lt0) (trodAll_cons_mk (Below.trod laidOut (by kernel_rfl) (of_decide_eq_true (by kernel_rfl)) k1 bel lt1) (trodAll_cons_mk (Below.trod laidOut (by kernel_rfl) (of_decide_eq_true (by kernel_rfl)) k2 bel lt2) (trodAll_cons_mk (Below.trod laidOut (by kernel_rfl) (of_decide_eq_true (by kernel_rfl)) k3 bel lt3) trodAll_mk0)))), rfl, bel.frame _, fun h => by cases h⟩

theorem counterBack_holds : Rows.CounterBackSaid :=
  OpenClaim.holds_of_wide 8 Try.f8 rfl rfl rfl rfl rfl rfl rfl ⟨rfl, rfl, rfl, rfl, rfl⟩ rfl rfl rfl rfl rfl (by kernel_rfl) Try.func8 (by kernel_rfl)
    (of_decide_eq_true (by kernel_rfl)) (by unfold Func.isWrapper; first | (rw [if_pos (by decide +kernel)]; kernel_rfl) | (rw [if_neg (by decide +kernel)]; exact ⟨rfl, rfl⟩))
    (fun os started H enc _ => counterBack_lifted os started H enc)
#print axioms counterBack_holds

end Go.Proofs.Ytccjpmiddfmdpaa
