/-
  FilesLast: whatever was written ahead, a page has what was written to it last, and no other one has it by that: the law returns true for every input, and changes nothing that was there.
-/
import Derived.Test.YtdpjlkkpjnmdnaaFilesSizes
namespace Go.Proofs.Ytdpjlkkpjnmdnaa
open Go.RowKit Go.ChangeShapes Go.WideShapes Go.ChangeAt

/-- The loop's relation: some store of these sizes. -/
def LsRel (b mb : Nat) (sv : Value) (w : World) (k : Nat) (wr : World) : Prop :=
  ∃ S : FS, FilesIs wr b mb sv S ∧ S.writes ≤ k ∧ Mod (fun i => i = b ∨ i = mb) w wr

theorem readS_same {S : FS} {f i : Int} {t : ByteArray} {c : Nat} (hh : hasB S f i = true) (ht : t.size = 16) : readS (writeS S f i t c) f i = (t, 0) := by
  unfold readS
  rw [hasB_writeS, hh]
  simp only [if_true]
  unfold writeS
  simp [hh, ht, getKV_putKV]

theorem readS_other {S : FS} {f i f' i' : Int} {t : ByteArray} {c : Nat} (hne : (f', i') ≠ (f, i)) : readS (writeS S f i t c) f' i' = readS S f' i' := by
  have hg : getKV (f', i') (writeS S f i t c).l = getKV (f', i') S.l := by
    unfold writeS
    split
    · show getKV (f', i') (putKV _ _ _ _) = _
      rw [getKV_putKV, if_neg hne]
    · rfl
  unfold readS
  rw [hasB_writeS, hg]

theorem readS_no {S : FS} {f i : Int} (h : hasB S f i = false) : readS S f i = (⟨#[]⟩, 2) := by unfold readS; rw [h]; rfl
theorem readS_yes {S : FS} {f i : Int} (h : hasB S f i = true) : (readS S f i).2 = 0 := by
  unfold readS; rw [h, if_pos rfl]; split <;> rfl
theorem writeS_no {S : FS} {f i : Int} {t : ByteArray} {c : Nat} (h : hasB S f i = false) : writeS S f i t c = S := by unfold writeS; rw [h]; rfl
theorem writeE_no {S : FS} {f i : Int} {t : ByteArray} (h : hasB S f i = false) : writeE S f i t = 2 := by unfold writeE; rw [h]; rfl
theorem writeE_yes {S : FS} {f i : Int} {t : ByteArray} (h : hasB S f i = true) (ht : t.size = 16) : writeE S f i t = 0 := by unfold writeE; rw [h, if_pos rfl, if_pos ht]

set_option maxHeartbeats 1000000 in
theorem law_last (sizes : List Int) (v0 : Value) (l : List ((Int × Int) × ByteArray)) (v1 : Value) (f i f2 i2 : Int) (text : ByteArray) (w : World) (h0 : IntsAt w v0 sizes) (h1 : RowsAt ecAct 3 w v1 l) :
    Calls Try.prog 4 #[v0, v1, .agg #[.int .i64 f, .int .i64 i], .agg #[.int .i64 f2, .int .i64 i2], .string text] w fun e w' => e = .returned (.bool true) ∧ Mod (fun _ => False) w w' := by
  obtain ⟨a0, cap0, rfl, hcap0, hmax0, hcell0⟩ := id h0
  obtain ⟨a2, cap2, rfl, hcap2, hmax2, hcell2⟩ := act_cells h1
  unfold maxLen at hmax0 hmax2
  by_cases hl : 60 < l.length
  · go_enter Try.func4, Try.ntmps4
    go_wp2_with fail
    refine (works_any _).mono ?_
    rintro e w1 ⟨rfl, hm1⟩
    go_wp2_with fail
    go_ret
    exact ⟨rfl, ((Mod.alloc' _ _ _).alloc _).trans hm1⟩
  have hl' : decide (60 < (l.length : Int)) = false := by simp; omega
  by_cases hs : 100 < sizes.length
  · go_enter Try.func4, Try.ntmps4
    go_wp2_with fail
    refine (works_any _).mono ?_
    rintro e w1 ⟨rfl, hm1⟩
    go_wp2_with fail
    go_ret
    exact ⟨rfl, ((Mod.alloc' _ _ _).alloc _).trans hm1⟩
  have hs' : decide (100 < (sizes.length : Int)) = false := by simp; omega
  by_cases ht : text.size = 16
  case neg =>
    have ht' : ((text.size : Int) != 16) = true := by rw [bne_iff_ne]; omega
    go_enter Try.func4, Try.ntmps4
    go_wp2_with fail
    refine (works_any _).mono ?_
    rintro e w1 ⟨rfl, hm1⟩
    go_wp2_with fail
    go_ret
    exact ⟨rfl, ((Mod.alloc' _ _ _).alloc _).trans hm1⟩
  have ht' : ((text.size : Int) != 16) = false := by simp [ht]
  have HT := Lib.hid ht
  clear ht
  go_enter Try.func4, Try.ntmps4
  go_wp2_with fail
  refine (works_any _).mono ?_
  rintro e w1 ⟨rfl, hm1⟩
  have hm01 : Mod (fun _ => False) w w1 := ((Mod.alloc' _ _ _).alloc _).trans hm1
  have hbx1 := ((Blk.new w #[.int .i64 f, .int .i64 i] 25).alloc (.cells #[.int .i64 f2, .int .i64 i2] 25)).keep hm1 (fun x => x)
  have hby1 := (Blk.new (w.alloc (.cells #[.int .i64 f, .int .i64 i] 25)) #[.int .i64 f2, .int .i64 i2] 25).keep hm1 (fun x => x)
  rw [World.size_alloc] at hby1
  have hsz1 : w.heap.size + 2 ≤ w1.heap.size := by have := hm1.size; simpa using this
  go_wp2_with fail
  refine (new_any sizes _ _ (h0.keep hm01 (fun _ _ x => x))).mono ?_
  rintro e w2 ⟨b, mb, sv, rfl, hm2, hF2, hb2, hmb2, hsv2⟩
  have hbx2 := hbx1.keep hm2 (fun x => x)
  have hby2 := hby1.keep hm2 (fun x => x)
  have hm02 := hm01.trans hm2
  clear h0 hcell0 hs hs'
  go_wp2_with fail
  go_loopw [13] (fun k wr => ∃ (j : Nat), j ≤ l.length ∧ k = .int .i64 j ∧ LsRel b mb sv w2 j wr) (fun k _ => l.length - (intOf k).toNat)
  case atStart => exact ⟨0, by omega, rfl, newF sizes, hF2, Int.le_refl 0, Mod.refl _ _⟩
  case round =>
    obtain ⟨j, hj, rfl, S, hS, hSw, hmr⟩ := hrel
    by_cases hlt : j < l.length
    · obtain ⟨f', i', t, hx⟩ : ∃ f' i' t, l[j]? = some ((f', i'), t) := ⟨_, _, _, List.getElem?_eq_getElem hlt⟩
      obtain ⟨b', off, rfl, hc0, hc1, hc2⟩ := hcell2 j f' i' t hx
      have hrr : Mod (fun i => i = b ∨ i = mb) w wr := (hm02.mono (fun _ x => x.elim)).trans hmr
      have hnb' : ∀ q, q < w.heap.size → ¬ (q = b ∨ q = mb) := fun q hq h => by rcases h with h | h <;> omega
      rw [← hrr.cell (lt_of_cell hc0) (hnb' _ (lt_of_cell hc0))] at hc0
      rw [← hrr.cell (lt_of_cell hc1) (hnb' _ (lt_of_cell hc1))] at hc1
      rw [← hrr.cell (lt_of_cell hc2) (hnb' _ (lt_of_cell hc2))] at hc2
      clear hx hcell2
      go_wp2_with fail
      go_still_tail 11, (by kernel_rfl)
      go_wp2_with fail
      refine (write_any b mb sv S f' i' t _ (hS.keepN (Mod.refl _ _).drew) (by omega)).mono ?_
      rintro e w5 ⟨rfl, hm5, c, hS5⟩
      have hw5 : (writeS S f' i' t c).writes ≤ ((j + 1 : Nat) : Int) := by rw [writeS_writes]; split <;> omega
      go_wp2_with fail
      go_roundw
      case rel => exact ⟨j + 1, by omega, by go_num, _, hS5, hw5, hmr.trans ((Mod.refl _ _).drew.trans hm5)⟩
      case measure => simp [intOf]; omega
    · obtain rfl : j = l.length := by omega
      have hz : ∀ q, q < w.heap.size + 2 → ¬ (q = b ∨ q = mb) := fun q hq h => by rcases h with h | h <;> omega
      have hbr := hbx2.keep hmr (hz _ (by omega))
      have hcr := hby2.keep hmr (hz _ (by omega))
      have hmf : Mod (fun _ => False) w wr := hm02.trans' hmr (fun q hq h => hz _ (by omega) h)
      have hbr0 := hbr.cell 0
      have hbr1 := hbr.cell 1
      simp only [List.getElem?_toArray, List.getElem?_cons_zero, List.getElem?_cons_succ] at hbr0 hbr1
      have hcr0 := hcr.cell 0
      have hcr1 := hcr.cell 1
      simp only [List.getElem?_toArray, List.getElem?_cons_zero, List.getElem?_cons_succ] at hcr0 hcr1
      go_wp2_with fail
      refine (read_any b mb sv S f2 i2 _ hS).mono ?_
      rintro e w5 ⟨rfl, hm5⟩
      have hS5 := hS.keepN hm5
      have hbr := hbr.keep hm5 (fun x => x)
      have hcr := hcr.keep hm5 (fun x => x)
      have hbr0 := hbr.cell 0
      have hbr1 := hbr.cell 1
      simp only [List.getElem?_toArray, List.getElem?_cons_zero, List.getElem?_cons_succ] at hbr0 hbr1
      have hcr0 := hcr.cell 0
      have hcr1 := hcr.cell 1
      simp only [List.getElem?_toArray, List.getElem?_cons_zero, List.getElem?_cons_succ] at hcr0 hcr1
      go_wp2_with fail
      refine (read_any b mb sv S f i _ hS5).mono ?_
      rintro e w6 ⟨rfl, hm6⟩
      have hS6 := hS5.keepN hm6
      have hbr := hbr.keep hm6 (fun x => x)
      have hcr := hcr.keep hm6 (fun x => x)
      have hbr0 := hbr.cell 0
      have hbr1 := hbr.cell 1
      simp only [List.getElem?_toArray, List.getElem?_cons_zero, List.getElem?_cons_succ] at hbr0 hbr1
      have hcr0 := hcr.cell 0
      have hcr1 := hcr.cell 1
      simp only [List.getElem?_toArray, List.getElem?_cons_zero, List.getElem?_cons_succ] at hcr0 hcr1
      go_wp2_with fail
      refine (write_any b mb sv S f i text _ hS6 (by omega)).mono ?_
      rintro e w7 ⟨rfl, hm7, c, hS7⟩
      have hbr := hbr.keep hm7 (hz _ (by omega))
      have hcr := hcr.keep hm7 (hz _ (by omega))
      have hbr0 := hbr.cell 0
      have hbr1 := hbr.cell 1
      simp only [List.getElem?_toArray, List.getElem?_cons_zero, List.getElem?_cons_succ] at hbr0 hbr1
      have hcr0 := hcr.cell 0
      have hcr1 := hcr.cell 1
      simp only [List.getElem?_toArray, List.getElem?_cons_zero, List.getElem?_cons_succ] at hcr0 hcr1
      go_wp2_with fail
      refine (read_any b mb sv _ f i _ hS7).mono ?_
      rintro e w8 ⟨rfl, hm8⟩
      have hS8 := hS7.keepN hm8
      have hbr := hbr.keep hm8 (fun x => x)
      have hcr := hcr.keep hm8 (fun x => x)
      have hbr0 := hbr.cell 0
      have hbr1 := hbr.cell 1
      simp only [List.getElem?_toArray, List.getElem?_cons_zero, List.getElem?_cons_succ] at hbr0 hbr1
      have hcr0 := hcr.cell 0
      have hcr1 := hcr.cell 1
      simp only [List.getElem?_toArray, List.getElem?_cons_zero, List.getElem?_cons_succ] at hcr0 hcr1
      go_wp2_with fail
      refine (read_any b mb sv _ f2 i2 _ hS8).mono ?_
      rintro e w9 ⟨rfl, hm9⟩
      have hbr := hbr.keep hm9 (fun x => x)
      have hcr := hcr.keep hm9 (fun x => x)
      have hbr0 := hbr.cell 0
      have hbr1 := hbr.cell 1
      simp only [List.getElem?_toArray, List.getElem?_cons_zero, List.getElem?_cons_succ] at hbr0 hbr1
      have hcr0 := hcr.cell 0
      have hcr1 := hcr.cell 1
      simp only [List.getElem?_toArray, List.getElem?_cons_zero, List.getElem?_cons_succ] at hcr0 hcr1
      have hmf9 : Mod (fun _ => False) w w9 := (((((hmf.trans hm5).trans hm6).trans' hm7 (fun q hq h => hz _ (by omega) h)).trans hm8).trans hm9)
      cases hh : hasB S f i
      · rw [writeE_no hh, writeS_no hh, readS_no hh]
        clear hh
        go_wp2_with fail
        go_ret
        exact ⟨rfl, hmf9⟩
      · by_cases hk : (f2, i2) = (f, i)
        · simp only [Prod.mk.injEq] at hk
          obtain ⟨rfl, rfl⟩ := hk
          rw [writeE_yes hh HT.out, readS_same hh HT.out, readS_yes hh]
          clear hh
          go_wp2_with fail
          go_ret
          exact ⟨rfl, hmf9⟩
        · rw [writeE_yes hh HT.out, readS_same hh HT.out, readS_yes hh, readS_other hk]
          have hk' : ¬ (f = f2 ∧ i = i2) := fun h => hk (by rw [h.1, h.2])
          clear hh hk
          rcases (show f ≠ f2 ∨ (f = f2 ∧ i ≠ i2) by omega) with h | ⟨rfl, h⟩
          · have hb : (f == f2) = false := by simp [h]
            clear hk'
            go_wp2_with fail
            go_ret
            exact ⟨rfl, hmf9⟩
          · have hb : (i == i2) = false := by simp [h]
            clear hk'
            go_wp2_with fail
            go_ret
            exact ⟨rfl, hmf9⟩

set_option linter.unusedVariables false in
set_option maxRecDepth 100000 in
theorem filesLast_lifted (os : Os) (started : os.Started) (H : Type) (enc : TypeId × Value → H) :
    ReturnsInHanded {} Try.checked os 4 .any (Rows.filesLastSpec.pre6 enc Try.prog Try.f4 Rows.filesLastRow.domain false) (Rows.filesLastSpec.post enc Try.prog Try.f4 false true false false) := by
  refine returnsInHanded_of_change (C := Try.checked) own started (by kernel_rfl) Try.func4
    (ChangeSpec.witness6 (enc := enc) (C := Try.checked) false ⟨#[], #[.slice none 0 0, .slice none 0 0, .agg #[.int .i64 0, .int .i64 0], .agg #[.int .i64 0, .int .i64 0], .string .empty], []⟩ 8 (by kernel_rfl) (by kernel_rfl) (by kernel_rfl) (by kernel_rfl)) ?_
  intro W base args ds gs before hval0 hW hcnd _
  have hval : ∀ (j : Nat) t v, Try.f4.params[j]? = some t → args[j]? = some v → Value.okWide Try.prog W .any base t v := hval0
  have hW' := hW
  obtain ⟨p, q, hA0, hV, rfl, hfz, hnd⟩ := hW
  have hA : DataW.TrodAll enc Try.prog W 0 (fun _ => true) true Try.f4.params.toList args.toList ds p := hA0
  rw [Try.params4] at hA hval
  obtain ⟨v0, vs0, d0, ds0, p0, q0, hargs, rfl, rfl, h0, r0⟩ := trodAll_cons hA
  obtain ⟨v1, vs1, d1, ds1, p1, q1, rfl, rfl, rfl, h1, r1⟩ := trodAll_cons r0
  obtain ⟨v2, vs2, d2, ds2, p2, q2, rfl, rfl, rfl, h2, r2⟩ := trodAll_cons r1
  obtain ⟨v3, vs3, d3, ds3, p3, q3, rfl, rfl, rfl, h3, r3⟩ := trodAll_cons r2
  obtain ⟨v4, vs4, d4, ds4, p4, q4, rfl, rfl, rfl, h4, r4⟩ := trodAll_cons r3
  obtain ⟨rfl, rfl, rfl⟩ := trodAll_nil r4
  obtain rfl : args = #[v0, v1, v2, v3, v4] := by cases args; simp_all
  obtain ⟨rfl, rfl⟩ := trodVars_none hV
  have k0 := h0
  have lt0 : ∀ x ∈ p0, x.block < W.heap.size := by obtain ⟨m, hm⟩ := k0; exact DataW.trod_lt m _ _ _ hm
  obtain ⟨x0, s0, g0⟩ := arg_slice Try.underlying22 (hval 0 22 v0 rfl rfl) (dec_slice 1 Try.underlying22 (by kernel_rfl) (fun _ => rfl) (by decide) (dec_int Try.underlying3)) h0
  have k1 := h1
  have lt1 : ∀ x ∈ p1, x.block < W.heap.size := by obtain ⟨m, hm⟩ := k1; exact DataW.trod_lt m _ _ _ hm
  obtain ⟨x1, s1, g1⟩ := arg_slice Try.underlying23 (hval 1 23 v1 rfl rfl) (dec_slice (ec := ecAct) 3 Try.underlying23 (by kernel_rfl) ecAct_len (by decide) dec_act) h1
  have k2 := h2
  have lt2 : ∀ x ∈ p2, x.block < W.heap.size := by obtain ⟨m, hm⟩ := k2; exact DataW.trod_lt m _ _ _ hm
  obtain ⟨x2, rfl, g2⟩ := arg_struct Try.underlying25 (hval 2 25 v2 rfl rfl) dec_key h2
  have k3 := h3
  have lt3 : ∀ x ∈ p3, x.block < W.heap.size := by obtain ⟨m, hm⟩ := k3; exact DataW.trod_lt m _ _ _ hm
  obtain ⟨x3, rfl, g3⟩ := arg_struct Try.underlying25 (hval 3 25 v3 rfl rfl) dec_key h3
  have k4 := h4
  have lt4 : ∀ x ∈ p4, x.block < W.heap.size := by obtain ⟨m, hm⟩ := k4; exact DataW.trod_lt m _ _ _ hm
  obtain ⟨x4, rfl, rfl, rfl, g4⟩ := Go.ChangeMaps.open_string Try.underlying9 (hval 4 9 v4 rfl rfl) h4
  clear hA0 hval0
  refine (law_last x0 v0 x1 v1 x2.1 x2.2 x3.1 x3.2 x4 W s0.ints s1).mono fun e W' ⟨he, bel0⟩ => ?_
  have bel := Mod.none bel0
  subst he
  exact ⟨_, rfl, _, _, _, [], _, [], hW', trodAll_mk1 (shut_bool Try.underlying4 _), (trodAll_cons_mk (Below.trod laidOut (by kernel_rfl) (of_decide_eq_true (by kernel_rfl)) k0 bel lt0) (trodAll_cons_mk (Below.trod laidOut (by kernel_rfl) (of_decide_eq_true (by kernel_rfl)) k1 bel lt1) (trodAll_cons_mk (Below.trod laidOut (by kernel_rfl) (of_decide_eq_true (by kernel_rfl)) k2 bel lt2) (trodAll_cons_mk (Below.trod laidOut (by kernel_rfl) (of_decide_eq_true (by kernel_rfl)) k3 bel lt3) (trodAll_cons_mk (Below.trod laidOut (by kernel_rfl) (of_decide_eq_true (by kernel_rfl)) k4 bel lt4) trodAll_mk0))))), rfl, bel.frame _, fun h => by cases h⟩

theorem filesLast_holds : Rows.FilesLastSaid :=
  OpenClaim.holds_of_wide 4 Try.f4 rfl rfl rfl rfl rfl rfl rfl ⟨rfl, rfl, rfl, rfl, rfl⟩ rfl rfl rfl rfl rfl (by kernel_rfl) Try.func4 (by kernel_rfl)
    (of_decide_eq_true (by kernel_rfl)) (by unfold Func.isWrapper; first | (rw [if_pos (by decide +kernel)]; kernel_rfl) | (rw [if_neg (by decide +kernel)]; exact ⟨rfl, rfl⟩))
    (fun os started H enc _ => filesLast_lifted os started H enc)
#print axioms filesLast_holds

end Go.Proofs.Ytdpjlkkpjnmdnaa
