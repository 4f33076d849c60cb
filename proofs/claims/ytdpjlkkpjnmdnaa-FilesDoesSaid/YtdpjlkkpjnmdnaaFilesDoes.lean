/-
  FilesDoes: whatever is written, each call answers, and each page, each size, and what any page has at first, is just what the document says: the law returns true for every input, and changes nothing that was there.
-/
import Derived.Test.YtdpjlkkpjnmdnaaFilesRef
import Derived.Test.YtdpjlkkpjnmdnaaLib2
namespace Go.Proofs.Ytdpjlkkpjnmdnaa
open Go.RowKit Go.ChangeShapes Go.WideShapes Go.ChangeAt

/-- The two stores say the same. -/
structure Alike2 (S : FS) (R : RS) : Prop where
  sizes : S.sizes = R.sizes
  writes : S.writes = R.L.length
  pages : ∀ k, getKV k S.l = (lookL k R.L).map Value.string

theorem Alike2.has {S : FS} {R : RS} (h : Alike2 S R) (f i : Int) : hasB R.fs f i = hasB S f i := by
  unfold hasB; rw [sizeAt_congr (S := R.fs) (S' := S) h.sizes.symm]

theorem Alike2.read {S : FS} {R : RS} (h : Alike2 S R) (f i : Int) : refReadS R f i = readS S f i := by
  unfold refReadS readS
  rw [h.has, h.pages]
  cases hasB S f i
  · rfl
  · simp only [if_true]
    cases lookL (f, i) R.L <;> rfl

theorem Alike2.err {S : FS} {R : RS} (h : Alike2 S R) (f i : Int) (t : ByteArray) : writeE R.fs f i t = writeE S f i t := by
  unfold writeE; rw [h.has]

theorem Alike2.step {S : FS} {R : RS} (h : Alike2 S R) (f i : Int) (t : ByteArray) (c : Nat) : Alike2 (writeS S f i t c) (refWriteS R f i t) := by
  unfold writeS refWriteS
  rw [h.has]
  split
  · refine ⟨h.sizes, ?_, fun k => ?_⟩
    · show S.writes + 1 = ((R.L ++ [((f, i), t)]).length : Int)
      rw [h.writes, List.length_append]; simp
    · show getKV k (putKV _ _ _ _) = _
      rw [getKV_putKV, lookL_snoc, h.pages]
      by_cases hk : k = (f, i)
      · rw [if_pos hk, if_pos hk.symm]; rfl
      · rw [if_neg hk, if_neg (fun x => hk x.symm)]
  · exact h

theorem Alike2.start (sizes : List Int) : Alike2 (newF sizes) (newR sizes) := ⟨rfl, rfl, fun _ => rfl⟩

theorem refWriteS_len (R : RS) (f i : Int) (t : ByteArray) : (refWriteS R f i t).L.length ≤ R.L.length + 1 := by
  unfold refWriteS; split
  · show (R.L ++ [((f, i), t)]).length ≤ _
    rw [List.length_append]; simp
  · omega

/-- The loop's relation: two stores that say the same, beside each other. -/
def DoRel (b mb : Nat) (sv : Value) (rb : Nat) (rsv : Value) (B : Nat) (w : World) (j : Nat) (sizes : List Int) (wr : World) : Prop :=
  ∃ S R lv, FilesIs wr b mb sv S ∧ RefIs wr rb rsv lv R ∧ Alike2 S R ∧ S.sizes = (newF sizes).sizes ∧ R.L.length ≤ j ∧ (∀ g, lv.ownBlock = some g → B ≤ g) ∧ Mod (fun i => B ≤ i) w wr

/-- A write to the one store leaves the other alone. -/
theorem RefIs.beside {w w' : World} {b mb rb : Nat} {sv rsv lv : Value} {S : FS} {R : RS} (hS : FilesIs w b mb sv S) (hR : RefIs w rb rsv lv R) (hm : Mod (fun k => k = b ∨ k = mb) w w') : RefIs w' rb rsv lv R := by
  obtain ⟨c, hmap⟩ := hS.map
  refine hR.keep hm ?_ ?_ ?_
  · rintro (h | h)
    · exact hR.blk.ne hS.blk (by decide) h
    · exact hmap.ne hR.blk h.symm
  · rintro g hg (h | h)
    · exact ownsRow_ne_blk hR.own hS.blk (by decide) g hg h
    · exact ownsRow_ne_map hR.own hmap g hg h
  · rintro g hg (h | h)
    · exact ownsRow_ne_blk hR.pgs hS.blk (by decide) g hg h
    · exact ownsRow_ne_map hR.pgs hmap g hg h

theorem FilesIs.beside {w w' : World} {b mb rb : Nat} {sv rsv lv : Value} {S : FS} {R : RS} (hS : FilesIs w b mb sv S) (hR : RefIs w rb rsv lv R) (hm : Mod (fun k => k = rb ∨ some k = lv.ownBlock) w w') : FilesIs w' b mb sv S := by
  obtain ⟨c, hmap⟩ := hS.map
  refine hS.keep hm ?_ ?_ ?_
  · rintro (h | h)
    · exact hS.blk.ne hR.blk (by decide) h
    · exact ownsRow_ne_blk hR.pgs hS.blk (by decide) _ h.symm rfl
  · rintro (h | h)
    · exact hmap.ne hR.blk h
    · exact ownsRow_ne_map hR.pgs hmap _ h.symm rfl
  · rintro g hg (h | h)
    · exact ownsRow_ne_blk hS.own hR.blk (by decide) g hg h
    · exact ownsRow_ne_row hR.pgs hS.own (by decide) g h.symm hg

set_option maxRecDepth 100000 in
set_option maxHeartbeats 4000000 in
theorem law_does (sizes : List Int) (v0 : Value) (l : List ((Int × Int) × ByteArray)) (v1 : Value) (f i : Int) (w : World) (h0 : IntsAt w v0 sizes) (h1 : RowsAt ecAct 3 w v1 l) :
    Calls Try.prog 3 #[v0, v1, .agg #[.int .i64 f, .int .i64 i]] w fun e w' => e = .returned (.bool true) ∧ Mod (fun _ => False) w w' := by
  obtain ⟨a0, cap0, rfl, hcap0, hmax0, hcell0⟩ := id h0
  obtain ⟨a2, cap2, rfl, hcap2, hmax2, hcell2⟩ := act_cells h1
  unfold maxLen at hmax0 hmax2
  by_cases hl : 60 < l.length
  · go_enter Try.func3, Try.ntmps3
    go_wp2_with fail
    refine (works_any _).mono ?_
    rintro e w1 ⟨rfl, hm1⟩
    go_wp2_with fail
    go_ret
    exact ⟨rfl, (Mod.alloc' _ _ _).trans hm1⟩
  have hl' : decide (60 < (l.length : Int)) = false := by simp; omega
  by_cases hs : 100 < sizes.length
  · go_enter Try.func3, Try.ntmps3
    go_wp2_with fail
    refine (works_any _).mono ?_
    rintro e w1 ⟨rfl, hm1⟩
    go_wp2_with fail
    go_ret
    exact ⟨rfl, (Mod.alloc' _ _ _).trans hm1⟩
  have hs' : decide (100 < (sizes.length : Int)) = false := by simp; omega
  go_enter Try.func3, Try.ntmps3
  go_wp2_with fail
  refine (works_any _).mono ?_
  rintro e w1 ⟨rfl, hm1⟩
  have hm01 : Mod (fun _ => False) w w1 := (Mod.alloc' _ _ _).trans hm1
  have hbx1 := (Blk.new w #[.int .i64 f, .int .i64 i] 25).keep hm1 (fun x => x)
  have hsz1 : w.heap.size + 1 ≤ w1.heap.size := by have := hm1.size; simpa using this
  go_wp2_with fail
  refine (new_any sizes _ _ (h0.keep hm01 (fun _ _ x => x))).mono ?_
  rintro e w2 ⟨b, mb, sv, rfl, hm2, hF2, hb2, hmb2, hsv2⟩
  have hm02 := hm01.trans hm2
  have hsz2 := hm2.size
  go_wp2_with fail
  refine (refNew_any sizes _ _ (h0.keep hm02 (fun _ _ x => x))).mono ?_
  rintro e w3 ⟨rb, rsv, rfl, hm3, hR3, hrb3, hrsv3⟩
  have hF3 := hF2.keepN hm3
  have hm03 := hm02.trans hm3
  have hbx3 := (hbx1.keep hm2 (fun x => x)).keep hm3 (fun x => x)
  have hrb := hR3.blk
  have hbx30 := hbx3.cell 0
  have hbx31 := hbx3.cell 1
  simp only [List.getElem?_toArray, List.getElem?_cons_zero, List.getElem?_cons_succ] at hbx30 hbx31
  have hrb0 := hrb.cell 0
  simp only [List.getElem?_toArray, List.getElem?_cons_zero] at hrb0
  obtain ⟨ra, rc, rfl⟩ := ownsRow_form hR3.own
  have q0 := fun x : Ext w3 => x.cell hbx30
  have q1 := fun x : Ext w3 => x.cell hbx31
  have q2 := fun x : Ext w3 => x.cell hrb0
  have hcnt : (newF sizes).sizes.length = (newR sizes).sizes.length := rfl
  clear h0 hcell0 hs hs'
  go_wp2_with fail
  refine wp_region_ext_lit (by kernel_rfl) (by kernel_rfl) ?_
  repeat (go_big_quiet_step (first | (go_at_call 10; exact quiet_ext_same (count_any b mb sv _ _ (hF3.keepN (Ext.ok _)))) | (go_at_call 11; exact quiet_ext (first_any f i _)) | (go_at_call 12; exact quiet_ext (refFirst_any f i _))))
  refine wpQuiet_nil ?_
  rintro w4 ⟨⟨w4', hm4⟩, he⟩
  obtain rfl : w4 = w4' := he
  have hF4 := hF3.keepN hm4
  have hR4 := hR3.keepN hm4
  have hbx4 := hbx3.keep hm4 (fun x => x)
  have hm04 := hm03.trans hm4
  clear q0 q1 q2 hcnt
  go_wp2_with fail
  go_loopw [10] (fun k wr => ∃ (j : Nat), j ≤ l.length ∧ k = .int .i64 j ∧ DoRel b mb sv rb (.slice ra (newR sizes).sizes.length rc) w1.heap.size w4 j sizes wr) (fun k _ => l.length - (intOf k).toNat)
  case atStart => exact ⟨0, by omega, rfl, newF sizes, newR sizes, _, hF4, hR4, Alike2.start sizes, rfl, Nat.le_refl 0, (fun g hg => by cases hg), Mod.refl _ _⟩
  case round =>
    obtain ⟨j, hj, rfl, S, R, lv, hS, hR, hSR, hss, hlen, hlv, hmr⟩ := hrel
    by_cases hlt : j < l.length
    · obtain ⟨f', i', t, hx⟩ : ∃ f' i' t, l[j]? = some ((f', i'), t) := ⟨_, _, _, List.getElem?_eq_getElem hlt⟩
      obtain ⟨b', off, rfl, hc0, hc1, hc2⟩ := hcell2 j f' i' t hx
      have hrr : Mod (fun i => w1.heap.size ≤ i) w wr := (hm04.mono (fun _ x => x.elim)).trans hmr
      have hlow : ∀ q, q < w.heap.size → ¬ (w1.heap.size ≤ q) := fun q hq h => by omega
      have ll0 := lt_of_cell hc0
      have kc0 := hrr.keeps hc0 (hlow _ ll0)
      have kc1 := hrr.keeps hc1 (hlow _ ll0)
      have kc2 := hrr.keeps hc2 (hlow _ ll0)
      clear hx hcell2 hc0 hc1 hc2
      have hbxr := hbx4.keep hmr (by omega)
      have hSw : S.writes < 1000000 := by rw [hSR.writes]; omega
      -- s.Write
      go_wp2_with fail
      go_still_tail 11, (by kernel_rfl)
      go_wp2_with fail
      refine (write_any b mb sv S f' i' t _ (hS.keepN (Mod.refl _ _).drew) hSw).mono ?_
      rintro e w5 ⟨rfl, hm5, c, hS5⟩
      have m5 : Mod (fun k => k = b ∨ k = mb) wr w5 := (Mod.refl _ _).drew.trans hm5
      have hR5 := RefIs.beside hS hR m5
      have r5 : Mod (fun i => w1.heap.size ≤ i) wr w5 := m5.mono (fun q h => by rcases h with h | h <;> omega)
      replace kc0 := r5.keeps kc0 (hlow _ ll0)
      replace kc1 := r5.keeps kc1 (hlow _ ll0)
      replace kc2 := r5.keeps kc2 (hlow _ ll0)
      have hbx5 := hbxr.keep r5 (by omega)
      go_wp2_with fail
      go_still_tail 11, (by kernel_rfl)
      go_wp2_with fail
      refine (refWrite_any rb _ lv R f' i' t _ (hR5.keepN (Mod.refl _ _).drew) (by omega)).mono ?_
      rw [hSR.err]
      rintro e w6 ⟨rfl, hm6, lv6, hR6, hlv6⟩
      have m6 : Mod (fun k => k = rb ∨ some k = lv.ownBlock) w5 w6 := (Mod.refl _ _).drew.trans hm6
      have hS6 := FilesIs.beside hS5 hR5 m6
      have r6 : Mod (fun i => w1.heap.size ≤ i) w5 w6 := m6.mono (fun q h => by
        rcases h with h | h
        · omega
        · exact hlv q h.symm)
      have r06 := hmr.trans (r5.trans r6)
      replace kc0 := r6.keeps kc0 (hlow _ ll0)
      replace kc1 := r6.keeps kc1 (hlow _ ll0)
      replace kc2 := r6.keeps kc2 (hlow _ ll0)
      have hbx6 := hbx5.keep r6 (by omega)
      have hAl := hSR.step f' i' t c
      have hln := refWriteS_len R f' i' t
      have hws := writeS_sizes S f' i' t c
      have hlv6' : ∀ g, lv6.ownBlock = some g → w1.heap.size ≤ g := fun g hg => by
        rcases hlv6 g hg with h | h
        · exact hlv g h
        · have h1 := hm04.size
          have h2 := hmr.size
          have h3 := r5.size
          have h4 := hm4.size
          have h5 := hm3.size
          simp at h; omega
      generalize writeS S f' i' t c = S6 at *
      generalize refWriteS R f' i' t = R6 at *
      generalize writeE S f' i' t = er at *
      clear hm5 hS5 m5 hR5 hm6 m6 hS hR
      -- the two reads of this page
      go_wp2_with fail
      refine (read_any b mb sv S6 f' i' _ hS6).mono ?_
      rintro e w7 ⟨rfl, hm7⟩
      have hS7 := hS6.keepN hm7
      have hR7 := hR6.keepN hm7
      replace kc0 := hm7.keeps kc0 (fun x => x)
      replace kc1 := hm7.keeps kc1 (fun x => x)
      replace kc2 := hm7.keeps kc2 (fun x => x)
      have hbx7 := hbx6.keep hm7 (fun x => x)
      go_wp2_with fail
      refine (refRead_any rb _ lv6 R6 f' i' _ hR7 (by omega)).mono ?_
      rw [hAl.read]
      rintro e w8 ⟨rfl, hm8⟩
      have hS8 := hS7.keepN hm8
      have hR8 := hR7.keepN hm8
      have hbx8 := hbx7.keep hm8 (fun x => x)
      have hbx80 := hbx8.cell 0
      have hbx81 := hbx8.cell 1
      simp only [List.getElem?_toArray, List.getElem?_cons_zero, List.getElem?_cons_succ] at hbx80 hbx81
      -- the two reads of the other one
      go_wp2_with fail
      refine (read_any b mb sv S6 f i _ hS8).mono ?_
      rintro e w9 ⟨rfl, hm9⟩
      have hS9 := hS8.keepN hm9
      have hR9 := hR8.keepN hm9
      have hbx9 := hbx8.keep hm9 (fun x => x)
      have hbx90 := hbx9.cell 0
      have hbx91 := hbx9.cell 1
      simp only [List.getElem?_toArray, List.getElem?_cons_zero, List.getElem?_cons_succ] at hbx90 hbx91
      go_wp2_with fail
      refine (refRead_any rb _ lv6 R6 f i _ hR9 (by omega)).mono ?_
      rw [hAl.read]
      rintro e w10 ⟨rfl, hm10⟩
      have hS10 := hS9.keepN hm10
      have hR10 := hR9.keepN hm10
      have r10 : Mod (fun i => w1.heap.size ≤ i) w4 w10 := r06.trans ((((hm7.trans hm8).trans hm9).trans hm10).mono (fun _ x => x.elim))
      generalize (readS S6 f' i').1 = p1 at *
      generalize (readS S6 f' i').2 = p2 at *
      generalize (readS S6 f i).1 = p3 at *
      generalize (readS S6 f i).2 = p4 at *
      obtain ⟨la, lc, rfl⟩ := ownsRow_form hR10.pgs
      have hrb := hR10.blk
      have hrb1 := hrb.cell 1
      simp only [List.getElem?_toArray, List.getElem?_cons_zero, List.getElem?_cons_succ] at hrb1
      have hwr : ∀ n, Calls Try.prog 17 #[.pointer (some ⟨b, 0, none⟩)] (w10.drewN n) fun e w' => e = .returned (.int .i64 R6.L.length) ∧ w10.drewN n = w' := fun n => by
        rw [← hAl.writes]; exact writes_any b mb sv S6 _ (hS10.keepN (Mod.drewN' _ _ _))
      have HWR := Lib.hid hwr
      clear hwr
      go_wp2_with fail
      go_quiet ((go_at_call 17; exact quiet_same (HWR.out _)))
      go_wp2_with fail
      go_roundw
      case rel => exact ⟨j + 1, by omega, by go_num, S6, R6, _, hS10.keepN (Mod.drewN' _ _ _), hR10.keepN (Mod.drewN' _ _ _), hAl, hws.trans hss, by omega, hlv6', r10.drewN _⟩
      case measure => simp [intOf]; omega
    · obtain rfl : j = l.length := by omega
      have hbxr := hbx4.keep hmr (by omega)
      have hrb := hR.blk
      have hbxr0 := hbxr.cell 0
      have hbxr1 := hbxr.cell 1
      simp only [List.getElem?_toArray, List.getElem?_cons_zero, List.getElem?_cons_succ] at hbxr0 hbxr1
      have hrb0 := hrb.cell 0
      simp only [List.getElem?_toArray, List.getElem?_cons_zero] at hrb0
      have hmf : Mod (fun _ => False) w wr := hm04.trans' hmr (fun q hq h => by omega)
      have hRs : (newR sizes).sizes = R.sizes := hss.symm.trans hSR.sizes
      have hsl : (newR sizes).sizes.length = S.sizes.length := by rw [hRs, hSR.sizes]
      rw [hsl] at hrb0
      have hown := hR.own
      rw [hsl, ← hSR.sizes] at hown
      have HSL := Lib.hid hsl
      clear hsl hRs hss
      by_cases hf0 : f < 0
      · have e1 : sizeAt S f = 0 := by unfold sizeAt; rw [if_neg (by omega)]
        have hd : decide (0 ≤ f) = false := by simp; omega
        go_wp2_with fail
        go_quiet (fail)
        go_wp2_with fail
        refine (size_any b mb sv S f _ (hS.keepN (Mod.drewN' _ _ _))).mono ?_
        rw [e1]
        rintro e w' ⟨rfl, rfl⟩
        go_wp2_with fail
        go_ret
        exact ⟨rfl, hmf.drewN _⟩
      obtain ⟨k, rfl⟩ := Int.eq_ofNat_of_zero_le (show 0 ≤ f by omega)
      by_cases hk : k < S.sizes.length
      · have e1 : sizeAt S k = S.sizes[k] := by
          unfold sizeAt; rw [if_pos (by omega), Int.toNat_natCast, List.getD_eq_getElem?_getD, List.getElem?_eq_getElem hk]; rfl
        have hd : decide (k < S.sizes.length) = true := by simp; omega
        obtain ⟨n, hn⟩ : ∃ n, n = S.sizes[k] := ⟨_, rfl⟩
        rw [← hn] at e1
        rcases hown.2 with ⟨hnil, hn0⟩ | ⟨g, cap, cur, hra, _⟩
        · omega
        · rw [hra] at hrb0 hown
          have hck := hown.cellAt k (by omega)
          rw [List.getElem?_map, List.getElem?_eq_getElem hk, ← hn] at hck
          simp only [Option.map_some] at hck
          clear hn hra
          go_wp2_with fail
          go_quiet (fail)
          go_wp2_with fail
          go_quiet (fail)
          go_wp2_with fail
          refine (size_any b mb sv S k _ (hS.keepN (Mod.drewN' _ _ _))).mono ?_
          rw [e1]
          rintro e w' ⟨rfl, rfl⟩
          go_wp2_with fail
          go_ret
          exact ⟨rfl, hmf.drewN _⟩
      · have e1 : sizeAt S k = 0 := by unfold sizeAt; rw [if_neg (by omega)]
        have hd : decide (k < S.sizes.length) = false := by simp; omega
        go_wp2_with fail
        go_quiet (fail)
        go_wp2_with fail
        refine (size_any b mb sv S k _ (hS.keepN (Mod.drewN' _ _ _))).mono ?_
        rw [e1]
        rintro e w' ⟨rfl, rfl⟩
        go_wp2_with fail
        go_ret
        exact ⟨rfl, hmf.drewN _⟩

set_option linter.unusedVariables false in
set_option maxRecDepth 100000 in
theorem filesDoes_lifted (os : Os) (started : os.Started) (H : Type) (enc : TypeId × Value → H) :
    ReturnsInHanded {} Try.checked os 3 .any (Rows.filesDoesSpec.pre6 enc Try.prog Try.f3 Rows.filesDoesRow.domain false) (Rows.filesDoesSpec.post enc Try.prog Try.f3 false true false false) := by
  refine returnsInHanded_of_change (C := Try.checked) own started (by kernel_rfl) Try.func3
    (ChangeSpec.witness6 (enc := enc) (C := Try.checked) false ⟨#[], #[.slice none 0 0, .slice none 0 0, .agg #[.int .i64 0, .int .i64 0]], []⟩ 8 (by kernel_rfl) (by kernel_rfl) (by kernel_rfl) (by kernel_rfl)) ?_
  intro W base args ds gs before hval0 hW hcnd _
  have hval : ∀ (j : Nat) t v, Try.f3.params[j]? = some t → args[j]? = some v → Value.okWide Try.prog W .any base t v := hval0
  have hW' := hW
  obtain ⟨p, q, hA0, hV, rfl, hfz, hnd⟩ := hW
  have hA : DataW.TrodAll enc Try.prog W 0 (fun _ => true) true Try.f3.params.toList args.toList ds p := hA0
  rw [Try.params3] at hA hval
  obtain ⟨v0, vs0, d0, ds0, p0, q0, hargs, rfl, rfl, h0, r0⟩ := trodAll_cons hA
  obtain ⟨v1, vs1, d1, ds1, p1, q1, rfl, rfl, rfl, h1, r1⟩ := trodAll_cons r0
  obtain ⟨v2, vs2, d2, ds2, p2, q2, rfl, rfl, rfl, h2, r2⟩ := trodAll_cons r1
  obtain ⟨rfl, rfl, rfl⟩ := trodAll_nil r2
  obtain rfl : args = #[v0, v1, v2] := by cases args; simp_all
  obtain ⟨rfl, rfl⟩ := trodVars_none hV
  have k0 := h0
  have lt0 : ∀ x ∈ p0, x.block < W.heap.size := by obtain ⟨m, hm⟩ := k0; exact DataW.trod_lt m _ _ _ hm
  obtain ⟨x0, s0, g0⟩ := arg_slice Try.underlying22 (hval 0 22 v0 rfl rfl) (dec_slice 1 Try.underlying22 (by kernel_rfl) (fun _ => rfl) (by decide) (dec_int Try.underlying3)) h0
  have k1 := h1
  have lt1 : ∀ x ∈ p1, x.block < W.heap.size := by obtain ⟨m, hm⟩ := k1; exact DataW.trod_lt m _ _ _ hm
  obtain ⟨x1, s1, g1⟩ := arg_slice Try.underlying23 (hval 1 23 v1 rfl rfl) (dec_slice (ec := ecAct) 3 Try.underlying23 (by kernel_rfl) ecAct_len (by decide) dec_act) h1
  have k2 := h2
  have lt2 : ∀ x ∈ p2, x.block < W.heap.size := by obtain ⟨m, hm⟩ := k2; exact DataW.trod_lt m _ _ _ hm
  obtain ⟨x2, rfl, g2⟩ := arg_struct Try.underlying25 (hval 2 25 v2 rfl rfl) dec_key h2
  clear hA0 hval0
  refine (law_does x0 v0 x1 v1 x2.1 x2.2 W s0.ints s1).mono fun e W' ⟨he, bel0⟩ => ?_
  have bel := Mod.none bel0
  subst he
  exact ⟨_, rfl, _, _, _, [], _, [], hW', trodAll_mk1 (shut_bool Try.underlying4 _), (trodAll_cons_mk (Below.trod laidOut (by kernel_rfl) (of_decide_eq_true (by kernel_rfl)) k0 bel lt0) (trodAll_cons_mk (Below.trod laidOut (by kernel_rfl) (of_decide_eq_true (by kernel_rfl)) k1 bel lt1) (trodAll_cons_mk (Below.trod laidOut (by kernel_rfl) (of_decide_eq_true (by kernel_rfl)) k2 bel lt2) trodAll_mk0))), rfl, bel.frame _, fun h => by cases h⟩

theorem filesDoes_holds : Rows.FilesDoesSaid :=
  OpenClaim.holds_of_wide 3 Try.f3 rfl rfl rfl rfl rfl rfl rfl ⟨rfl, rfl, rfl, rfl, rfl⟩ rfl rfl rfl rfl rfl (by kernel_rfl) Try.func3 (by kernel_rfl)
    (of_decide_eq_true (by kernel_rfl)) (by unfold Func.isWrapper; first | (rw [if_pos (by decide +kernel)]; kernel_rfl) | (rw [if_neg (by decide +kernel)]; exact ⟨rfl, rfl⟩))
    (fun os started H enc _ => filesDoes_lifted os started H enc)
#print axioms filesDoes_holds

end Go.Proofs.Ytdpjlkkpjnmdnaa
