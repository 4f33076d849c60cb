/-
  FilesSizes: whatever sizes and acts are given, each file has its pages and no more, and what is not written counts for nothing: the law returns true for every input, and changes nothing that was there.
-/
import Derived.Test.YtdpjlkkpjnmdnaaFilesB
import Derived.Test.YtdpjlkkpjnmdnaaFilesF
namespace Go.Proofs.Ytdpjlkkpjnmdnaa
open Go.RowKit Go.ChangeShapes Go.WideShapes Go.ChangeAt

def ecAct (p : (Int × Int) × ByteArray) : List Value := (ecI p.1.1 ++ ecI p.1.2) ++ ecS p.2

theorem act_cells {w : World} {v : Value} {l : List ((Int × Int) × ByteArray)} (h : RowsAt ecAct 3 w v l) :
    ∃ a cap, v = .slice a l.length cap ∧ l.length ≤ cap ∧ cap ≤ maxLen ∧ ∀ (j : Nat) (f i : Int) (t : ByteArray), l[j]? = some ((f, i), t) → ∃ b off, a = some ⟨b, off, none⟩ ∧
      w.cell? ⟨b, off + j * 3, none⟩ = some (.int .i64 f) ∧ w.cell? ⟨b, off + j * 3 + 1, none⟩ = some (.int .i64 i) ∧ w.cell? ⟨b, off + j * 3 + 2, none⟩ = some (.string t) := by
  obtain ⟨a, cap, h1, h2, h3, h4⟩ := h
  refine ⟨a, cap, h1, h2, h3, fun j f i t hj => ?_⟩
  obtain ⟨b, off, h5, h6⟩ := h4 j _ hj
  exact ⟨b, off, h5, by simpa [ecAct, ecI, ecS] using h6 0 (by omega), by simpa [ecAct, ecI, ecS] using h6 1 (by omega), by simpa [ecAct, ecI, ecS] using h6 2 (by omega)⟩

theorem writeS_sizes (S : FS) (f i : Int) (t : ByteArray) (c : Nat) : (writeS S f i t c).sizes = S.sizes := by unfold writeS; split <;> rfl
theorem writeS_writes (S : FS) (f i : Int) (t : ByteArray) (c : Nat) : (writeS S f i t c).writes = S.writes + if writeE S f i t = 0 then 1 else 0 := by
  unfold writeS writeE
  cases hasB S f i
  · simp
  · by_cases h : t.size = 16 <;> simp [h]
theorem writeE_cases (S : FS) (f i : Int) (t : ByteArray) : writeE S f i t = 0 ∨ writeE S f i t = 1 ∨ writeE S f i t = 2 := by
  unfold writeE
  cases hasB S f i
  · simp
  · by_cases h : t.size = 16 <;> simp [h]

theorem sizeAt_congr {S S' : FS} (h : S.sizes = S'.sizes) (f : Int) : sizeAt S f = sizeAt S' f := by unfold sizeAt; rw [h]

/-- The loop's relation: some store of these sizes, that was written so often. -/
def SzRel (b mb : Nat) (sv : Value) (S0 : FS) (w : World) (k : Nat) (n : Int) (wr : World) : Prop :=
  ∃ S : FS, FilesIs wr b mb sv S ∧ S.sizes = S0.sizes ∧ S.writes = n ∧ 0 ≤ n ∧ n ≤ k ∧ Mod (fun i => i = b ∨ i = mb) w wr

set_option maxHeartbeats 1000000 in
theorem law_sizes (sizes : List Int) (v0 : Value) (f i : Int) (l : List ((Int × Int) × ByteArray)) (v2 : Value) (w : World) (h0 : IntsAt w v0 sizes) (h2 : RowsAt ecAct 3 w v2 l) :
    Calls Try.prog 6 #[v0, .agg #[.int .i64 f, .int .i64 i], v2] w fun e w' => e = .returned (.bool true) ∧ Mod (fun _ => False) w w' := by
  obtain ⟨a0, cap0, rfl, hcap0, hmax0, hcell0⟩ := id h0
  obtain ⟨a2, cap2, rfl, hcap2, hmax2, hcell2⟩ := act_cells h2
  unfold maxLen at hmax0 hmax2
  by_cases hs : 100 < sizes.length
  · go_enter Try.func6, Try.ntmps6
    go_wp2_with fail
    refine (works_any _).mono ?_
    rintro e w1 ⟨rfl, hm1⟩
    go_wp2_with fail
    go_ret
    exact ⟨rfl, (Mod.alloc' _ _ _).trans hm1⟩
  by_cases hl : 60 < l.length
  · have hs' : decide (100 < (sizes.length : Int)) = false := by simp; omega
    go_enter Try.func6, Try.ntmps6
    go_wp2_with fail
    refine (works_any _).mono ?_
    rintro e w1 ⟨rfl, hm1⟩
    go_wp2_with fail
    go_ret
    exact ⟨rfl, (Mod.alloc' _ _ _).trans hm1⟩
  have hs' : decide (100 < (sizes.length : Int)) = false := by simp; omega
  have hl' : decide (60 < (l.length : Int)) = false := by simp; omega
  go_enter Try.func6, Try.ntmps6
  go_wp2_with fail
  refine (works_any _).mono ?_
  rintro e w1 ⟨rfl, hm1⟩
  have hm01 : Mod (fun _ => False) w w1 := (Mod.alloc' _ _ _).trans hm1
  have hbx := (Blk.new w #[.int .i64 f, .int .i64 i] 25).keep hm1 (fun x => x)
  have hbx0 := hbx.cell 0
  have hbx1 := hbx.cell 1
  simp only [List.getElem?_toArray, List.getElem?_cons_zero, List.getElem?_cons_succ] at hbx0 hbx1
  go_wp2_with fail
  refine (new_any sizes _ _ (h0.keep hm01 (fun _ _ x => x))).mono ?_
  rintro e w2 ⟨b, mb, sv, rfl, hm2, hF2, hb2, hmb2, hsv2⟩
  have hbx := hbx.keep hm2 (fun x => x)
  have hbx0 := hbx.cell 0
  have hbx1 := hbx.cell 1
  simp only [List.getElem?_toArray, List.getElem?_cons_zero, List.getElem?_cons_succ] at hbx0 hbx1
  have hnb := hm01.size
  go_wp2_with fail
  refine (size_any b mb sv _ f _ hF2).mono ?_
  rintro e w' ⟨rfl, rfl⟩
  have hsz := sizeAt_bd hF2 f
  go_wp2_with fail
  refine (read_any b mb sv _ f i _ hF2).mono ?_
  rintro e w3 ⟨rfl, hm3⟩
  have hF3 := hF2.keepN hm3
  have hbx := hbx.keep hm3 (fun x => x)
  have hbx0 := hbx.cell 0
  have hbx1 := hbx.cell 1
  simp only [List.getElem?_toArray, List.getElem?_cons_zero, List.getElem?_cons_succ] at hbx0 hbx1
  have hrd : (readS (newF sizes) f i).2 = if hasB (newF sizes) f i then 0 else 2 := by
    unfold readS
    cases hasB (newF sizes) f i
    · rfl
    · rfl
  have hrd' : hasB (newF sizes) f i = (decide (0 ≤ i) && decide (i < sizeAt (newF sizes) f)) := rfl
  generalize (readS (newF sizes) f i).1 = r1 at *
  generalize (readS (newF sizes) f i).2 = r2 at *
  rw [hrd'] at hrd
  clear hrd'
  obtain ⟨n, hn⟩ : ∃ n, n = sizeAt (newF sizes) f := ⟨_, rfl⟩
  rw [← hn] at hsz hrd ⊢
  have HN := Lib.hid hn
  clear hn
  obtain ⟨hn0, hn1⟩ := hsz
  have hsz1 : w.heap.size + 1 ≤ w1.heap.size := by have := hm1.size; simpa using this
  have hm03 : Mod (fun _ => False) w w3 := (hm01.trans hm2).trans hm3
  clear h0 hcell0 hs hs'
  rcases (show i < 0 ∨ (0 ≤ i ∧ i < n) ∨ (0 ≤ i ∧ n ≤ i) by omega) with hi | ⟨hi, hi2⟩ | ⟨hi, hi2⟩
  · have hd0 : decide (0 ≤ i) = false := by simp; omega
    have hd1 : decide (i < n) = true := by simp; omega
    obtain rfl : r2 = 2 := by rw [hrd, hd0, hd1]; rfl
    clear hrd
    go_wp2_with fail
    go_loopw [13, 14] (fun c k wr => ∃ (j : Nat) (m : Int), j ≤ l.length ∧ k = .int .i64 j ∧ c = .int .i64 m ∧ SzRel b mb sv (newF sizes) w3 j m wr) (fun _ k _ => l.length - (intOf k).toNat)
    case atStart => exact ⟨0, 0, by omega, rfl, rfl, newF sizes, hF3, rfl, rfl, by omega, by omega, Mod.refl _ _⟩
    case round =>
      obtain ⟨j, m, hj, rfl, rfl, S, hS, hSs, hSw, hm0, hmj, hmr⟩ := hrel
      by_cases hlt : j < l.length
      · obtain ⟨f', i', t, hx⟩ : ∃ f' i' t, l[j]? = some ((f', i'), t) := ⟨_, _, _, List.getElem?_eq_getElem hlt⟩
        obtain ⟨b', off, rfl, hc0, hc1, hc2⟩ := hcell2 j f' i' t hx
        have hrr : Mod (fun i => i = b ∨ i = mb) w wr := (hm03.mono (fun _ x => x.elim)).trans hmr
        have hnb' : ∀ q, q < w.heap.size → ¬ (q = b ∨ q = mb) := fun q hq h => by rcases h with h | h <;> omega
        rw [← hrr.cell (lt_of_cell hc0) (hnb' _ (lt_of_cell hc0))] at hc0
        rw [← hrr.cell (lt_of_cell hc1) (hnb' _ (lt_of_cell hc1))] at hc1
        rw [← hrr.cell (lt_of_cell hc2) (hnb' _ (lt_of_cell hc2))] at hc2
        clear hx hcell2
        go_wp2_with fail
        go_still_tail 11, (by kernel_rfl)
        go_wp2_with fail
        refine (write_any b mb sv S f' i' t _ (hS.keepN (Mod.refl _ _).drew) (by omega)).mono ?_
        rintro e w5 ⟨rfl, hm5, c, hS5⟩
        have hw5 := writeS_writes S f' i' t c
        have hs5 := writeS_sizes S f' i' t c
        have hrel5 : ∀ m', (writeS S f' i' t c).writes = m' → 0 ≤ m' → m' ≤ ((j + 1 : Nat) : Int) → SzRel b mb sv (newF sizes) w3 (j + 1) m' w5 := fun m' h1 h2 h3 =>
          ⟨_, hS5, hs5.trans hSs, h1, h2, h3, hmr.trans ((Mod.refl _ _).drew.trans hm5)⟩
        rcases writeE_cases S f' i' t with hE | hE | hE
        · rw [hE]
          rw [hE, if_pos rfl, hSw] at hw5
          clear hs5 hE
          have HW := Lib.hid hw5
          clear hw5
          go_wp2_with fail
          go_roundw
          case rel => exact ⟨j + 1, m + 1, by omega, by go_num, rfl, hrel5 _ HW.out (by omega) (by omega)⟩
          case measure => simp [intOf]; omega
        · rw [hE]
          rw [hE, if_neg (by decide), hSw] at hw5
          clear hs5 hE
          have HW := Lib.hid hw5
          clear hw5
          go_wp2_with fail
          go_roundw
          case rel => exact ⟨j + 1, m, by omega, by go_num, rfl, hrel5 _ (by rw [HW.out]; omega) (by omega) (by omega)⟩
          case measure => simp [intOf]; omega
        · rw [hE]
          rw [hE, if_neg (by decide), hSw] at hw5
          clear hs5 hE
          have HW := Lib.hid hw5
          clear hw5
          go_wp2_with fail
          go_roundw
          case rel => exact ⟨j + 1, m, by omega, by go_num, rfl, hrel5 _ (by rw [HW.out]; omega) (by omega) (by omega)⟩
          case measure => simp [intOf]; omega
      · obtain rfl : j = l.length := by omega
        have hbr := hbx.keep hmr (fun h => by rcases h with h | h <;> omega)
        have hbr0 := hbr.cell 0
        simp only [List.getElem?_toArray, List.getElem?_cons_zero] at hbr0
        have hmf : Mod (fun _ => False) w wr := hm03.trans' hmr (fun q hq h => by rcases h with h | h <;> omega)
        have hsa : sizeAt S f = n := by rw [sizeAt_congr hSs f, ← HN.out]
        have hlen : S.sizes.length = min 32 sizes.length := by rw [hSs, newF_len]
        have HL := Lib.hid hlen
        clear hlen
        go_wp2_with fail
        refine (size_any b mb sv S f _ hS).mono ?_
        rw [hsa]
        rintro e w' ⟨rfl, rfl⟩
        go_wp2_with fail
        refine (writes_any b mb sv S _ hS).mono ?_
        rw [hSw]
        rintro e w' ⟨rfl, rfl⟩
        go_wp2_with fail
        refine (count_any b mb sv S _ hS).mono ?_
        rw [HL.out]
        rintro e w' ⟨rfl, rfl⟩
        by_cases h32 : 32 < sizes.length
        · rw [Nat.min_eq_left (by omega)]
          go_wp2_with fail
          go_ret
          exact ⟨rfl, hmf⟩
        · rw [Nat.min_eq_right (by omega)]
          go_wp2_with fail
          go_ret
          exact ⟨rfl, hmf⟩
  · have hd0 : decide (0 ≤ i) = true := by simp; omega
    have hd1 : decide (i < n) = true := by simp; omega
    obtain rfl : r2 = 0 := by rw [hrd, hd0, hd1]; rfl
    clear hrd
    go_wp2_with fail
    go_loopw [13, 14] (fun c k wr => ∃ (j : Nat) (m : Int), j ≤ l.length ∧ k = .int .i64 j ∧ c = .int .i64 m ∧ SzRel b mb sv (newF sizes) w3 j m wr) (fun _ k _ => l.length - (intOf k).toNat)
    case atStart => exact ⟨0, 0, by omega, rfl, rfl, newF sizes, hF3, rfl, rfl, by omega, by omega, Mod.refl _ _⟩
    case round =>
      obtain ⟨j, m, hj, rfl, rfl, S, hS, hSs, hSw, hm0, hmj, hmr⟩ := hrel
      by_cases hlt : j < l.length
      · obtain ⟨f', i', t, hx⟩ : ∃ f' i' t, l[j]? = some ((f', i'), t) := ⟨_, _, _, List.getElem?_eq_getElem hlt⟩
        obtain ⟨b', off, rfl, hc0, hc1, hc2⟩ := hcell2 j f' i' t hx
        have hrr : Mod (fun i => i = b ∨ i = mb) w wr := (hm03.mono (fun _ x => x.elim)).trans hmr
        have hnb' : ∀ q, q < w.heap.size → ¬ (q = b ∨ q = mb) := fun q hq h => by rcases h with h | h <;> omega
        rw [← hrr.cell (lt_of_cell hc0) (hnb' _ (lt_of_cell hc0))] at hc0
        rw [← hrr.cell (lt_of_cell hc1) (hnb' _ (lt_of_cell hc1))] at hc1
        rw [← hrr.cell (lt_of_cell hc2) (hnb' _ (lt_of_cell hc2))] at hc2
        clear hx hcell2
        go_wp2_with fail
        go_still_tail 11, (by kernel_rfl)
        go_wp2_with fail
        refine (write_any b mb sv S f' i' t _ (hS.keepN (Mod.refl _ _).drew) (by omega)).mono ?_
        rintro e w5 ⟨rfl, hm5, c, hS5⟩
        have hw5 := writeS_writes S f' i' t c
        have hs5 := writeS_sizes S f' i' t c
        have hrel5 : ∀ m', (writeS S f' i' t c).writes = m' → 0 ≤ m' → m' ≤ ((j + 1 : Nat) : Int) → SzRel b mb sv (newF sizes) w3 (j + 1) m' w5 := fun m' h1 h2 h3 =>
          ⟨_, hS5, hs5.trans hSs, h1, h2, h3, hmr.trans ((Mod.refl _ _).drew.trans hm5)⟩
        rcases writeE_cases S f' i' t with hE | hE | hE
        · rw [hE]
          rw [hE, if_pos rfl, hSw] at hw5
          clear hs5 hE
          have HW := Lib.hid hw5
          clear hw5
          go_wp2_with fail
          go_roundw
          case rel => exact ⟨j + 1, m + 1, by omega, by go_num, rfl, hrel5 _ HW.out (by omega) (by omega)⟩
          case measure => simp [intOf]; omega
        · rw [hE]
          rw [hE, if_neg (by decide), hSw] at hw5
          clear hs5 hE
          have HW := Lib.hid hw5
          clear hw5
          go_wp2_with fail
          go_roundw
          case rel => exact ⟨j + 1, m, by omega, by go_num, rfl, hrel5 _ (by rw [HW.out]; omega) (by omega) (by omega)⟩
          case measure => simp [intOf]; omega
        · rw [hE]
          rw [hE, if_neg (by decide), hSw] at hw5
          clear hs5 hE
          have HW := Lib.hid hw5
          clear hw5
          go_wp2_with fail
          go_roundw
          case rel => exact ⟨j + 1, m, by omega, by go_num, rfl, hrel5 _ (by rw [HW.out]; omega) (by omega) (by omega)⟩
          case measure => simp [intOf]; omega
      · obtain rfl : j = l.length := by omega
        have hbr := hbx.keep hmr (fun h => by rcases h with h | h <;> omega)
        have hbr0 := hbr.cell 0
        simp only [List.getElem?_toArray, List.getElem?_cons_zero] at hbr0
        have hmf : Mod (fun _ => False) w wr := hm03.trans' hmr (fun q hq h => by rcases h with h | h <;> omega)
        have hsa : sizeAt S f = n := by rw [sizeAt_congr hSs f, ← HN.out]
        have hlen : S.sizes.length = min 32 sizes.length := by rw [hSs, newF_len]
        have HL := Lib.hid hlen
        clear hlen
        go_wp2_with fail
        refine (size_any b mb sv S f _ hS).mono ?_
        rw [hsa]
        rintro e w' ⟨rfl, rfl⟩
        go_wp2_with fail
        refine (writes_any b mb sv S _ hS).mono ?_
        rw [hSw]
        rintro e w' ⟨rfl, rfl⟩
        go_wp2_with fail
        refine (count_any b mb sv S _ hS).mono ?_
        rw [HL.out]
        rintro e w' ⟨rfl, rfl⟩
        by_cases h32 : 32 < sizes.length
        · rw [Nat.min_eq_left (by omega)]
          go_wp2_with fail
          go_ret
          exact ⟨rfl, hmf⟩
        · rw [Nat.min_eq_right (by omega)]
          go_wp2_with fail
          go_ret
          exact ⟨rfl, hmf⟩
  · have hd0 : decide (0 ≤ i) = true := by simp; omega
    have hd1 : decide (i < n) = false := by simp; omega
    obtain rfl : r2 = 2 := by rw [hrd, hd0, hd1]; rfl
    clear hrd
    go_wp2_with fail
    go_loopw [13, 14] (fun c k wr => ∃ (j : Nat) (m : Int), j ≤ l.length ∧ k = .int .i64 j ∧ c = .int .i64 m ∧ SzRel b mb sv (newF sizes) w3 j m wr) (fun _ k _ => l.length - (intOf k).toNat)
    case atStart => exact ⟨0, 0, by omega, rfl, rfl, newF sizes, hF3, rfl, rfl, by omega, by omega, Mod.refl _ _⟩
    case round =>
      obtain ⟨j, m, hj, rfl, rfl, S, hS, hSs, hSw, hm0, hmj, hmr⟩ := hrel
      by_cases hlt : j < l.length
      · obtain ⟨f', i', t, hx⟩ : ∃ f' i' t, l[j]? = some ((f', i'), t) := ⟨_, _, _, List.getElem?_eq_getElem hlt⟩
        obtain ⟨b', off, rfl, hc0, hc1, hc2⟩ := hcell2 j f' i' t hx
        have hrr : Mod (fun i => i = b ∨ i = mb) w wr := (hm03.mono (fun _ x => x.elim)).trans hmr
        have hnb' : ∀ q, q < w.heap.size → ¬ (q = b ∨ q = mb) := fun q hq h => by rcases h with h | h <;> omega
        rw [← hrr.cell (lt_of_cell hc0) (hnb' _ (lt_of_cell hc0))] at hc0
        rw [← hrr.cell (lt_of_cell hc1) (hnb' _ (lt_of_cell hc1))] at hc1
        rw [← hrr.cell (lt_of_cell hc2) (hnb' _ (lt_of_cell hc2))] at hc2
        clear hx hcell2
        go_wp2_with fail
        go_still_tail 11, (by kernel_rfl)
        go_wp2_with fail
        refine (write_any b mb sv S f' i' t _ (hS.keepN (Mod.refl _ _).drew) (by omega)).mono ?_
        rintro e w5 ⟨rfl, hm5, c, hS5⟩
        have hw5 := writeS_writes S f' i' t c
        have hs5 := writeS_sizes S f' i' t c
        have hrel5 : ∀ m', (writeS S f' i' t c).writes = m' → 0 ≤ m' → m' ≤ ((j + 1 : Nat) : Int) → SzRel b mb sv (newF sizes) w3 (j + 1) m' w5 := fun m' h1 h2 h3 =>
          ⟨_, hS5, hs5.trans hSs, h1, h2, h3, hmr.trans ((Mod.refl _ _).drew.trans hm5)⟩
        rcases writeE_cases S f' i' t with hE | hE | hE
        · rw [hE]
          rw [hE, if_pos rfl, hSw] at hw5
          clear hs5 hE
          have HW := Lib.hid hw5
          clear hw5
          go_wp2_with fail
          go_roundw
          case rel => exact ⟨j + 1, m + 1, by omega, by go_num, rfl, hrel5 _ HW.out (by omega) (by omega)⟩
          case measure => simp [intOf]; omega
        · rw [hE]
          rw [hE, if_neg (by decide), hSw] at hw5
          clear hs5 hE
          have HW := Lib.hid hw5
          clear hw5
          go_wp2_with fail
          go_roundw
          case rel => exact ⟨j + 1, m, by omega, by go_num, rfl, hrel5 _ (by rw [HW.out]; omega) (by omega) (by omega)⟩
          case measure => simp [intOf]; omega
        · rw [hE]
          rw [hE, if_neg (by decide), hSw] at hw5
          clear hs5 hE
          have HW := Lib.hid hw5
          clear hw5
          go_wp2_with fail
          go_roundw
          case rel => exact ⟨j + 1, m, by omega, by go_num, rfl, hrel5 _ (by rw [HW.out]; omega) (by omega) (by omega)⟩
          case measure => simp [intOf]; omega
      · obtain rfl : j = l.length := by omega
        have hbr := hbx.keep hmr (fun h => by rcases h with h | h <;> omega)
        have hbr0 := hbr.cell 0
        simp only [List.getElem?_toArray, List.getElem?_cons_zero] at hbr0
        have hmf : Mod (fun _ => False) w wr := hm03.trans' hmr (fun q hq h => by rcases h with h | h <;> omega)
        have hsa : sizeAt S f = n := by rw [sizeAt_congr hSs f, ← HN.out]
        have hlen : S.sizes.length = min 32 sizes.length := by rw [hSs, newF_len]
        have HL := Lib.hid hlen
        clear hlen
        go_wp2_with fail
        refine (size_any b mb sv S f _ hS).mono ?_
        rw [hsa]
        rintro e w' ⟨rfl, rfl⟩
        go_wp2_with fail
        refine (writes_any b mb sv S _ hS).mono ?_
        rw [hSw]
        rintro e w' ⟨rfl, rfl⟩
        go_wp2_with fail
        refine (count_any b mb sv S _ hS).mono ?_
        rw [HL.out]
        rintro e w' ⟨rfl, rfl⟩
        by_cases h32 : 32 < sizes.length
        · rw [Nat.min_eq_left (by omega)]
          go_wp2_with fail
          go_ret
          exact ⟨rfl, hmf⟩
        · rw [Nat.min_eq_right (by omega)]
          go_wp2_with fail
          go_ret
          exact ⟨rfl, hmf⟩

theorem ecAct_len (p : (Int × Int) × ByteArray) : (ecAct p).length = 3 := rfl

set_option linter.unusedVariables false in
set_option maxRecDepth 100000 in
theorem filesSizes_lifted (os : Os) (started : os.Started) (H : Type) (enc : TypeId × Value → H) :
    ReturnsInHanded {} Try.checked os 6 .any (Rows.filesSizesSpec.pre6 enc Try.prog Try.f6 Rows.filesSizesRow.domain false) (Rows.filesSizesSpec.post enc Try.prog Try.f6 false true false false) := by
  refine returnsInHanded_of_change (C := Try.checked) own started (by kernel_rfl) Try.func6
    (ChangeSpec.witness6 (enc := enc) (C := Try.checked) false ⟨#[], #[.slice none 0 0, .agg #[.int .i64 0, .int .i64 0], .slice none 0 0], []⟩ 8 (by kernel_rfl) (by kernel_rfl) (by kernel_rfl) (by kernel_rfl)) ?_
  intro W base args ds gs before hval0 hW hcnd _
  have hval : ∀ (j : Nat) t v, Try.f6.params[j]? = some t → args[j]? = some v → Value.okWide Try.prog W .any base t v := hval0
  have hW' := hW
  obtain ⟨p, q, hA0, hV, rfl, hfz, hnd⟩ := hW
  have hA : DataW.TrodAll enc Try.prog W 0 (fun _ => true) true Try.f6.params.toList args.toList ds p := hA0
  rw [Try.params6] at hA hval
  obtain ⟨v0, vs0, d0, ds0, p0, q0, hargs, rfl, rfl, h0, r0⟩ := trodAll_cons hA
  obtain ⟨v1, vs1, d1, ds1, p1, q1, rfl, rfl, rfl, h1, r1⟩ := trodAll_cons r0
  obtain ⟨v2, vs2, d2, ds2, p2, q2, rfl, rfl, rfl, h2, r2⟩ := trodAll_cons r1
  obtain ⟨rfl, rfl, rfl⟩ := trodAll_nil r2
  obtain rfl : args = #[v0, v1, v2] := by cases args; simp_all
  obtain ⟨rfl, rfl⟩ := trodVars_none hV
  have k0 := h0
  have lt0 : ∀ x ∈ p0, x.block < W.heap.size := by obtain ⟨m, hm⟩ := k0; exact DataW.trod_lt m _ _ _ hm
  obtain ⟨x0, s0, g0⟩ := arg_slice Try.underlying22 (hval 0 22 v0 rfl rfl) (dec_slice 1 Try.underlying22 (by kernel_rfl) (fun _ => rfl) (by decide) (dec_int Try.underlying3)) h0
  have k1 := h1
  have lt1 : ∀ x ∈ p1, x.block < W.heap.size := by obtain ⟨m, hm⟩ := k1; exact DataW.trod_lt m _ _ _ hm
  obtain ⟨x1, rfl, g1⟩ := arg_struct Try.underlying25 (hval 1 25 v1 rfl rfl) dec_key h1
  have k2 := h2
  have lt2 : ∀ x ∈ p2, x.block < W.heap.size := by obtain ⟨m, hm⟩ := k2; exact DataW.trod_lt m _ _ _ hm
  obtain ⟨x2, s2, g2⟩ := arg_slice Try.underlying23 (hval 2 23 v2 rfl rfl) (dec_slice (ec := ecAct) 3 Try.underlying23 (by kernel_rfl) ecAct_len (by decide) dec_act) h2
  clear hA0 hval0
  refine (law_sizes x0 v0 x1.1 x1.2 x2 v2 W s0.ints s2).mono fun e W' ⟨he, bel0⟩ => ?_
  have bel := Mod.none bel0
  subst he
  exact ⟨_, rfl, _, _, _, [], _, [], hW', trodAll_mk1 (shut_bool Try.underlying4 _), (trodAll_cons_mk (Below.trod laidOut (by kernel_rfl) (of_decide_eq_true (by kernel_rfl)) k0 bel lt0) (trodAll_cons_mk (Below.trod laidOut (by kernel_rfl) (of_decide_eq_true (by kernel_rfl)) k1 bel lt1) (trodAll_cons_mk (Below.trod laidOut (by kernel_rfl) (of_decide_eq_true (by kernel_rfl)) k2 bel lt2) trodAll_mk0))), rfl, bel.frame _, fun h => by cases h⟩

theorem filesSizes_holds : Rows.FilesSizesSaid :=
  OpenClaim.holds_of_wide 6 Try.f6 rfl rfl rfl rfl rfl rfl rfl ⟨rfl, rfl, rfl, rfl, rfl⟩ rfl rfl rfl rfl rfl (by kernel_rfl) Try.func6 (by kernel_rfl)
    (of_decide_eq_true (by kernel_rfl)) (by unfold Func.isWrapper; first | (rw [if_pos (by decide +kernel)]; kernel_rfl) | (rw [if_neg (by decide +kernel)]; exact ⟨rfl, rfl⟩))
    (fun os started H enc _ => filesSizes_lifted os started H enc)
#print axioms filesSizes_holds

end Go.Proofs.Ytdpjlkkpjnmdnaa
