/-
  The contracts of package counter: what each call answers, and what it does to the counter.
-/
import Derived.Test.YtccjpmiddfmdpaaRows
import Derived.Test.YtccjpmiddfmdpaaLib
import Derived.Test.YtccjpmiddfmdpaaLib2
namespace Go.Proofs.Ytccjpmiddfmdpaa
open Go.RowKit

structure Cnt where
  use : Int
  limit : Int
  failed : Int
  peak : Int

def ecCnt (c : Cnt) : List Value := [.int .i64 c.use, .int .i64 c.limit, .int .i64 c.failed, .int .i64 c.peak]
theorem ecCnt_len (c : Cnt) : (ecCnt c).length = 4 := rfl

def Cnt.zero : Cnt := ⟨0, 0, 0, 0⟩
def Cnt.good (F : Int) (c : Cnt) : Prop := 0 ≤ c.use ∧ c.use ≤ c.peak ∧ c.peak ≤ 1099511627776 ∧ 0 ≤ c.limit ∧ c.limit ≤ 1099511627776 ∧ 0 ≤ c.failed ∧ c.failed ≤ F

/-- A counter lies in block b. -/
structure CntIs (w : World) (b : Nat) (l : List Cnt) : Prop where
  blk : Blk w b (l.flatMap ecCnt).toArray 49
  len : l.length = 64

theorem CntIs.keep {Z : Nat → Prop} {w w' : World} {b : Nat} {l : List Cnt} (h : CntIs w b l) (hm : Mod Z w w') (hs : ¬ Z b) : CntIs w' b l := ⟨h.blk.keep hm hs, h.len⟩
theorem CntIs.keepN {w w' : World} {b : Nat} {l : List Cnt} (h : CntIs w b l) (hm : Mod (fun _ => False) w w') : CntIs w' b l := h.keep hm (fun x => x)

theorem CntIs.cell {w : World} {b : Nat} {l : List Cnt} (h : CntIs w b l) {k : Nat} {c : Cnt} (hk : l[k]? = some c) :
    w.cell? ⟨b, k * 4, none⟩ = some (.int .i64 c.use) ∧ w.cell? ⟨b, k * 4 + 1, none⟩ = some (.int .i64 c.limit) ∧ w.cell? ⟨b, k * 4 + 2, none⟩ = some (.int .i64 c.failed) ∧ w.cell? ⟨b, k * 4 + 3, none⟩ = some (.int .i64 c.peak) := by
  have h0 := h.blk.cell (k * 4 + 0)
  have h1 := h.blk.cell (k * 4 + 1)
  have h2 := h.blk.cell (k * 4 + 2)
  have h3 := h.blk.cell (k * 4 + 3)
  rw [List.getElem?_toArray, flat_get ecCnt_len l k _ (by omega), hk] at h0 h1 h2 h3
  exact ⟨h0, h1, h2, h3⟩

/-- One cell of one group set. -/
theorem flat_set {α : Type} {ec : α → List Value} {sz : Nat} (hlen : ∀ x, (ec x).length = sz) (v : Value) (x' : α) : ∀ (l : List α) (j i : Nat) (x : α), i < sz → l[j]? = some x → ec x' = (ec x).set i v → (l.flatMap ec).set (j * sz + i) v = (l.set j x').flatMap ec := by
  intro l
  induction l with
  | nil => intro j i x _ hx; simp at hx
  | cons y l ih =>
    intro j i x hi hx he
    rw [List.flatMap_cons]
    cases j with
    | zero =>
      simp only [List.getElem?_cons_zero, Option.some.injEq] at hx
      subst hx
      rw [Nat.zero_mul, Nat.zero_add, List.set_append_left _ _ (by rw [hlen]; exact hi), List.set_cons_zero, List.flatMap_cons, he]
    | succ j =>
      simp only [List.getElem?_cons_succ] at hx
      rw [Nat.succ_mul, List.set_append_right _ _ (by rw [hlen]; omega), hlen, show j * sz + sz + i - sz = j * sz + i from by omega, ih j i x hi hx he, List.set_cons_succ, List.flatMap_cons]

theorem CntIs.set {w : World} {b : Nat} {l : List Cnt} (h : CntIs w b l) {k i : Nat} {c c' : Cnt} {v : Value} (hi : i < 4) (hk : l[k]? = some c) (he : ecCnt c' = (ecCnt c).set i v) : CntIs (w.setCell ⟨b, k * 4 + i, none⟩ v) b (l.set k c') := by
  refine ⟨?_, by rw [List.length_set]; exact h.len⟩
  have h1 := h.blk.set (k * 4 + i) v
  rw [← flat_set ecCnt_len v c' l k i c hi hk he]
  simpa using h1

def groupB (g : Int) : Bool := decide (0 ≤ g) && decide (g < 64)
def amountB (n : Int) : Bool := decide (0 ≤ n) && decide (n ≤ 1099511627776)

set_option maxHeartbeats 400000 in
theorem group_any (g : Int) (w : World) : Calls Try.prog 29 #[.int .i64 g] w fun e w' => e = .returned (.bool (groupB g)) ∧ w = w' := by
  unfold groupB
  by_cases h : 0 ≤ g
  · have h' : decide (0 ≤ g) = true := by simp [h]
    rw [h', Bool.true_and]
    go_enter Try.func29, Try.ntmps29
    go_wp2
    go_ret
    exact ⟨rfl, rfl⟩
  · have h' : decide (0 ≤ g) = false := by simp; omega
    rw [h', Bool.false_and]
    go_enter Try.func29, Try.ntmps29
    go_wp2
    go_ret
    exact ⟨rfl, rfl⟩

set_option maxHeartbeats 400000 in
theorem amount_any (n : Int) (w : World) : Calls Try.prog 30 #[.int .i64 n] w fun e w' => e = .returned (.bool (amountB n)) ∧ w = w' := by
  unfold amountB
  by_cases h : 0 ≤ n
  · have h' : decide (0 ≤ n) = true := by simp [h]
    rw [h', Bool.true_and]
    go_enter Try.func30, Try.ntmps30
    go_wp2
    go_ret
    exact ⟨rfl, rfl⟩
  · have h' : decide (0 ≤ n) = false := by simp; omega
    rw [h', Bool.false_and]
    go_enter Try.func30, Try.ntmps30
    go_wp2
    go_ret
    exact ⟨rfl, rfl⟩

def ofS (l : List Cnt) (g : Int) : Cnt := if groupB g then l.getD g.toNat Cnt.zero else Cnt.zero

theorem groupB_nat {g : Int} (h : groupB g = true) : ∃ k : Nat, g = k ∧ k < 64 := by
  unfold groupB at h
  simp at h
  exact ⟨g.toNat, by omega, by omega⟩

set_option maxHeartbeats 400000 in
theorem of_any (b : Nat) (l : List Cnt) (g : Int) (w : World) (h : CntIs w b l) : Calls Try.prog 31 #[.pointer (some ⟨b, 0, none⟩), .int .i64 g] w fun e w' => e = .returned (.agg (ecCnt (ofS l g)).toArray) ∧ Mod (fun _ => False) w w' := by
  have hbl := h.blk.lt
  cases hg : groupB g
  · have e1 : ofS l g = Cnt.zero := by unfold ofS; rw [hg]; rfl
    rw [e1]
    clear e1
    go_enter Try.func31, Try.ntmps31
    go_wp2_with fail
    refine (group_any g _).mono ?_
    rw [hg]
    clear hg
    rintro e w' ⟨rfl, rfl⟩
    go_wp2_with fail
    exact bodyPost_ret (v := .agg #[.int .i64 0, .int .i64 0, .int .i64 0, .int .i64 0]) (by simp [results, Try.results31, go_sem]) rfl ⟨rfl, Mod.alloc' _ _ _⟩
  · obtain ⟨k, rfl, hk⟩ := groupB_nat hg
    obtain ⟨c, hc⟩ : ∃ c, l[k]? = some c := ⟨_, List.getElem?_eq_getElem (by rw [h.len]; exact hk)⟩
    have e1 : ofS l k = c := by unfold ofS; rw [hg, if_pos rfl, Int.toNat_natCast, List.getD_eq_getElem?_getD, hc]; rfl
    rw [e1]
    clear e1
    obtain ⟨c0, c1, c2, c3⟩ := h.cell hc
    go_enter Try.func31, Try.ntmps31
    go_wp2_with fail
    refine (group_any k _).mono ?_
    rw [hg]
    clear hg hc
    rintro e w' ⟨rfl, rfl⟩
    go_wp2_with fail
    exact bodyPost_ret (v := .agg #[.int .i64 c.use, .int .i64 c.limit, .int .i64 c.failed, .int .i64 c.peak]) (by simp [results, Try.results31, go_sem]) rfl ⟨rfl, Mod.alloc' _ _ _⟩

theorem cnt_zero (w : World) : (zeroValue 49).run Try.prog w = .ok (.agg ((List.replicate 64 Cnt.zero).flatMap ecCnt).toArray) w := by kernel_rfl

set_option maxHeartbeats 400000 in
theorem use_any (b : Nat) (l : List Cnt) (g : Int) (w : World) (h : CntIs w b l) : Calls Try.prog 19 #[.pointer (some ⟨b, 0, none⟩), .int .i64 g] w fun e w' => e = .returned (.int .i64 (ofS l g).use) ∧ Mod (fun _ => False) w w' := by
  have hfld : ∀ (w : World) (x0 x1 x2 x3 : Int), (Instr.field 46 (.agg #[.int .i64 x0, .int .i64 x1, .int .i64 x2, .int .i64 x3]) 0).run Try.prog w = .ok (.int .i64 x0) w := fun _ _ _ _ _ => by kernel_rfl
  go_enter Try.func19, Try.ntmps19
  go_wp2_with fail
  refine (of_any b l g _ h).mono ?_
  rintro e w1 ⟨rfl, hm1⟩
  unfold ecCnt
  go_wp2_with fail
  go_ret
  exact ⟨rfl, hm1⟩

set_option maxHeartbeats 400000 in
theorem limit_any (b : Nat) (l : List Cnt) (g : Int) (w : World) (h : CntIs w b l) : Calls Try.prog 20 #[.pointer (some ⟨b, 0, none⟩), .int .i64 g] w fun e w' => e = .returned (.int .i64 (ofS l g).limit) ∧ Mod (fun _ => False) w w' := by
  have hfld : ∀ (w : World) (x0 x1 x2 x3 : Int), (Instr.field 46 (.agg #[.int .i64 x0, .int .i64 x1, .int .i64 x2, .int .i64 x3]) 1).run Try.prog w = .ok (.int .i64 x1) w := fun _ _ _ _ _ => by kernel_rfl
  go_enter Try.func20, Try.ntmps20
  go_wp2_with fail
  refine (of_any b l g _ h).mono ?_
  rintro e w1 ⟨rfl, hm1⟩
  unfold ecCnt
  go_wp2_with fail
  go_ret
  exact ⟨rfl, hm1⟩

set_option maxHeartbeats 400000 in
theorem failed_any (b : Nat) (l : List Cnt) (g : Int) (w : World) (h : CntIs w b l) : Calls Try.prog 21 #[.pointer (some ⟨b, 0, none⟩), .int .i64 g] w fun e w' => e = .returned (.int .i64 (ofS l g).failed) ∧ Mod (fun _ => False) w w' := by
  have hfld : ∀ (w : World) (x0 x1 x2 x3 : Int), (Instr.field 46 (.agg #[.int .i64 x0, .int .i64 x1, .int .i64 x2, .int .i64 x3]) 2).run Try.prog w = .ok (.int .i64 x2) w := fun _ _ _ _ _ => by kernel_rfl
  go_enter Try.func21, Try.ntmps21
  go_wp2_with fail
  refine (of_any b l g _ h).mono ?_
  rintro e w1 ⟨rfl, hm1⟩
  unfold ecCnt
  go_wp2_with fail
  go_ret
  exact ⟨rfl, hm1⟩

set_option maxHeartbeats 400000 in
theorem peak_any (b : Nat) (l : List Cnt) (g : Int) (w : World) (h : CntIs w b l) : Calls Try.prog 22 #[.pointer (some ⟨b, 0, none⟩), .int .i64 g] w fun e w' => e = .returned (.int .i64 (ofS l g).peak) ∧ Mod (fun _ => False) w w' := by
  have hfld : ∀ (w : World) (x0 x1 x2 x3 : Int), (Instr.field 46 (.agg #[.int .i64 x0, .int .i64 x1, .int .i64 x2, .int .i64 x3]) 3).run Try.prog w = .ok (.int .i64 x3) w := fun _ _ _ _ _ => by kernel_rfl
  go_enter Try.func22, Try.ntmps22
  go_wp2_with fail
  refine (of_any b l g _ h).mono ?_
  rintro e w1 ⟨rfl, hm1⟩
  unfold ecCnt
  go_wp2_with fail
  go_ret
  exact ⟨rfl, hm1⟩

def setLimE (g n : Int) : Int := if groupB g && amountB n then 0 else 1
def setLimS (l : List Cnt) (g n : Int) : List Cnt := if groupB g && amountB n then l.set g.toNat { l.getD g.toNat Cnt.zero with limit := n } else l

set_option maxHeartbeats 400000 in
theorem setLimit_any (b : Nat) (l : List Cnt) (g n : Int) (w : World) (h : CntIs w b l) : Calls Try.prog 17 #[.pointer (some ⟨b, 0, none⟩), .int .i64 g, .int .i64 n] w fun e w' =>
    e = .returned (.int .i64 (setLimE g n)) ∧ Mod (fun i => i = b) w w' ∧ CntIs w' b (setLimS l g n) := by
  cases hg : groupB g
  · have e1 : setLimE g n = 1 := by unfold setLimE; rw [hg]; rfl
    have e2 : setLimS l g n = l := by unfold setLimS; rw [hg]; rfl
    rw [e1, e2]
    clear e1 e2
    go_enter Try.func17, Try.ntmps17
    go_wp2_with fail
    refine (group_any g _).mono ?_
    rw [hg]
    rintro e w' ⟨rfl, rfl⟩
    go_wp2_with fail
    go_ret
    exact ⟨rfl, Mod.refl _ _, h⟩
  cases ha : amountB n
  · have e1 : setLimE g n = 1 := by unfold setLimE; rw [hg, ha]; rfl
    have e2 : setLimS l g n = l := by unfold setLimS; rw [hg, ha]; rfl
    rw [e1, e2]
    clear e1 e2
    go_enter Try.func17, Try.ntmps17
    go_wp2_with fail
    refine (group_any g _).mono ?_
    rw [hg]
    rintro e w' ⟨rfl, rfl⟩
    go_wp2_with fail
    refine (amount_any n _).mono ?_
    rw [ha]
    rintro e w' ⟨rfl, rfl⟩
    go_wp2_with fail
    go_ret
    exact ⟨rfl, Mod.refl _ _, h⟩
  obtain ⟨k, rfl, hk⟩ := groupB_nat hg
  obtain ⟨c, hc⟩ : ∃ c, l[k]? = some c := ⟨_, List.getElem?_eq_getElem (by rw [h.len]; exact hk)⟩
  obtain ⟨c0, c1, c2, c3⟩ := h.cell hc
  have hf := h.blk.frozen (k * 4 + 1)
  have hset := h.set (i := 1) (v := .int .i64 n) (c' := { c with limit := n }) (by omega) hc rfl
  have e1 : l.getD k Cnt.zero = c := by rw [List.getD_eq_getElem?_getD, hc]; rfl
  have e2 : setLimE k n = 0 := by unfold setLimE; rw [hg, ha]; rfl
  have e3 : setLimS l k n = l.set k { c with limit := n } := by unfold setLimS; rw [hg, ha, Bool.true_and, if_pos rfl, Int.toNat_natCast, e1]
  rw [e2, e3]
  clear hc e1 e2 e3
  go_enter Try.func17, Try.ntmps17
  go_wp2_with fail
  refine (group_any k _).mono ?_
  rw [hg]
  rintro e w' ⟨rfl, rfl⟩
  go_wp2_with fail
  refine (amount_any n _).mono ?_
  rw [ha]
  clear hg ha
  rintro e w' ⟨rfl, rfl⟩
  go_wp2_with fail
  go_ret
  exact ⟨rfl, mod_setCell _ _ _ _, hset⟩

def newC : List Cnt := List.replicate 64 ⟨0, 1099511627776, 0, 0⟩

def NewCRel (w : World) (k : Nat) (wr : World) : Prop :=
  CntIs wr w.heap.size (List.replicate k ⟨0, 1099511627776, 0, 0⟩ ++ List.replicate (64 - k) Cnt.zero) ∧ Mod (fun _ => False) w wr

set_option maxRecDepth 100000 in
set_option maxHeartbeats 1000000 in
theorem newC_any (w : World) : Calls Try.prog 11 #[] w fun e w' => ∃ b, e = .returned (.pointer (some ⟨b, 0, none⟩)) ∧ Mod (fun _ => False) w w' ∧ CntIs w' b newC ∧ w.heap.size ≤ b := by
  have hz := cnt_zero
  go_enter Try.func11, Try.ntmps11
  go_wp2_with fail
  go_loopw [5] (fun i wr => ∃ k : Nat, k ≤ 64 ∧ i = .int .i64 k ∧ NewCRel w k wr) (fun i _ => 64 - (intOf i).toNat)
  case atStart => exact ⟨0, by omega, rfl, ⟨Blk.new w _ _, rfl⟩, Mod.alloc' _ _ _⟩
  case round =>
    obtain ⟨k, hk, rfl, hC, hm⟩ := hrel
    by_cases hlt : k < 64
    · have hc : (List.replicate k (⟨0, 1099511627776, 0, 0⟩ : Cnt) ++ List.replicate (64 - k) Cnt.zero)[k]? = some Cnt.zero := by
        rw [List.getElem?_append_right (by simp), List.length_replicate, Nat.sub_self, List.getElem?_replicate, if_pos (by omega)]
      obtain ⟨c0, c1, c2, c3⟩ := hC.cell hc
      have hf := hC.blk.frozen (k * 4 + 1)
      have hset := hC.set (i := 1) (v := .int .i64 1099511627776) (c' := ⟨0, 1099511627776, 0, 0⟩) (by omega) hc rfl
      have he : (List.replicate k (⟨0, 1099511627776, 0, 0⟩ : Cnt) ++ List.replicate (64 - k) Cnt.zero).set k ⟨0, 1099511627776, 0, 0⟩ = List.replicate (k + 1) ⟨0, 1099511627776, 0, 0⟩ ++ List.replicate (64 - (k + 1)) Cnt.zero := by
        rw [List.set_append_right _ _ (by simp), List.length_replicate, Nat.sub_self, show 64 - k = (64 - (k + 1)) + 1 from by omega, List.replicate_succ, List.set_cons_zero, List.replicate_succ', List.append_assoc]
        rfl
      rw [he] at hset
      clear hc he
      go_wp2_with fail
      go_roundw
      case rel => exact ⟨k + 1, by omega, by go_num, hset, Mod.setCell hm (.inr (Nat.le_refl _)) _⟩
      case measure => simp [intOf]; omega
    · obtain rfl : k = 64 := by omega
      rw [show ((64 : Nat) : Int) = 64 from rfl]
      go_wp2_with fail
      go_ret
      exact ⟨_, rfl, hm, hC, Nat.le_refl _⟩

end Go.Proofs.Ytccjpmiddfmdpaa
