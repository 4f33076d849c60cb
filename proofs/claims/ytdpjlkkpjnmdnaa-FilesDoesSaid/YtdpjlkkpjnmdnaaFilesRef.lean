/-
  The contracts of the document's answer for files (package millpondref04).
-/
import Derived.Test.YtdpjlkkpjnmdnaaFilesLast
namespace Go.Proofs.Ytdpjlkkpjnmdnaa
open Go.RowKit Go.ChangeShapes Go.WideShapes Go.ChangeAt

structure RS where
  sizes : List Int
  L : List ((Int × Int) × ByteArray)

structure RefIs (w : World) (b : Nat) (sv lv : Value) (R : RS) : Prop where
  blk : Blk w b #[sv, lv] 34
  own : w.ownsRow 0 3 1 sv R.sizes.length (R.sizes.map (Value.int .i64))
  pgs : w.ownsRow 0 52 3 lv R.L.length (R.L.flatMap ecAct)
  few : R.sizes.length ≤ 32
  lim : ∀ n ∈ R.sizes, 0 ≤ n ∧ n ≤ 4096

theorem RefIs.keep {Z : Nat → Prop} {w w' : World} {b : Nat} {sv lv : Value} {R : RS} (h : RefIs w b sv lv R) (hm : Mod Z w w') (h1 : ¬ Z b) (h2 : ∀ g, sv.ownBlock = some g → ¬ Z g) (h3 : ∀ g, lv.ownBlock = some g → ¬ Z g) : RefIs w' b sv lv R where
  blk := h.blk.keep hm h1
  own := ownsRow_keep h.own hm h2
  pgs := ownsRow_keep h.pgs hm h3
  few := h.few
  lim := h.lim

theorem RefIs.keepN {w w' : World} {b : Nat} {sv lv : Value} {R : RS} (h : RefIs w b sv lv R) (hm : Mod (fun _ => False) w w') : RefIs w' b sv lv R := h.keep hm (fun x => x) (fun _ _ x => x) (fun _ _ x => x)

/-- The same reckoning as a store's. -/
def RS.fs (R : RS) : FS := { sizes := R.sizes, l := [], writes := 0 }

set_option maxHeartbeats 400000 in
theorem refHas_any (b : Nat) (sv lv : Value) (R : RS) (f i : Int) (w : World) (h : RefIs w b sv lv R) :
    Calls Try.prog 20 #[.pointer (some ⟨b, 0, none⟩), .agg #[.int .i64 f, .int .i64 i]] w fun e w' => e = .returned (.bool (hasB R.fs f i)) ∧ Mod (fun _ => False) w w' := by
  have hb := h.blk
  have hb0 := hb.cell 0
  simp only [List.getElem?_toArray, List.getElem?_cons_zero] at hb0
  have hbl := hb.lt
  have hown := h.own
  have hfew := h.few
  by_cases h0 : 0 ≤ f
  case neg =>
    have e1 : hasB R.fs f i = false := by
      unfold hasB sizeAt; rw [if_neg (by omega)]; simp
    rw [e1]
    clear e1
    have h0' : decide (0 ≤ f) = false := by simp; omega
    go_enter Try.func20, Try.ntmps20
    go_wp2
    go_quiet (fail)
    go_wp2
    go_ret
    exact ⟨rfl, (Mod.alloc' _ _ _).drewN _⟩
  have h0' : decide (0 ≤ f) = true := by simp; omega
  obtain ⟨k, rfl⟩ := Int.eq_ofNat_of_zero_le h0
  by_cases h1 : k < R.sizes.length
  case neg =>
    have e1 : hasB R.fs k i = false := by
      unfold hasB sizeAt; rw [if_neg (by show ¬ (0 ≤ (k : Int) ∧ (k : Int) < (R.sizes.length : Int)); omega)]; simp
    rw [e1]
    clear e1
    have h1' : decide (k < R.sizes.length) = false := by simp; omega
    rcases hown.2 with ⟨rfl, hn⟩ | ⟨g, cap, cur, rfl, _⟩
    · have h1'' : decide ((k : Int) < 0) = false := by simp
      go_enter Try.func20, Try.ntmps20
      go_wp2
      go_quiet (fail)
      go_wp2
      go_ret
      exact ⟨rfl, (Mod.alloc' _ _ _).drewN _⟩
    · go_enter Try.func20, Try.ntmps20
      go_wp2
      go_quiet (fail)
      go_wp2
      go_ret
      exact ⟨rfl, (Mod.alloc' _ _ _).drewN _⟩
  have h1' : decide (k < R.sizes.length) = true := by simp; omega
  obtain ⟨n, hn⟩ : ∃ n, n = R.sizes[k] := ⟨_, rfl⟩
  have e0 : sizeAt R.fs k = n := by
    unfold sizeAt; rw [if_pos (by show (0 ≤ (k : Int) ∧ (k : Int) < (R.sizes.length : Int)); omega), hn, Int.toNat_natCast, List.getD_eq_getElem?_getD]
    show (R.sizes[k]?).getD 0 = _
    rw [List.getElem?_eq_getElem h1]; rfl
  have e1 : hasB R.fs k i = (decide (0 ≤ i) && decide (i < n)) := by unfold hasB; rw [e0]
  rw [e1]
  clear e0 e1
  rcases hown.2 with ⟨rfl, hn⟩ | ⟨g, cap, cur, rfl, _⟩
  · omega
  have hck := hown.cellAt k (by omega)
  rw [List.getElem?_map, List.getElem?_eq_getElem h1, ← hn] at hck
  simp only [Option.map_some] at hck
  have hgl := lt_of_cell hck
  clear hn
  by_cases h2 : 0 ≤ i
  · have h2' : decide (0 ≤ i) = true := by simp; omega
    go_enter Try.func20, Try.ntmps20
    go_wp2
    go_quiet (fail)
    go_wp2
    go_ret
    exact ⟨by simp [h2], (Mod.alloc' _ _ _).drewN _⟩
  · have h2' : decide (0 ≤ i) = false := by simp; omega
    go_enter Try.func20, Try.ntmps20
    go_wp2
    go_quiet (fail)
    go_wp2
    go_ret
    exact ⟨by rw [h2']; rfl, (Mod.alloc' _ _ _).drewN _⟩

theorem first_alike (f x : Int) (k : Nat) : (wrap64 (wrap64 (wrap64 (f * 31) + wrap64 (x * 7)) + k)) % 256 = (lowOf f x + k) % 256 := by
  unfold lowOf wrap64
  omega

set_option maxHeartbeats 1000000 in
theorem refFirst_any (f x : Int) (w : World) :
    Calls Try.prog 12 #[.agg #[.int .i64 f, .int .i64 x]] w fun e w' => e = .returned (.string (firstOf f x)) ∧ Mod (fun _ => False) w w' := by
  have hconv := fun (w0 : World) (b : Nat) (hb : b = w0.heap.size) (a0 a1 a2 a3 a4 a5 a6 a7 a8 a9 a10 a11 a12 a13 a14 a15 : Int) => run_conv_cells (P := Try.prog) Try.underlying51 Try.underlying5 Try.underlying9 w0 [a0, a1, a2, a3, a4, a5, a6, a7, a8, a9, a10, a11, a12, a13, a14, a15] 5 b 16 hb rfl
  simp only [List.map_cons, List.map_nil] at hconv
  have hmk : ∀ w, (Instr.makeSlice 51 (.int .i64 16) (.int .i64 16)).run Try.prog w = .ok (.slice (some ⟨w.heap.size, 0, none⟩) 16 16) (w.alloc (.cells #[.int .u8 0, .int .u8 0, .int .u8 0, .int .u8 0, .int .u8 0, .int .u8 0, .int .u8 0, .int .u8 0, .int .u8 0, .int .u8 0, .int .u8 0, .int .u8 0, .int .u8 0, .int .u8 0, .int .u8 0, .int .u8 0] 5)) := fun _ => by kernel_rfl
  go_enter Try.func12, Try.ntmps12
  go_wp2
  go_rounds 17
  go_ret
  refine ⟨?_, ((Mod.alloc' _ _ _).alloc _)⟩
  have e : firstL f x = (List.range 16).map fun (k : Nat) => (wrap64 (wrap64 (wrap64 (f * 31) + wrap64 (x * 7)) + k)) % 256 := by
    unfold firstL
    exact List.map_congr_left fun k _ => (first_alike f x k).symm
  unfold firstOf
  rw [e]
  simp [List.range, List.range.loop]

/-- The last text that was written to a page. -/
def lookL (k : Int × Int) : List ((Int × Int) × ByteArray) → Option ByteArray
  | [] => none
  | e :: l => match lookL k l with
    | some t => some t
    | none => if e.1 = k then some e.2 else none

theorem lookL_snoc (k k' : Int × Int) (t : ByteArray) (l : List ((Int × Int) × ByteArray)) : lookL k (l ++ [(k', t)]) = if k' = k then some t else lookL k l := by
  induction l with
  | nil => simp [lookL]
  | cons e l ih =>
    simp only [List.cons_append, lookL, ih]
    by_cases h : k' = k <;> simp [h]

def refReadS (R : RS) (f i : Int) : ByteArray × Int :=
  if hasB R.fs f i then
    match lookL (f, i) R.L with
    | some t => (t, 0)
    | none => (firstOf f i, 0)
  else (⟨#[]⟩, 2)

def refWriteS (R : RS) (f i : Int) (t : ByteArray) : RS := if hasB R.fs f i = true ∧ t.size = 16 then { R with L := R.L ++ [((f, i), t)] } else R

theorem info_page : (Try.prog.info? 52).map (fun i => (i.zero, i.size, i.bytes)) = some (some (.agg #[.int .i64 0, .int .i64 0, .string ⟨#[]⟩]), 3, 32) := by kernel_rfl

theorem refWrite_end {w w1 w2 : World} {b g cap : Nat} {sv lv : Value} {R : RS} {f i : Int} {t : ByteArray} (h1 : RefIs w1 b sv lv R) (hm : Mod (fun _ => False) w w1)
    (o2 : w2.ownsRow 0 52 3 (.slice (some ⟨g, 0, none⟩) (R.L.length + 1) cap) (R.L.length + 1) (R.L.flatMap ecAct ++ [.int .i64 f, .int .i64 i, .string t]))
    (m2 : Mod (fun k => some k = lv.ownBlock) (w1.alloc (.cells #[.int .i64 f, .int .i64 i, .string t] 52)).drew w2)
    (hg2 : lv.ownBlock = some g ∨ g = (w1.alloc (.cells #[.int .i64 f, .int .i64 i, .string t] 52)).drew.heap.size) (hb2 : Blk w2 b #[sv, lv] 34) :
    Mod (fun k => k = b ∨ some k = lv.ownBlock) w (w2.setCell ⟨b, 1, none⟩ (.slice (some ⟨g, 0, none⟩) (R.L.length + 1) cap)) ∧
      ∃ lv', RefIs (w2.setCell ⟨b, 1, none⟩ (.slice (some ⟨g, 0, none⟩) (R.L.length + 1) cap)) b sv lv' { R with L := R.L ++ [((f, i), t)] } ∧ ∀ g, lv'.ownBlock = some g → lv.ownBlock = some g ∨ w.heap.size ≤ g := by
  have m12 : Mod (fun k => some k = lv.ownBlock) w1 w2 := (Mod.alloc' _ _ _).drew.trans m2
  have hgb : ∀ g, lv.ownBlock = some g → g ≠ b := ownsRow_ne_blk h1.pgs h1.blk (by decide)
  have hgn : g ≠ b := by
    rcases hg2 with h | h
    · exact hgb _ h
    · have := h1.blk.lt; simp at h; omega
  refine ⟨?_, .slice (some ⟨g, 0, none⟩) (R.L.length + 1) cap, ⟨hb2.set 1 _, ?_, ?_, h1.few, h1.lim⟩, ?_⟩
  · refine Mod.setCell ?_ (.inl (.inl rfl)) _
    exact (hm.mono (fun _ x => x.elim)).trans (m12.mono (fun _ x => .inr x))
  · have h3 := ownsRow_keep h1.own m12 (fun g hg e => ownsRow_ne_row h1.pgs h1.own (by decide) g e.symm hg)
    exact ownsRow_keep h3 (mod_setCell _ _ _ _) (ownsRow_ne_blk h1.own h1.blk (by decide))
  · have h4 := ownsRow_keep o2 (mod_setCell w2 b 1 (.slice (some ⟨g, 0, none⟩) (R.L.length + 1) cap)) (fun g' hg' e => by injection hg' with hg'; simp only at hg'; omega)
    simp only [List.length_append, List.length_cons, List.length_nil, List.flatMap_append, List.flatMap_cons, List.flatMap_nil]
    exact h4
  · intro g' hg'
    injection hg' with hg'
    simp only at hg'
    subst hg'
    rcases hg2 with h | h
    · exact .inl h
    · right
      have := hm.size
      simp at h; omega

set_option maxHeartbeats 1000000 in
theorem refWrite_any (b : Nat) (sv lv : Value) (R : RS) (f i : Int) (t : ByteArray) (w : World) (h : RefIs w b sv lv R) (hR : R.L.length ≤ 1000000) :
    Calls Try.prog 14 #[.pointer (some ⟨b, 0, none⟩), .agg #[.int .i64 f, .int .i64 i], .string t] w fun e w' =>
      e = .returned (.int .i64 (writeE R.fs f i t)) ∧ Mod (fun k => k = b ∨ some k = lv.ownBlock) w w' ∧ ∃ lv', RefIs w' b sv lv' (refWriteS R f i t) ∧ ∀ g, lv'.ownBlock = some g → lv.ownBlock = some g ∨ w.heap.size ≤ g := by
  cases hh : hasB R.fs f i
  · have e1 : writeE R.fs f i t = 2 := by unfold writeE; rw [hh]; rfl
    have e2 : refWriteS R f i t = R := by unfold refWriteS; rw [hh]; rfl
    rw [e1, e2]
    clear e1 e2
    go_enter Try.func14, Try.ntmps14
    go_wp2_with fail
    refine (refHas_any b sv lv R f i _ (h.keepN (Mod.alloc' _ _ _))).mono ?_
    rw [hh]
    clear hh
    rintro e w1 ⟨rfl, hm1⟩
    go_wp2_with fail
    go_ret
    exact ⟨rfl, ((Mod.alloc' _ _ _).trans hm1).mono (fun _ x => x.elim), lv, (h.keepN (Mod.alloc' _ _ _)).keepN hm1, fun g hg => .inl hg⟩
  · by_cases hs : t.size = 16
    · have e1 : writeE R.fs f i t = 0 := by unfold writeE; rw [hh, hs]; rfl
      have e2 : refWriteS R f i t = { R with L := R.L ++ [((f, i), t)] } := by unfold refWriteS; rw [hh, hs]; rfl
      rw [e1, e2]
      clear e1 e2
      have hs' : ((t.size : Int) != 16) = false := by simp [hs]
      clear hs
      go_enter Try.func14, Try.ntmps14
      go_wp2_with fail
      refine (refHas_any b sv lv R f i _ (h.keepN (Mod.alloc' _ _ _))).mono ?_
      rw [hh]
      clear hh
      rintro e w1 ⟨rfl, hm1⟩
      have h1 := (h.keepN (Mod.alloc' _ _ _)).keepN hm1
      have hbx := (Blk.new w #[.int .i64 f, .int .i64 i] 25).keep hm1 (fun x => x)
      have hbx0 := hbx.cell 0
      have hbx1 := hbx.cell 1
      simp only [List.getElem?_toArray, List.getElem?_cons_zero, List.getElem?_cons_succ] at hbx0 hbx1
      have hb := h1.blk
      have hb0 := hb.cell 0
      have hb1 := hb.cell 1
      simp only [List.getElem?_toArray, List.getElem?_cons_zero, List.getElem?_cons_succ] at hb0 hb1
      have hbf := hb.frozen 1
      have hbl := hb.lt
      have hwl := hbx.lt
      have hne : b ≠ w.heap.size := by have := h.blk.lt; omega
      have hgb : ∀ g, lv.ownBlock = some g → g ≠ b := ownsRow_ne_blk h1.pgs hb (by decide)
      have hwg : ∀ g, lv.ownBlock = some g → g ≠ w.heap.size := ownsRow_ne_blk h1.pgs hbx (by decide)
      have hgs : ∀ g, lv.ownBlock = some g → sv.ownBlock ≠ some g := fun g hg hg' => ownsRow_ne_row h1.pgs h1.own (by decide) g hg hg'
      go_wp2_with fail
      go_region_law ((refine step_app (by rfl) _ _ _ (by rfl) 0 52 _ 3 32 Try.underlying32 info_page rfl (by decide) (by decide) lv R.L.length _ (by rfl) ((h1.pgs.alloc _).drew) ⟨w1.heap.size, 0, none⟩ 1 [.int .i64 f, .int .i64 i, .string t] (by rfl) (by rfl) (World.news_of_block (cs := #[.int .i64 f, .int .i64 i, .string t]) (t := 52) (fr := (0, 0)) (heap_alloc_new w1 _)) (by simp [Value.oneCell']) (by omega) (by omega) ?_; intro g cap w2 o2 m2 hg2 hl2; have hb2 := hb.keep ((Mod.alloc' (fun e => some e = lv.ownBlock) w1 _).drew.trans m2) (fun e => hgb _ e.symm rfl); have hc2 := hb2.cell 1; simp only [List.getElem?_toArray, List.getElem?_cons_zero, List.getElem?_cons_succ] at hc2; have hf2 := hb2.frozen 1))
      all_goals
        go_wp2_with fail
        go_ret
        exact ⟨rfl, refWrite_end h1 ((Mod.alloc' _ _ _).trans hm1) o2 m2 hg2 hb2⟩
    · have e1 : writeE R.fs f i t = 1 := by unfold writeE; rw [hh]; simp [hs]
      have e2 : refWriteS R f i t = R := by unfold refWriteS; rw [hh]; simp [hs]
      rw [e1, e2]
      clear e1 e2
      have hs' : ((t.size : Int) != 16) = true := by rw [bne_iff_ne]; omega
      go_enter Try.func14, Try.ntmps14
      go_wp2_with fail
      refine (refHas_any b sv lv R f i _ (h.keepN (Mod.alloc' _ _ _))).mono ?_
      rw [hh]
      clear hh
      rintro e w1 ⟨rfl, hm1⟩
      go_wp2_with fail
      go_ret
      exact ⟨rfl, ((Mod.alloc' _ _ _).trans hm1).mono (fun _ x => x.elim), lv, (h.keepN (Mod.alloc' _ _ _)).keepN hm1, fun g hg => .inl hg⟩

theorem ecAct_len' (p : (Int × Int) × ByteArray) : (ecAct p).length = 3 := rfl

theorem lookL_append (k : Int × Int) (a b : List ((Int × Int) × ByteArray)) : lookL k (a ++ b) = match lookL k b with | some t => some t | none => lookL k a := by
  induction a with
  | nil => rw [List.nil_append]; cases lookL k b <;> rfl
  | cons e a ih =>
    rw [List.cons_append]
    simp only [lookL, ih]
    cases lookL k b <;> rfl

theorem lookL_drop {k k' : Int × Int} {t : ByteArray} {l : List ((Int × Int) × ByteArray)} {j : Nat} (hx : l[j]? = some (k', t)) (hn : lookL k (l.drop (j + 1)) = none) : lookL k (l.drop j) = if k' = k then some t else none := by
  obtain ⟨hj, he⟩ := List.getElem?_eq_some_iff.1 hx
  rw [List.drop_eq_getElem_cons hj, he]
  simp only [lookL, hn]

theorem lookL_at {k k' : Int × Int} {t : ByteArray} {l : List ((Int × Int) × ByteArray)} {j : Nat} (hx : l[j]? = some (k', t)) (hk : k' = k) (hn : lookL k (l.drop (j + 1)) = none) : lookL k l = some t := by
  have h := lookL_drop hx hn
  rw [if_pos hk] at h
  have h2 := lookL_append k (l.take j) (l.drop j)
  rw [List.take_append_drop, h] at h2
  exact h2

theorem lookL_back {k k' : Int × Int} {t : ByteArray} {l : List ((Int × Int) × ByteArray)} {j : Nat} (hx : l[j]? = some (k', t)) (hk : k' ≠ k) (hn : lookL k (l.drop (j + 1)) = none) : lookL k (l.drop j) = none := by
  rw [lookL_drop hx hn, if_neg hk]

set_option maxHeartbeats 1000000 in
theorem refRead_any (b : Nat) (sv lv : Value) (R : RS) (f i : Int) (w : World) (h : RefIs w b sv lv R) (hR : R.L.length ≤ 1000000) :
    Calls Try.prog 16 #[.pointer (some ⟨b, 0, none⟩), .agg #[.int .i64 f, .int .i64 i]] w fun e w' =>
      e = .returned (.tuple #[.string (refReadS R f i).1, .int .i64 (refReadS R f i).2]) ∧ Mod (fun _ => False) w w' := by
  cases hh : hasB R.fs f i
  · have e1 : refReadS R f i = (⟨#[]⟩, 2) := by unfold refReadS; rw [hh]; rfl
    rw [e1]
    clear e1
    go_enter Try.func16, Try.ntmps16
    go_wp2_with fail
    refine (refHas_any b sv lv R f i _ (h.keepN (Mod.alloc' _ _ _))).mono ?_
    rw [hh]
    clear hh
    rintro e w1 ⟨rfl, hm1⟩
    go_wp2_with fail
    go_ret2
    exact ⟨rfl, (Mod.alloc' _ _ _).trans hm1⟩
  · have e1 : refReadS R f i = match lookL (f, i) R.L with | some t => (t, 0) | none => (firstOf f i, 0) := by unfold refReadS; rw [hh]; rfl
    obtain ⟨p, hp⟩ : ∃ p, p = refReadS R f i := ⟨_, rfl⟩
    rw [← hp]
    rw [e1] at hp
    have HP := Lib.hid hp
    clear e1 hp
    obtain ⟨a, c, hlv, hcell⟩ : ∃ a c, lv = .slice a R.L.length c ∧ ∀ (j : Nat) (f' i' : Int) (t' : ByteArray), R.L[j]? = some ((f', i'), t') → ∃ g, a = some ⟨g, 0, none⟩ ∧
        w.cell? ⟨g, j * 3, none⟩ = some (.int .i64 f') ∧ w.cell? ⟨g, j * 3 + 1, none⟩ = some (.int .i64 i') ∧ w.cell? ⟨g, j * 3 + 2, none⟩ = some (.string t') := by
      have hp := h.pgs
      rcases hp.2 with ⟨h3, h4⟩ | ⟨g, cap, cur, h3, h5⟩
      · exact ⟨none, 0, by rw [h4]; exact h3, fun j f' i' t' hj => by
          have := (List.getElem?_eq_some_iff.1 hj).1
          omega⟩
      · refine ⟨some ⟨g, 0, none⟩, cap, h3, fun j f' i' t' hj => ⟨g, rfl, ?_⟩⟩
        have hjl := (List.getElem?_eq_some_iff.1 hj).1
        rw [h3] at hp
        have k0 := hp.cellAt (j * 3 + 0) (by omega)
        have k1 := hp.cellAt (j * 3 + 1) (by omega)
        have k2 := hp.cellAt (j * 3 + 2) (by omega)
        rw [flat_get ecAct_len' _ _ _ (by omega), hj] at k0 k1 k2
        exact ⟨k0, k1, k2⟩
    subst hlv
    go_enter Try.func16, Try.ntmps16
    go_wp2_with fail
    refine (refHas_any b sv _ R f i _ (h.keepN (Mod.alloc' _ _ _))).mono ?_
    rw [hh]
    clear hh
    rintro e w1 ⟨rfl, hm1⟩
    have hm01 : Mod (fun _ => False) w w1 := (Mod.alloc' _ _ _).trans hm1
    have hbx := (Blk.new w #[.int .i64 f, .int .i64 i] 25).keep hm1 (fun x => x)
    have hbx0 := hbx.cell 0
    have hbx1 := hbx.cell 1
    simp only [List.getElem?_toArray, List.getElem?_cons_zero, List.getElem?_cons_succ] at hbx0 hbx1
    have hb := h.blk.keep hm01 (fun x => x)
    have hb0 := hb.cell 0
    have hb1 := hb.cell 1
    simp only [List.getElem?_toArray, List.getElem?_cons_zero, List.getElem?_cons_succ] at hb0 hb1
    go_wp2_with fail
    go_loopw [6] (fun k wr => ∃ j : Nat, j ≤ R.L.length ∧ k = .int .i64 ((j : Int) - 1) ∧ lookL (f, i) (R.L.drop j) = none ∧ Mod (fun _ => False) w1 wr) (fun k _ => (intOf k + 1).toNat)
    case atStart => exact ⟨R.L.length, by omega, rfl, by rw [List.drop_length]; rfl, Mod.refl _ _⟩
    case round =>
      obtain ⟨j, hj, rfl, hlook, hmr⟩ := hrel
      have hbx := hbx.keep hmr (fun x => x)
      have hbx0 := hbx.cell 0
      have hbx1 := hbx.cell 1
      simp only [List.getElem?_toArray, List.getElem?_cons_zero, List.getElem?_cons_succ] at hbx0 hbx1
      have hb := hb.keep hmr (fun x => x)
      have hb0 := hb.cell 0
      have hb1 := hb.cell 1
      simp only [List.getElem?_toArray, List.getElem?_cons_zero, List.getElem?_cons_succ] at hb0 hb1
      match j, hj, hlook with
      | 0, _, hlook =>
        rw [List.drop_zero] at hlook
        obtain rfl : p = (firstOf f i, 0) := by rw [HP.out, hlook]
        clear hlook HP
        rw [show ((0 : Nat) : Int) - 1 = -1 from rfl]
        go_wp2_with fail
        refine (refFirst_any f i _).mono ?_
        rintro e w5 ⟨rfl, hm5⟩
        go_wp2_with fail
        go_ret2
        exact ⟨rfl, (hm01.trans hmr).trans hm5⟩
      | j + 1, hj, hlook =>
        rw [show ((j + 1 : Nat) : Int) - 1 = j from by omega]
        obtain ⟨f', i', t', hx⟩ : ∃ f' i' t', R.L[j]? = some ((f', i'), t') := ⟨_, _, _, List.getElem?_eq_getElem (by omega)⟩
        obtain ⟨g, rfl, hc0, hc1, hc2⟩ := hcell j f' i' t' hx
        have hr := hm01.trans hmr
        rw [← hr.cell (lt_of_cell hc0) (fun x => x)] at hc0
        rw [← hr.cell (lt_of_cell hc1) (fun x => x)] at hc1
        rw [← hr.cell (lt_of_cell hc2) (fun x => x)] at hc2
        have hj0 : j < R.L.length := by omega
        by_cases hk : (f', i') = (f, i)
        · have hl : lookL (f, i) R.L = some t' := lookL_at hx hk hlook
          simp only [Prod.mk.injEq] at hk
          obtain ⟨rfl, rfl⟩ := hk
          obtain rfl : p = (t', 0) := by rw [HP.out, hl]
          clear hl hlook hx hcell HP
          go_wp2_with fail
          go_quiet (fail)
          go_wp2_with fail
          go_ret2
          exact ⟨rfl, hr.drewN _⟩
        · have hl : lookL (f, i) (R.L.drop j) = none := lookL_back hx hk hlook
          have HL := Lib.hid hl
          clear hlook hx hcell hl
          have hk' : ¬ (f' = f ∧ i' = i) := fun h => hk (by rw [h.1, h.2])
          clear hk
          rcases (show f' ≠ f ∨ (f' = f ∧ i' ≠ i) by omega) with h | ⟨rfl, h⟩
          · have hb' : (f' == f) = false := by simp [h]
            clear hk'
            go_wp2_with fail
            go_quiet (fail)
            go_wp2_with fail
            go_roundw
            case rel => exact ⟨j, by omega, rfl, HL.out, hmr.drewN _⟩
            case measure => simp [intOf]
          · have hb' : (i' == i) = false := by simp [h]
            clear hk'
            go_wp2_with fail
            go_quiet (fail)
            go_wp2_with fail
            go_roundw
            case rel => exact ⟨j, by omega, rfl, HL.out, hmr.drewN _⟩
            case measure => simp [intOf]

def newR (sizes : List Int) : RS := { sizes := (newF sizes).sizes, L := [] }

/-- The answer's store half made. -/
def RNewRel (w : World) (sizes : List Int) (k : Nat) (wr : World) : Prop :=
  ∃ sv, Blk wr w.heap.size #[sv, .slice none 0 0] 34 ∧ wr.ownsRow w.heap.size 3 1 sv k (((newF sizes).sizes.take k).map (Value.int .i64)) ∧ Mod (fun _ => False) w wr ∧ w.heap.size + 1 ≤ wr.heap.size

theorem RNewRel.step {w wr w1 : World} {sizes : List Int} {k g cap : Nat} {sv : Value} {x : Int} (h1 : k < 32) (h2 : k < sizes.length) (hx : x = min (max (sizes.getD k 0) 0) 4096)
    (hown : wr.ownsRow w.heap.size 3 1 sv k (((newF sizes).sizes.take k).map (Value.int .i64))) (hmod : Mod (fun _ => False) w wr) (hsz : w.heap.size + 1 ≤ wr.heap.size)
    (hb : Blk wr w.heap.size #[sv, .slice none 0 0] 34)
    (o1 : w1.ownsRow w.heap.size 3 1 (.slice (some ⟨g, 0, none⟩) (k + 1) cap) (k + 1) (((newF sizes).sizes.take k).map (Value.int .i64) ++ [.int .i64 x]))
    (m1 : Mod (fun i => some i = sv.ownBlock) (wr.alloc (Obj.cells #[Value.int .i64 x] 3)).drew w1) (hg : sv.ownBlock = some g ∨ g = (wr.alloc (Obj.cells #[Value.int .i64 x] 3)).drew.heap.size) :
    RNewRel w sizes (k + 1) (w1.setCell ⟨w.heap.size, 0, none⟩ (.slice (some ⟨g, 0, none⟩) (k + 1) cap)) := by
  have hge := ownsRow_ge hown
  have hne := ownsRow_ne_blk hown hb (by decide)
  have hm1 := (Mod.alloc' (fun i => some i = sv.ownBlock) wr (Obj.cells #[Value.int .i64 x] 3)).drew.trans m1
  have hb1 := hb.keep hm1 (fun e => hne _ e.symm rfl)
  have hgb : g ≠ w.heap.size := by
    rcases hg with hg | hg
    · exact hne _ hg
    · rw [hg]; simp; omega
  refine ⟨.slice (some ⟨g, 0, none⟩) (k + 1) cap, hb1.set 0 _, ?_, ?_, ?_⟩
  · rw [newF_get sizes k h1 h2, List.map_append, List.map_cons, List.map_nil, ← hx]
    exact ownsRow_keep o1 (mod_setCell _ _ _ _) (fun i hi e => by injection hi with hi; simp only at hi; omega)
  · refine Mod.setCell (hmod.trans' hm1 (fun i hi e => ?_)) (.inr (Nat.le_refl _)) _
    have := hge i e.symm
    omega
  · have := hm1.size
    simp [World.setCell]; omega

set_option maxHeartbeats 1000000 in
theorem refNew_any (sizes : List Int) (v : Value) (w : World) (h : IntsAt w v sizes) :
    Calls Try.prog 9 #[v] w fun e w' => ∃ b sv, e = .returned (.pointer (some ⟨b, 0, none⟩)) ∧ Mod (fun _ => False) w w' ∧ RefIs w' b sv (.slice none 0 0) (newR sizes) ∧ w.heap.size ≤ b ∧ ∀ g, sv.ownBlock = some g → w.heap.size ≤ g := by
  obtain ⟨a, cap, rfl, hcap, hmax, hcell⟩ := h
  unfold maxLen at hmax
  go_enter Try.func9, Try.ntmps9
  go_wp2_with fail
  go_loopw [4] (fun i wr => ∃ k : Nat, k ≤ 32 ∧ k ≤ sizes.length ∧ i = .int .i64 k ∧ RNewRel w sizes k wr) (fun i _ => 32 - (intOf i).toNat)
  case atStart => exact ⟨0, by omega, by omega, rfl, .slice none 0 0, Blk.new w _ _, ⟨by simp, .inl ⟨rfl, rfl⟩⟩, Mod.alloc' _ _ _, by simp⟩
  case round =>
    obtain ⟨k, hk, hk2, rfl, sv, hb, hown, hmod, hsz⟩ := hrel
    by_cases hlt2 : k < sizes.length
    case neg =>
      obtain rfl : k = sizes.length := by omega
      have hd : decide (sizes.length < sizes.length) = false := by simp
      go_wp2_with fail
      go_ret
      have hl := newF_len sizes
      have hk' : (newF sizes).sizes.length = sizes.length := by omega
      rw [List.take_of_length_le (by omega)] at hown
      refine ⟨_, sv, rfl, hmod, ⟨hb, ?_, ⟨rfl, .inl ⟨rfl, rfl⟩⟩, ?_, ?_⟩, Nat.le_refl _, ownsRow_ge hown⟩
      · show World.ownsRow _ 0 _ 1 sv (newF sizes).sizes.length _
        rw [hk']
        exact ownsRow_base hown (by omega)
      · show (newF sizes).sizes.length ≤ 32
        omega
      · intro n hn
        simp only [newR, newF, List.mem_map] at hn
        obtain ⟨m, _, rfl⟩ := hn
        omega
    by_cases hlt : k < 32
    case neg =>
      obtain rfl : k = 32 := by omega
      have hd : decide (32 < (sizes.length : Int)) = true := by simp; omega
      rw [show ((32 : Nat) : Int) = 32 from rfl]
      go_wp2_with fail
      go_ret
      have hl := newF_len sizes
      have hk' : (newF sizes).sizes.length = 32 := by omega
      rw [List.take_of_length_le (by omega)] at hown
      refine ⟨_, sv, rfl, hmod, ⟨hb, ?_, ⟨rfl, .inl ⟨rfl, rfl⟩⟩, ?_, ?_⟩, Nat.le_refl _, ownsRow_ge hown⟩
      · show World.ownsRow _ 0 _ 1 sv (newF sizes).sizes.length _
        rw [hk']
        exact ownsRow_base hown (by omega)
      · show (newF sizes).sizes.length ≤ 32
        omega
      · intro n hn
        simp only [newR, newF, List.mem_map] at hn
        obtain ⟨m, _, rfl⟩ := hn
        omega
    have hd : decide (k < sizes.length) = true := by simp; omega
    have hd2 : decide ((k : Int) < 32) = true := by simp; omega
    obtain ⟨b, off, rfl, hc⟩ := hcell k (by omega)
    obtain ⟨x, hx⟩ : ∃ x, x = sizes.getD k 0 := ⟨_, rfl⟩
    rw [← hx] at hc
    have HX := Lib.hid hx
    clear hx hcell
    have hcr : wr.cell? ⟨b, off + k, none⟩ = some (.int .i64 x) := by
      rw [hmod.cell (lt_of_cell hc) (fun x => x)]; exact hc
    have hcl := lt_of_cell hcr
    have hbl := hb.lt
    have hc0 := hb.cell 0
    simp only [List.getElem?_toArray, List.getElem?_cons_zero] at hc0
    have hne := ownsRow_ne_blk hown hb (by decide)
    rcases (show x < 0 ∨ (0 ≤ x ∧ x ≤ 4096) ∨ 4096 < x by omega) with hx0 | hx0 | hx0
    · have hq1 : (if x < 0 then (0 : Int) else x) = 0 := if_pos (by omega)
      have hq2 : (if 4096 < 0 then (4096 : Int) else 0) = 0 := rfl
      go_wp2_with fail
      go_region_law ((refine step_app (by rfl) _ _ _ (by rfl) w.heap.size 3 (.int .i64 0) 1 8 Try.underlying22 info_int rfl (by decide) (by decide) sv k _ (by rfl) ((hown.alloc _).drew) ⟨wr.heap.size, 0, none⟩ 1 [.int .i64 0] (by rfl) (by rfl) (World.news_of_block (cs := #[.int .i64 0]) (t := 3) (fr := (0, 0)) (heap_alloc_new wr _)) (by simp [Value.oneCell']) (by omega) (by simp; omega) ?_; intro g cap1 w1 o1 m1 hg hlt1; have hb1 := hb.keep ((Mod.alloc' (fun i => some i = sv.ownBlock) wr (Obj.cells #[Value.int .i64 0] 3)).drew.trans m1) (fun e => hne _ e.symm rfl); have hc1 := hb1.cell 0; simp only [List.getElem?_toArray, List.getElem?_cons_zero] at hc1; have hf1 := hb1.frozen 0))
      all_goals
        go_wp2_with fail
        go_roundw
        case rel => exact ⟨k + 1, by omega, by omega, by go_num, RNewRel.step (by omega) (by omega) (by rw [← HX.out]; omega) hown hmod hsz hb o1 m1 hg⟩
        case measure => simp [intOf]; omega
    · have hq1 : (if x < 0 then (0 : Int) else x) = x := if_neg (by omega)
      have hq2 : (if 4096 < x then (4096 : Int) else x) = x := if_neg (by omega)
      go_wp2_with fail
      go_region_law ((refine step_app (by rfl) _ _ _ (by rfl) w.heap.size 3 (.int .i64 0) 1 8 Try.underlying22 info_int rfl (by decide) (by decide) sv k _ (by rfl) ((hown.alloc _).drew) ⟨wr.heap.size, 0, none⟩ 1 [.int .i64 x] (by rfl) (by rfl) (World.news_of_block (cs := #[.int .i64 x]) (t := 3) (fr := (0, 0)) (heap_alloc_new wr _)) (by simp [Value.oneCell']) (by omega) (by simp; omega) ?_; intro g cap1 w1 o1 m1 hg hlt1; have hb1 := hb.keep ((Mod.alloc' (fun i => some i = sv.ownBlock) wr (Obj.cells #[Value.int .i64 x] 3)).drew.trans m1) (fun e => hne _ e.symm rfl); have hc1 := hb1.cell 0; simp only [List.getElem?_toArray, List.getElem?_cons_zero] at hc1; have hf1 := hb1.frozen 0))
      all_goals
        go_wp2_with fail
        go_roundw
        case rel => exact ⟨k + 1, by omega, by omega, by go_num, RNewRel.step (by omega) (by omega) (by rw [← HX.out]; omega) hown hmod hsz hb o1 m1 hg⟩
        case measure => simp [intOf]; omega
    · have hq1 : (if x < 0 then (0 : Int) else x) = x := if_neg (by omega)
      have hq2 : (if 4096 < x then (4096 : Int) else x) = 4096 := if_pos (by omega)
      go_wp2_with fail
      go_region_law ((refine step_app (by rfl) _ _ _ (by rfl) w.heap.size 3 (.int .i64 0) 1 8 Try.underlying22 info_int rfl (by decide) (by decide) sv k _ (by rfl) ((hown.alloc _).drew) ⟨wr.heap.size, 0, none⟩ 1 [.int .i64 4096] (by rfl) (by rfl) (World.news_of_block (cs := #[.int .i64 4096]) (t := 3) (fr := (0, 0)) (heap_alloc_new wr _)) (by simp [Value.oneCell']) (by omega) (by simp; omega) ?_; intro g cap1 w1 o1 m1 hg hlt1; have hb1 := hb.keep ((Mod.alloc' (fun i => some i = sv.ownBlock) wr (Obj.cells #[Value.int .i64 4096] 3)).drew.trans m1) (fun e => hne _ e.symm rfl); have hc1 := hb1.cell 0; simp only [List.getElem?_toArray, List.getElem?_cons_zero] at hc1; have hf1 := hb1.frozen 0))
      all_goals
        go_wp2_with fail
        go_roundw
        case rel => exact ⟨k + 1, by omega, by omega, by go_num, RNewRel.step (by omega) (by omega) (by rw [← HX.out]; omega) hown hmod hsz hb o1 m1 hg⟩
        case measure => simp [intOf]; omega

end Go.Proofs.Ytdpjlkkpjnmdnaa
