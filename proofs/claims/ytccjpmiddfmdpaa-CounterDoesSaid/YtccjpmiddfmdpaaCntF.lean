/-
  How the arguments of this seat's laws are read (acts, chains); the document's example comes true; is there more than is looked at.
-/
import Derived.Test.YtccjpmiddfmdpaaCntP
import Derived.Test.YtccjpmiddfmdpaaLibF
namespace Go.Proofs.Ytccjpmiddfmdpaa
open Go.RowKit Go.ChangeShapes Go.WideShapes Go.ChangeAt

theorem own : ownKnob Try.prog.godebug = none := by kernel_rfl
theorem laidOut : laidOutB Try.prog = true := by kernel_rfl

/-- An act: what to do, a chain as a value and as numbers, a group, an amount. -/
structure CAct where
  k : Int
  v : Value
  ns : List Int
  g : Int
  n : Int

def ecAct (a : CAct) : List Value := [.int .i64 a.k, a.v, .int .i64 a.g, .int .i64 a.n]
theorem ecAct_len (a : CAct) : (ecAct a).length = 4 := rfl
def ec4 (p : Int × Value × Int × Int) : List Value := ecI p.1 ++ (ecV p.2.1 ++ (ecI p.2.2.1 ++ ecI p.2.2.2))

section
variable {H : Type} {enc : TypeId × Value → H} {w : World} {base : Nat} {spare : Nat → Bool} {held : Bool}
theorem dec_ints : Dec enc Try.prog w base spare held 30 ecV (fun v => ∃ xs, RowsAt ecI 1 w v xs ∧ ∀ x ∈ xs, (Lit.int .i64 x).wf = true) :=
  dec_slice 1 Try.underlying30 (by kernel_rfl) (fun _ => rfl) (by decide) (dec_int Try.underlying3)
theorem dec_act : Dec enc Try.prog w base spare held 32 ec4
    (fun p => (Lit.int .i64 p.1).wf = true ∧ (∃ xs, RowsAt ecI 1 w p.2.1 xs ∧ ∀ x ∈ xs, (Lit.int .i64 x).wf = true) ∧ (Lit.int .i64 p.2.2.1).wf = true ∧ (Lit.int .i64 p.2.2.2).wf = true) :=
  dec_struct4 Try.underlying32 (dec_int Try.underlying3) dec_ints (dec_int Try.underlying3) (dec_int Try.underlying3) 1 1 1 1 ⟨rfl, by kernel_rfl, rfl, by kernel_rfl, rfl, by kernel_rfl, rfl, by kernel_rfl, by kernel_rfl⟩

/-- The acts, each with its chain as numbers. -/
theorem acts_of {v : Value} {l : List (Int × Value × Int × Int)} (h : RowsAt ec4 4 w v l)
    (hg : ∀ p ∈ l, (Lit.int .i64 p.1).wf = true ∧ (∃ xs, RowsAt ecI 1 w p.2.1 xs ∧ ∀ x ∈ xs, (Lit.int .i64 x).wf = true) ∧ (Lit.int .i64 p.2.2.1).wf = true ∧ (Lit.int .i64 p.2.2.2).wf = true) :
    ∃ m : List CAct, RowsAt ecAct 4 w v m ∧ ∀ a ∈ m, IntsAt w a.v a.ns := by
  have hl : ∃ m : List CAct, m.map (fun a => (a.k, a.v, a.g, a.n)) = l ∧ ∀ a ∈ m, IntsAt w a.v a.ns := by
    clear h
    induction l with
    | nil => exact ⟨[], rfl, fun a ha => by cases ha⟩
    | cons p l ih =>
      obtain ⟨m, h1, h2⟩ := ih (fun q hq => hg q (List.mem_cons_of_mem _ hq))
      obtain ⟨_, ⟨xs, h3, _⟩, _⟩ := hg p List.mem_cons_self
      refine ⟨⟨p.1, p.2.1, xs, p.2.2.1, p.2.2.2⟩ :: m, by rw [List.map_cons, h1], fun a ha => ?_⟩
      rcases List.mem_cons.1 ha with rfl | ha
      · exact h3.ints
      · exact h2 a ha
  obtain ⟨m, rfl, h2⟩ := hl
  refine ⟨m, ?_, h2⟩
  obtain ⟨a, cap, h3, h4, h5, h6⟩ := h
  rw [List.length_map] at h3 h4
  exact ⟨a, cap, h3, h4, h5, fun j x hj => h6 j (x.k, x.v, x.g, x.n) (by rw [List.getElem?_map, hj]; rfl)⟩
end

theorem act_cells {w : World} {v : Value} {l : List CAct} (h : RowsAt ecAct 4 w v l) :
    ∃ a cap, v = .slice a l.length cap ∧ l.length ≤ cap ∧ cap ≤ maxLen ∧ ∀ (j : Nat) (x : CAct), l[j]? = some x → ∃ b off, a = some ⟨b, off, none⟩ ∧
      w.cell? ⟨b, off + j * 4, none⟩ = some (.int .i64 x.k) ∧ w.cell? ⟨b, off + j * 4 + 1, none⟩ = some x.v ∧ w.cell? ⟨b, off + j * 4 + 2, none⟩ = some (.int .i64 x.g) ∧ w.cell? ⟨b, off + j * 4 + 3, none⟩ = some (.int .i64 x.n) := by
  obtain ⟨a, cap, h1, h2, h3, h4⟩ := h
  refine ⟨a, cap, h1, h2, h3, fun j x hj => ?_⟩
  obtain ⟨b, off, h5, h6⟩ := h4 j _ hj
  exact ⟨b, off, h5, by simpa [ecAct] using h6 0 (by omega), by simpa [ecAct] using h6 1 (by omega), by simpa [ecAct] using h6 2 (by omega), by simpa [ecAct] using h6 3 (by omega)⟩

theorem ints_len {w : World} {v : Value} {ns : List Int} (h : IntsAt w v ns) : ∃ a cap, v = .slice a ns.length cap ∧ ns.length ≤ 9223372036854775807 := by
  obtain ⟨a, cap, h1, h2, h3, _⟩ := h
  unfold maxLen at h3
  exact ⟨a, cap, h1, by omega⟩

def overB (l : List CAct) : Bool := l.any (fun a => decide (80 < a.ns.length)) || decide (80 < l.length)

set_option maxHeartbeats 400000 in
theorem over_any (l : List CAct) (v : Value) (w : World) (h : RowsAt ecAct 4 w v l) (hg : ∀ a ∈ l, IntsAt w a.v a.ns) :
    Calls Try.prog 10 #[v] w fun e w' => e = .returned (.bool (overB l)) ∧ Mod (fun _ => False) w w' := by
  obtain ⟨a, cap, rfl, hcap, hmax, hcell⟩ := act_cells h
  unfold maxLen at hmax
  obtain ⟨r, hr⟩ : ∃ r, r = overB l := ⟨_, rfl⟩
  rw [← hr]
  have HR := Lib.hid hr
  clear hr
  go_enter Try.func10, Try.ntmps10
  go_wp2_with fail
  go_loop [3] (fun i => ∃ k : Nat, k ≤ l.length ∧ i = .int .i64 k ∧ ∀ a ∈ l.take k, ¬ 80 < a.ns.length) (fun i => l.length - (intOf i).toNat)
  case atStart => exact ⟨0, by omega, rfl, fun a ha => by simp at ha⟩
  case round =>
    obtain ⟨k, hk, rfl, hn⟩ := hrel
    by_cases hlt : k < l.length
    · obtain ⟨x, hx⟩ : ∃ x, l[k]? = some x := ⟨_, List.getElem?_eq_getElem hlt⟩
      have hmem := List.mem_of_getElem? hx
      obtain ⟨b, off, rfl, c0, c1, c2, c3⟩ := hcell k x hx
      obtain ⟨xa, xc, hxv, hxl⟩ := ints_len (hg x hmem)
      rw [hxv] at c1
      by_cases h80 : 80 < x.ns.length
      · obtain rfl : r = true := by
          rw [HR.out]; unfold overB
          rw [List.any_eq_true.2 ⟨x, hmem, by simp [h80]⟩]; rfl
        clear hn hx hmem hg hxv
        go_wp2_with fail
        go_ret
        exact ⟨rfl, Mod.refl _ _⟩
      · have hn1 : ∀ a ∈ l.take (k + 1), ¬ 80 < a.ns.length := by
          intro a ha
          rw [List.take_add_one, hx] at ha
          rcases List.mem_append.1 ha with ha | ha
          · exact hn a ha
          · simp at ha; subst ha; exact h80
        have HN := Lib.hid hn1
        clear hn hn1 hx hmem hg hxv
        go_wp2_with fail
        go_round
        case rel => exact ⟨k + 1, by omega, by go_num, HN.out⟩
        case measure => simp [intOf]; omega
    · obtain rfl : k = l.length := by omega
      rw [List.take_length] at hn
      obtain rfl : r = decide (80 < (l.length : Int)) := by
        rw [show decide (80 < (l.length : Int)) = decide (80 < l.length) from by rw [decide_eq_decide]; omega, HR.out]; unfold overB
        have e : l.any (fun a => decide (80 < a.ns.length)) = false := by
          rw [List.any_eq_false]; intro x hx; simp; have := hn x hx; omega
        rw [e, Bool.false_or]
      clear hn hg
      go_wp2_with fail
      go_ret
      exact ⟨rfl, Mod.refl _ _⟩

theorem ints_new3 (w : World) (x y z : Int) : IntsAt (w.alloc (.cells #[.int .i64 x, .int .i64 y, .int .i64 z] 3)) (.slice (some ⟨w.heap.size, 0, none⟩) 3 3) [x, y, z] := by
  refine ⟨_, 3, rfl, by simp, by simp [maxLen], fun j hj => ⟨w.heap.size, 0, rfl, ?_⟩⟩
  simp only [List.length_cons, List.length_nil] at hj
  rw [Nat.zero_add, (Blk.new w #[.int .i64 x, .int .i64 y, .int .i64 z] 3).cell]
  match j, hj with
  | 0, _ => rfl
  | 1, _ => rfl
  | 2, _ => rfl

theorem ints_new1 (w : World) (x : Int) : IntsAt (w.alloc (.cells #[.int .i64 x] 3)) (.slice (some ⟨w.heap.size, 0, none⟩) 1 1) [x] := by
  refine ⟨_, 1, rfl, by simp, by simp [maxLen], fun j hj => ⟨w.heap.size, 0, rfl, ?_⟩⟩
  simp only [List.length_cons, List.length_nil] at hj
  rw [Nat.zero_add, (Blk.new w #[.int .i64 x] 3).cell]
  match j, hj with
  | 0, _ => rfl

def exC1 : List Cnt := setLimS newC 1 3
def exC2 : List Cnt := tryS exC1 [2, 1, 0] 2
def exC3 : List Cnt := tryS exC2 [2, 1, 0] 2
def exC4 : List Cnt := giveS exC3 [0] 1
theorem exC_facts : setLimE 1 3 = 0 ∧ tryG exC1 [2, 1, 0] 2 = -1 ∧ tryE exC1 [2, 1, 0] 2 = 0 ∧ tryG exC2 [2, 1, 0] 2 = 1 ∧ tryE exC2 [2, 1, 0] 2 = 22 ∧ (ofS exC3 2).use = 2 ∧ (ofS exC3 1).limit = 3 ∧ (ofS exC3 1).failed = 1 ∧ (ofS exC3 0).peak = 2 ∧ giveE exC3 [0] 1 = 0 ∧ (ofS exC4 0).use = 1 := by decide +kernel

set_option maxHeartbeats 400000 in
theorem works_any (w : World) : Calls Try.prog 9 #[] w fun e w' => e = .returned (.bool true) ∧ Mod (fun _ => False) w w' := by
  obtain ⟨x1, x2, x3, x4, x5, x6, x7, x8, x9, x10, x11⟩ := exC_facts
  have hg1 : CGood 0 exC1 := setLim_good rfl (by decide) newC_good _ _
  have hl1 : exC1.length = 64 := setLimS_len _ _ _
  have hg2 : CGood 1 exC2 := try_good hl1 (by decide) hg1 _ _
  have hl2 : exC2.length = 64 := (tryS_len _ _ _).trans hl1
  have hg3 : CGood 2 exC3 := try_good hl2 (by decide) hg2 _ _
  have X1 := Lib.hid x1
  have X2 := Lib.hid x2
  have X3 := Lib.hid x3
  have X4 := Lib.hid x4
  have X5 := Lib.hid x5
  have X6 := Lib.hid x6
  have X7 := Lib.hid x7
  have X8 := Lib.hid x8
  have X9 := Lib.hid x9
  have X10 := Lib.hid x10
  have X11 := Lib.hid x11
  clear x1 x2 x3 x4 x5 x6 x7 x8 x9 x10 x11 hl1 hl2
  go_enter Try.func9, Try.ntmps9
  go_wp2_with fail
  refine (newC_any _).mono ?_
  rintro e w1 ⟨b, rfl, hm1, hc1, hb1⟩
  go_wp2_with fail
  refine (setLimit_any b newC 1 3 _ hc1).mono ?_
  rw [X1.out]
  rintro e w2 ⟨rfl, hm2, hc2⟩
  have hc2 : CntIs w2 b exC1 := hc2
  go_wp2_with fail
  refine (try_any b exC1 [2, 1, 0] _ 2 0 _ (hc2.keepN (Mod.alloc' _ _ _)) (ints_new3 _ 2 1 0) hg1 (by decide) (fun _ g hg => by injection hg with hg; simp only at hg; have := hc2.blk.lt; omega)).mono ?_
  rw [X2.out, X3.out]
  rintro e w3 ⟨rfl, hm3, hc3⟩
  have hc3 : CntIs w3 b exC2 := hc3
  go_wp2_with fail
  refine (try_any b exC2 [2, 1, 0] _ 2 1 _ (hc3.keepN (Mod.alloc' _ _ _)) (ints_new3 _ 2 1 0) hg2 (by decide) (fun _ g hg => by injection hg with hg; simp only at hg; have := hc3.blk.lt; omega)).mono ?_
  rw [X4.out, X5.out]
  rintro e w4 ⟨rfl, hm4, hc4⟩
  have hc4 : CntIs w4 b exC3 := hc4
  go_wp2_with fail
  refine (use_any b exC3 2 _ hc4).mono ?_
  rw [X6.out]
  rintro e w5 ⟨rfl, hm5⟩
  have hc5 := hc4.keepN hm5
  go_wp2_with fail
  refine (limit_any b exC3 1 _ hc5).mono ?_
  rw [X7.out]
  rintro e w6 ⟨rfl, hm6⟩
  have hc6 := hc5.keepN hm6
  go_wp2_with fail
  refine (failed_any b exC3 1 _ hc6).mono ?_
  rw [X8.out]
  rintro e w7 ⟨rfl, hm7⟩
  have hc7 := hc6.keepN hm7
  go_wp2_with fail
  refine (peak_any b exC3 0 _ hc7).mono ?_
  rw [X9.out]
  rintro e w8 ⟨rfl, hm8⟩
  have hc8 := hc7.keepN hm8
  go_wp2_with fail
  refine (give_any b exC3 [0] _ 1 2 _ (hc8.keepN (Mod.alloc' _ _ _)) (ints_new1 _ 0) hg3 (by decide) (fun _ g hg => by injection hg with hg; simp only at hg; have := hc8.blk.lt; omega)).mono ?_
  rw [X10.out]
  rintro e w9 ⟨rfl, hm9, hc9⟩
  have hc9 : CntIs w9 b exC4 := hc9
  go_wp2_with fail
  refine (use_any b exC4 0 _ hc9).mono ?_
  rw [X11.out]
  rintro e w10 ⟨rfl, hm10⟩
  go_wp2_with fail
  go_ret
  refine ⟨rfl, ?_⟩
  have s1 : Mod (fun _ => False) w w2 := hm1.trans' hm2 (fun i hi h => by omega)
  have s2 : Mod (fun _ => False) w w3 := (s1.alloc _).trans' hm3 (fun i hi h => by omega)
  have s3 : Mod (fun _ => False) w w4 := (s2.alloc _).trans' hm4 (fun i hi h => by omega)
  have s4 : Mod (fun _ => False) w w8 := (((s3.trans hm5).trans hm6).trans hm7).trans hm8
  have s5 : Mod (fun _ => False) w w9 := (s4.alloc _).trans' hm9 (fun i hi h => by omega)
  exact s5.trans hm10

end Go.Proofs.Ytccjpmiddfmdpaa
