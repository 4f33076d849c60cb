/-
  How the acts of the tree's laws are read; the document's example comes true; millpondref08's In.
-/
import Derived.Test.YtgndpoemgailcaaTreeE
import Derived.Test.YtgndpoemgailcaaLibF
namespace Go.Proofs.Ytgndpoemgailcaa
open Go.RowKit Go.ChangeShapes Go.WideShapes Go.ChangeAt

theorem own : ownKnob Try.prog.godebug = none := by kernel_rfl
theorem laidOut : laidOutB Try.prog = true := by kernel_rfl

def ec2 (p : Int × Bool) : List Value := ecI p.1 ++ ecB p.2
theorem ec2_len (p : Int × Bool) : (ec2 p).length = 2 := rfl

section
variable {H : Type} {enc : TypeId × Value → H} {w : World} {base : Nat} {spare : Nat → Bool} {held : Bool}
theorem dec_act : Dec enc Try.prog w base spare held 29 ec2 (fun p => (Lit.int .i64 p.1).wf = true ∧ True) :=
  dec_struct2 Try.underlying29 (dec_int Try.underlying3) (dec_bool Try.underlying4) 1 1 ⟨rfl, by kernel_rfl, rfl, by kernel_rfl, by kernel_rfl⟩
end

theorem act_cells {w : World} {v : Value} {l : List (Int × Bool)} (h : RowsAt ec2 2 w v l) :
    ∃ a cap, v = .slice a l.length cap ∧ l.length ≤ cap ∧ cap ≤ maxLen ∧ ∀ (j : Nat) (x : Int × Bool), l[j]? = some x → ∃ b off, a = some ⟨b, off, none⟩ ∧
      w.cell? ⟨b, off + j * 2, none⟩ = some (.int .i64 x.1) ∧ w.cell? ⟨b, off + j * 2 + 1, none⟩ = some (.bool x.2) := by
  obtain ⟨a, cap, h1, h2, h3, h4⟩ := h
  refine ⟨a, cap, h1, h2, h3, fun j x hj => ?_⟩
  obtain ⟨b, off, h5, h6⟩ := h4 j _ hj
  exact ⟨b, off, h5, by simpa [ec2, ecI, ecB] using h6 0 (by omega), by simpa [ec2, ecI, ecB] using h6 1 (by omega)⟩

/-- One act. -/
def actT (l : List Grp) (a : Int × Bool) : List Grp := if a.2 = true then remS l a.1 else addS l a.1

def exT1 : List Grp := addS newT 0
def exT2 : List Grp := addS exT1 1
theorem exT_facts : addG newT 0 = 1 ∧ addE newT 0 = 0 ∧ addG exT1 1 = 2 ∧ addE exT1 1 = 0 ∧ chainL exT2 2 = [2, 1, 0] ∧ belowL exT2 1 = [1, 2] ∧ kidsL exT2 0 = [1] ∧ depthL exT2 2 = 2 ∧ parL exT2 2 = 1 ∧ exT2.length = 3 ∧ liveB exT2 2 = true ∧ remE exT2 1 = 4 := by decide +kernel

set_option maxRecDepth 100000 in
set_option maxHeartbeats 1000000 in
theorem works_any (w : World) : Calls Try.prog 8 #[] w fun e w' => e = .returned (.bool true) ∧ Mod (fun _ => False) w w' := by
  obtain ⟨x1, x2, x3, x4, x5, x6, x7, x8, x9, x10, x11, x12⟩ := exT_facts
  have X1 := Lib.hid x1
  have X2 := Lib.hid x2
  have X3 := Lib.hid x3
  have X4 := Lib.hid x4
  have X5 := Lib.hid x5
  have X6 := Lib.hid x6
  have X7 := Lib.hid x7
  have X8 := Lib.hid x8
  have X9 := Lib.hid x9
  have X10 := Lib.hid x10
  have X11 := Lib.hid x11
  have X12 := Lib.hid x12
  clear x1 x2 x3 x4 x5 x6 x7 x8 x9 x10 x11 x12
  go_enter Try.func8, Try.ntmps8
  go_wp2_with fail
  refine (new_any _).mono ?_
  rintro e w1 ⟨b, g, c, rfl, hm1, hT1, hb1, hg1⟩
  go_wp2_with fail
  refine (add_any b g c newT 0 _ hT1).mono ?_
  rw [X1.out, X2.out]
  rintro e w2 ⟨g2, c2, rfl, hm2, hT2, hg2⟩
  have hT2 : TreeAt w2 b g2 c2 exT1 := hT2
  go_wp2_with fail
  refine (add_any b g2 c2 exT1 1 _ hT2).mono ?_
  rw [X3.out, X4.out]
  rintro e w3 ⟨g3, c3, rfl, hm3, hT3, hg3⟩
  have hT3 : TreeAt w3 b g3 c3 exT2 := hT3
  go_wp2_with fail
  refine (chain_any b g3 c3 exT2 2 _ hT3).mono ?_
  rw [X5.out]
  rintro e w4 ⟨v4, rfl, hm4, hi4⟩
  obtain ⟨a4, k4, rfl, _⟩ := id hi4
  obtain ⟨b4, o4, rfl, q4⟩ := intsAt_get hi4 (j := 0) rfl
  rw [Nat.add_zero] at q4
  have hT4 := hT3.keepN hm4
  go_wp2_with fail
  refine (below_any b g3 c3 exT2 1 _ hT4).mono ?_
  rw [X6.out]
  rintro e w5 ⟨v5, rfl, hm5, hi5⟩
  obtain ⟨a5, k5, rfl, _⟩ := id hi5
  obtain ⟨b5, o5, rfl, q5⟩ := intsAt_get hi5 (j := 1) rfl
  have hT5 := hT4.keepN hm5
  go_wp2_with fail
  refine (kids_any b g3 c3 exT2 0 _ hT5).mono ?_
  rw [X7.out]
  rintro e w6 ⟨v6, rfl, hm6, hi6⟩
  obtain ⟨a6, k6, rfl, _⟩ := id hi6
  have hT6 := hT5.keepN hm6
  have q4' := (hm5.trans hm6).keeps q4 (fun x => x)
  have q5' := hm6.keeps q5 (fun x => x)
  go_wp2_with fail
  refine (depth_any b g3 c3 exT2 2 _ hT6).mono ?_
  rw [X8.out]
  rintro e w7 ⟨rfl, hm7⟩
  have hT7 := hT6.keepN hm7
  go_wp2_with fail
  refine (parent_any b g3 c3 exT2 2 _ hT7).mono ?_
  rw [X9.out]
  rintro e w8 ⟨rfl, rfl⟩
  go_wp2_with fail
  refine (len_any b g3 c3 exT2 _ hT7).mono ?_
  rw [X10.out]
  rintro e w8 ⟨rfl, rfl⟩
  go_wp2_with fail
  refine (live_any b g3 c3 exT2 2 _ hT7).mono ?_
  rw [X11.out]
  rintro e w8 ⟨rfl, rfl⟩
  go_wp2_with fail
  refine (remove_any b g3 c3 exT2 1 _ hT7).mono ?_
  rw [X12.out]
  rintro e w9 ⟨rfl, hm9, _⟩
  go_wp2_with fail
  go_ret
  have s1 := hm1.size
  have s2 := hm2.size
  refine ⟨rfl, ?_⟩
  have t1 := (hm1.trans' hm2 (fun i hi h => by omega)).trans' hm3 (fun i hi h => by omega)
  exact (t1.trans (((hm4.trans hm5).trans hm6).trans hm7)).trans' hm9 (fun i hi h => by omega)

set_option maxHeartbeats 400000 in
theorem in_any (ns : List Int) (v : Value) (n : Int) (w : World) (h : IntsAt w v ns) :
    Calls Try.prog 29 #[v, .int .i64 n] w fun e w' => e = .returned (.bool (decide (n ∈ ns))) ∧ w = w' := by
  obtain ⟨a, cap, rfl, hcap, hmax, _⟩ := id h
  unfold maxLen at hmax
  obtain ⟨r, hr⟩ : ∃ r, r = decide (n ∈ ns) := ⟨_, rfl⟩
  rw [← hr]
  have HR := Lib.hid hr
  clear hr
  go_enter Try.func29, Try.ntmps29
  go_wp2_with fail
  go_loop [5] (fun i => ∃ k : Nat, k ≤ ns.length ∧ i = .int .i64 k ∧ n ∉ ns.take k) (fun i => ns.length - (intOf i).toNat)
  case atStart => exact ⟨0, by omega, rfl, by simp⟩
  case round =>
    obtain ⟨k, hk, rfl, hn⟩ := hrel
    by_cases hlt : k < ns.length
    · obtain ⟨x, hx⟩ : ∃ x, ns[k]? = some x := ⟨_, List.getElem?_eq_getElem hlt⟩
      obtain ⟨b, off, rfl, hc0⟩ := intsAt_get h hx
      by_cases hxn : x = n
      · have hd : (x == n) = true := by rw [beq_iff_eq]; exact hxn
        subst hxn
        obtain rfl : r = true := HR.out.trans (decide_eq_true (List.mem_of_getElem? hx))
        clear hn hx h
        go_wp2_with fail
        go_ret
        exact ⟨rfl, rfl⟩
      · have hd : (x == n) = false := by rw [beq_eq_false_iff_ne]; exact hxn
        have hn1 : n ∉ ns.take (k + 1) := by
          rw [take_succ_get hx]
          simp only [List.mem_append, List.mem_singleton, not_or]
          exact ⟨hn, fun e => hxn e.symm⟩
        have HN := Lib.hid hn1
        have HH := Lib.hid h
        clear hn hn1 hx hxn h
        go_wp2_with fail
        go_round
        case rel => exact ⟨k + 1, by omega, by go_num, HN.out⟩
        case measure => simp [intOf]; omega
    · obtain rfl : k = ns.length := by omega
      rw [List.take_length] at hn
      obtain rfl : r = false := HR.out.trans (decide_eq_false hn)
      clear hn h
      go_wp2_with fail
      go_ret
      exact ⟨rfl, rfl⟩

end Go.Proofs.Ytgndpoemgailcaa
