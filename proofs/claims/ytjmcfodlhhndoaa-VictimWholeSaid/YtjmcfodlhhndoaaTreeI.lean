/-
  The contract of millpondref08's In.
-/
import Derived.Test.YtjmcfodlhhndoaaTreeC
namespace Go.Proofs.Ytjmcfodlhhndoaa
open Go.RowKit

set_option maxHeartbeats 400000 in
theorem in_any (ns : List Int) (v : Value) (n : Int) (w : World) (h : IntsAt w v ns) :
    Calls Try.prog 19 #[v, .int .i64 n] w fun e w' => e = .returned (.bool (decide (n ∈ ns))) ∧ w = w' := by
  obtain ⟨a, cap, rfl, hcap, hmax, _⟩ := id h
  unfold maxLen at hmax
  obtain ⟨r, hr⟩ : ∃ r, r = decide (n ∈ ns) := ⟨_, rfl⟩
  rw [← hr]
  have HR := Lib.hid hr
  clear hr
  go_enter Try.func19, Try.ntmps19
  go_wp2_with fail
  go_loop [5] (fun i => ∃ k : Nat, k ≤ ns.length ∧ i = .int .i64 k ∧ n ∉ ns.take k) (fun i => ns.length - (intOf i).toNat)
  case atStart => exact ⟨0, by omega, rfl, by simp⟩
  case round =>
    obtain ⟨k, hk, rfl, hn⟩ := hrel
    by_cases hlt : k < ns.length
    · obtain ⟨x, hx⟩ : ∃ x, ns[k]? = some x := ⟨_, List.getElem?_eq_getElem hlt⟩
      obtain ⟨b, off, rfl, hc0⟩ := intsAt_get h hx
      by_cases hxn : x = n
      · have hd : (x == n) = true := by rw [beq_iff_eq]; exact hxn
        subst hxn
        obtain rfl : r = true := HR.out.trans (decide_eq_true (List.mem_of_getElem? hx))
        clear hn hx h
        go_wp2_with fail
        go_ret
        exact ⟨rfl, rfl⟩
      · have hd : (x == n) = false := by rw [beq_eq_false_iff_ne]; exact hxn
        have hn1 : n ∉ ns.take (k + 1) := by
          rw [take_succ_get hx]
          simp only [List.mem_append, List.mem_singleton, not_or]
          exact ⟨hn, fun e => hxn e.symm⟩
        have HN := Lib.hid hn1
        have HH := Lib.hid h
        clear hn hn1 hx hxn h
        go_wp2_with fail
        go_round
        case rel => exact ⟨k + 1, by omega, by go_num, HN.out⟩
        case measure => simp [intOf]; omega
    · obtain rfl : k = ns.length := by omega
      rw [List.take_length] at hn
      obtain rfl : r = false := HR.out.trans (decide_eq_false hn)
      clear hn h
      go_wp2_with fail
      go_ret
      exact ⟨rfl, rfl⟩

end Go.Proofs.Ytjmcfodlhhndoaa
