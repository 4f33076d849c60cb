/-
  Contracts: slices.Index, slices.Contains; Below and Kids, with their closures; Parent, Len.
-/
import Derived.Test.YtjmcfodlhhndoaaTreeB
namespace Go.Proofs.Ytjmcfodlhhndoaa
open Go.RowKit Go.Shelf

theorem intsAt_get {w : World} {a : Option Addr} {k c : Nat} {ns : List Int} (h : IntsAt w (.slice a k c) ns) {j : Nat} {n : Int} (hj : ns[j]? = some n) : ∃ b off, a = some ⟨b, off, none⟩ ∧ w.cell? ⟨b, off + j, none⟩ = some (.int .i64 n) := by
  obtain ⟨a', cap, h1, h2, h3, h4⟩ := h
  injection h1 with e1 e2 e3
  subst e1
  have hlt := (List.getElem?_eq_some_iff.1 hj).1
  obtain ⟨b, off, h5, h6⟩ := h4 j hlt
  refine ⟨b, off, h5, ?_⟩
  rw [h6, List.getD_eq_getElem?_getD, hj]
  rfl

theorem take_succ_get {α : Type} {l : List α} {k : Nat} {x : α} (h : l[k]? = some x) : l.take (k + 1) = l.take k ++ [x] := by
  rw [List.take_add_one, h]; rfl

/-- Where a number stands first, or -1. -/
def indexL (ns : List Int) (n : Int) : Int := if n ∈ ns then (ns.idxOf n : Int) else -1

theorem indexL_at {ns : List Int} {n : Int} {k : Nat} (h : n ∉ ns.take k) (hk : ns[k]? = some n) : indexL ns n = k := by
  unfold indexL
  rw [if_pos (List.mem_of_getElem? hk)]
  have hlt := (List.getElem?_eq_some_iff.1 hk).1
  have e : ns = ns.take k ++ (n :: ns.drop (k + 1)) := by
    have h1 := (List.getElem?_eq_some_iff.1 hk).2
    rw [← h1, ← List.drop_eq_getElem_cons hlt, List.take_append_drop]
  rw [e, List.idxOf_append, if_neg h, List.idxOf_cons_self, List.length_take]
  omega

theorem indexL_nonneg (ns : List Int) (n : Int) : decide (0 ≤ indexL ns n) = decide (n ∈ ns) := by
  unfold indexL
  by_cases h : n ∈ ns
  · simp [h]
  · simp [h]

set_option maxHeartbeats 400000 in
theorem index_any (ns : List Int) (v : Value) (n : Int) (w : World) (h : IntsAt w v ns) :
    Calls Try.prog 27 #[v, .int .i64 n] w fun e w' => e = .returned (.int .i64 (indexL ns n)) ∧ w = w' := by
  obtain ⟨a, cap, rfl, hcap, hmax, _⟩ := id h
  unfold maxLen at hmax
  obtain ⟨r, hr⟩ : ∃ r, r = indexL ns n := ⟨_, rfl⟩
  rw [← hr]
  have HR := Lib.hid hr
  clear hr
  go_enter Try.func27, Try.ntmps27
  go_wp2_with fail
  go_loop [8] (fun i => ∃ k : Nat, k ≤ ns.length ∧ i = .int .i64 k ∧ n ∉ ns.take k) (fun i => ns.length - (intOf i).toNat)
  case atStart => exact ⟨0, by omega, rfl, by simp⟩
  case round =>
    obtain ⟨k, hk, rfl, hn⟩ := hrel
    by_cases hlt : k < ns.length
    · obtain ⟨x, hx⟩ : ∃ x, ns[k]? = some x := ⟨_, List.getElem?_eq_getElem hlt⟩
      obtain ⟨b, off, rfl, hc0⟩ := intsAt_get h hx
      by_cases hxn : n = x
      · have hd : (n == x) = true := by rw [beq_iff_eq]; exact hxn
        subst hxn
        obtain rfl : r = k := HR.out.trans (indexL_at hn hx)
        clear hn hx h
        go_wp2_with fail
        go_ret
        exact ⟨rfl, rfl⟩
      · have hd : (n == x) = false := by rw [beq_eq_false_iff_ne]; exact hxn
        have hn1 : n ∉ ns.take (k + 1) := by
          rw [take_succ_get hx]
          simp only [List.mem_append, List.mem_singleton, not_or]
          exact ⟨hn, hxn⟩
        have HN := Lib.hid hn1
        have HH := Lib.hid h
        clear hn hn1 hx hxn h
        go_wp2_with fail
        go_round
        case rel => exact ⟨k + 1, by omega, by go_num, HN.out⟩
        case measure => simp [intOf]; omega
    · obtain rfl : k = ns.length := by omega
      rw [List.take_length] at hn
      obtain rfl : r = -1 := by rw [HR.out]; unfold indexL; rw [if_neg hn]
      clear hn h
      go_wp2_with fail
      go_ret
      exact ⟨rfl, rfl⟩

set_option maxHeartbeats 400000 in
theorem contains_any (ns : List Int) (v : Value) (n : Int) (w : World) (h : IntsAt w v ns) :
    Calls Try.prog 26 #[v, .int .i64 n] w fun e w' => e = .returned (.bool (decide (n ∈ ns))) ∧ w = w' := by
  obtain ⟨a, cap, rfl, _⟩ := id h
  obtain ⟨r, hr⟩ : ∃ r, r = decide (n ∈ ns) := ⟨_, rfl⟩
  rw [← hr]
  rw [← indexL_nonneg] at hr
  have HR := Lib.hid hr
  clear hr
  go_enter Try.func26, Try.ntmps26
  go_wp2_with fail
  refine (index_any ns _ n _ h).mono ?_
  rintro e w1 ⟨rfl, rfl⟩
  clear h
  go_wp2_with fail
  go_ret
  rw [HR.out]
  exact ⟨rfl, rfl⟩

set_option maxHeartbeats 1000000 in
/-- Below's closure. -/
theorem below1_any (b g c : Nat) (l : List Grp) (n x : Int) (tb gb : Nat) (w : World) (h : TreeAt w b g c l)
    (htb : Blk w tb #[.pointer (some ⟨b, 0, none⟩)] 26) (hgb : Blk w gb #[.int .i64 n] 3) :
    Calls Try.prog 33 #[.int .i64 x, .pointer (some ⟨tb, 0, none⟩), .pointer (some ⟨gb, 0, none⟩)] w fun e w' => e = .returned (.bool (decide (n ∈ chainL l x))) ∧ Mod (fun _ => False) w w' := by
  have ct := htb.cell 0
  have cg := hgb.cell 0
  simp only [List.getElem?_toArray, List.getElem?_cons_zero] at ct cg
  go_enter Try.func33, Try.ntmps33
  go_wp2_with fail
  go_region_held3 (fun w' => w'.cell? ⟨tb, 0, none⟩ = some (.pointer (some ⟨b, 0, none⟩)) ∧ w'.cell? ⟨gb, 0, none⟩ = some (.int .i64 n)) (first | exact ⟨ct, cg⟩ | exact ⟨q1, q2⟩) (first | (go_at_call 20; refine (chain_any b g c l x _ (h.keepN (Mod.refl _ _).drew)).mono ?_; rintro e w2 ⟨v, rfl, hm2', hi⟩; have hm2 : Mod (fun _ => False) w w2 := (Mod.refl _ _).drew.trans hm2'; have q1 := hm2.keeps ct (fun x => x); have q2 := hm2.keeps cg (fun x => x)) | (go_at_call 26; refine (contains_any _ _ n _ hi).mono ?_; rintro e w3 ⟨rfl, rfl⟩))
  go_wp2_with fail
  go_ret
  exact ⟨rfl, hm2⟩

end Go.Proofs.Ytjmcfodlhhndoaa
