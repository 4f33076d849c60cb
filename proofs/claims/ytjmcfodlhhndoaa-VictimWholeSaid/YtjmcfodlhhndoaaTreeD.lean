/-
  Contracts: Below, Kids, Parent, Len, New, Add, Remove.
-/
import Derived.Test.YtjmcfodlhhndoaaTreeC
namespace Go.Proofs.Ytjmcfodlhhndoaa
open Go.RowKit Go.Shelf

/-- Those among the first k. -/
def thoseK (l : List Grp) (p : Int → Bool) (k : Nat) : List Int := ((List.range k).map (fun (i : Nat) => (i : Int))).filter (fun i => liveB l i && p i)
theorem thoseK_all (l : List Grp) (p : Int → Bool) : thoseK l p l.length = thoseL l p := rfl
theorem thoseK_succ (l : List Grp) (p : Int → Bool) (k : Nat) : thoseK l p (k + 1) = thoseK l p k ++ (if liveB l k && p k then [(k : Int)] else []) := by
  unfold thoseK
  rw [List.range_succ, List.map_append, List.filter_append]
  congr 1
  simp only [List.map_cons, List.map_nil, List.filter_cons, List.filter_nil]
theorem thoseK_le (l : List Grp) (p : Int → Bool) (k : Nat) : (thoseK l p k).length ≤ k := by
  unfold thoseK
  exact Nat.le_trans (List.length_filter_le _ _) (by simp)

set_option maxHeartbeats 1000000 in
theorem thoseBelow_any (b g c : Nat) (l : List Grp) (n : Int) (tb gb : Nat) (w : World) (h : TreeAt w b g c l)
    (htb : Blk w tb #[.pointer (some ⟨b, 0, none⟩)] 26) (hgb : Blk w gb #[.int .i64 n] 3) :
    Calls Try.prog 32 #[.pointer (some ⟨b, 0, none⟩), .func (.func 33) #[] #[.pointer (some ⟨tb, 0, none⟩), .pointer (some ⟨gb, 0, none⟩)]] w fun e w' =>
      ∃ v, e = .returned v ∧ Mod (fun _ => False) w w' ∧ w'.ownsRow w.heap.size 3 1 v (thoseL l (fun x => decide (n ∈ chainL l x))).length ((thoseL l (fun x => decide (n ∈ chainL l x))).map encI) := by
  have hb := h.head
  have hl64 := h.good.le
  go_enter Try.func32, Try.ntmps32
  go_wp2_with fail
  obtain ⟨wo, rfl⟩ : ∃ wo : World, wo = w := ⟨_, rfl⟩
  go_loopw [5, 12] (fun v i wr => ∃ k : Nat, k ≤ l.length ∧ i = .int .i64 k ∧ wr.ownsRow wo.heap.size 3 1 v (thoseK l (fun x => decide (n ∈ chainL l x)) k).length ((thoseK l (fun x => decide (n ∈ chainL l x)) k).map encI) ∧ Mod (fun _ => False) wo wr) (fun _ i _ => l.length - (intOf i).toNat)
  case atStart => exact ⟨0, by omega, rfl, ⟨rfl, .inl ⟨rfl, rfl⟩⟩, Mod.refl _ _⟩
  case round =>
    obtain ⟨k, hk, rfl, hown, hmr⟩ := hrel
    by_cases hlt : k < l.length
    · obtain ⟨x, hx⟩ : ∃ x, l[k]? = some x := ⟨_, List.getElem?_eq_getElem hlt⟩
      have hb2 := (h.keepN hmr).head
      obtain ⟨_, c1⟩ := (h.keepN hmr).cells hx
      have hsucc := thoseK_succ l (fun x => decide (n ∈ chainL l x)) k
      rw [live_of hx] at hsucc
      have hkle := thoseK_le l (fun x => decide (n ∈ chainL l x)) k
      have hkI : (k : Int) < l.length := by omega
      have hkN : 0 ≤ (k : Int) := by omega
      cases hxl : x.live with
      | false =>
        rw [hxl] at c1 hsucc
        rw [Bool.false_and, if_neg (by decide), List.append_nil] at hsucc
        rw [← hsucc] at hown
        clear hsucc hx hxl hb
        go_wp2_with fail
        go_roundw
        case rel => exact ⟨k + 1, by omega, by go_num, hown, hmr⟩
        case measure => simp [intOf]; omega
      | true =>
        rw [hxl] at c1 hsucc
        rw [Bool.true_and] at hsucc
        have HS := Lib.hid hsucc
        clear hsucc hx hxl hb
        have hcall := below1_any b g c l n k tb gb _ (h.keepN hmr) (htb.keep hmr (fun x => x)) (hgb.keep hmr (fun x => x))
        obtain ⟨r, hr⟩ : ∃ r, r = (fun x => decide (n ∈ chainL l x)) (k : Int) := ⟨_, rfl⟩
        dsimp only at hr
        rw [← hr] at hcall
        have HR := Lib.hid hr
        clear hr
        cases r with
        | false =>
          have hnext : thoseK l (fun x => decide (n ∈ chainL l x)) (k + 1) = thoseK l (fun x => decide (n ∈ chainL l x)) k := by rw [HS.out, ← HR.out]; simp
          rw [← hnext] at hown
          clear hnext
          go_wp2_with fail
          refine hcall.mono ?_
          clear hcall
          rintro e w2 ⟨rfl, hm2⟩
          go_wp2_with fail
          go_roundw
          case rel => exact ⟨k + 1, by omega, by go_num, ownsRow_keep hown hm2 (fun _ _ x => x), hmr.trans hm2⟩
          case measure => simp [intOf]; omega
        | true =>
          have hnext : thoseK l (fun x => decide (n ∈ chainL l x)) (k + 1) = thoseK l (fun x => decide (n ∈ chainL l x)) k ++ [(k : Int)] := by rw [HS.out, ← HR.out]; simp
          have HN := Lib.hid hnext
          clear hnext
          go_wp2_with fail
          refine hcall.mono ?_
          clear hcall
          rintro e w2 ⟨rfl, hm2⟩
          have hown2 := ownsRow_keep hown hm2 (fun _ _ x => x)
          have hs1 := hmr.size
          have hs2 := hm2.size
          go_wp2_with (at_builtin; refine wpList_app rfl _ _ 22 rfl wo.heap.size 3 (.int .i64 0) 1 8 Try.underlying22 info_int rfl (by decide) (by decide) _ _ _ rfl (hown2.alloc _) ⟨w2.heap.size, 0, none⟩ 1 [.int .i64 k] rfl rfl (cell_one_new _ _ _) (by simp [Value.oneCell']) (by omega) (by simp; omega) ?_; intro g1 cap1 w3 o3 m3 hg3 hlt3)
          have o4 : w3.ownsRow wo.heap.size 3 1 (.slice (some ⟨g1, 0, none⟩) ((thoseK l (fun x => decide (n ∈ chainL l x)) k).length + 1) cap1) (thoseK l (fun x => decide (n ∈ chainL l x)) (k + 1)).length ((thoseK l (fun x => decide (n ∈ chainL l x)) (k + 1)).map encI) := by
            rw [HN.out, List.map_append, List.length_append]; exact o3
          have m4 : Mod (fun _ => False) wo w3 := ((hmr.trans hm2).alloc _).trans' m3 (fun q hq e => by have := ownsRow_ge hown q e.symm; omega)
          go_roundw
          case rel => exact ⟨k + 1, by omega, by go_num, o4, m4⟩
          case measure => simp [intOf]; omega
    · obtain rfl : k = l.length := by omega
      rw [thoseK_all] at hown
      obtain ⟨a, c', rfl⟩ := ownsRow_form hown
      clear hb
      go_wp2_with fail
      go_ret
      exact ⟨_, rfl, hmr, hown⟩

set_option maxHeartbeats 1000000 in
theorem ownBelow_any (b g c : Nat) (l : List Grp) (n : Int) (w : World) (h : TreeAt w b g c l) :
    Calls Try.prog 18 #[.pointer (some ⟨b, 0, none⟩), .int .i64 n] w fun e w' => ∃ v, e = .returned v ∧ Mod (fun _ => False) w w' ∧ w'.ownsRow w.heap.size 3 1 v (if liveB l n = true then thoseL l (fun x => decide (n ∈ chainL l x)) else []).length ((if liveB l n = true then thoseL l (fun x => decide (n ∈ chainL l x)) else []).map encI) := by
  have b2 := Blk.new w #[.pointer (some ⟨b, 0, none⟩)] 26
  have m2 := Mod.alloc' (fun _ => False) w (.cells #[.pointer (some ⟨b, 0, none⟩)] 26)
  have b3 := Blk.new (w.alloc (.cells #[.pointer (some ⟨b, 0, none⟩)] 26)) #[.int .i64 n] 3
  have m3 := Mod.alloc' (fun _ => False) (w.alloc (.cells #[.pointer (some ⟨b, 0, none⟩)] 26)) (.cells #[.int .i64 n] 3)
  rw [World.size_alloc] at b3
  have hB2 := b2.keep m3 (fun x => x)
  have hm1 := m2.trans m3
  have hT := h.keepN hm1
  clear b2 m2 m3
  obtain ⟨xs, hxs⟩ : ∃ xs, xs = if liveB l n = true then thoseL l (fun x => decide (n ∈ chainL l x)) else [] := ⟨_, rfl⟩
  rw [← hxs]
  go_enter Try.func18, Try.ntmps18
  go_wp2_with fail
  refine (live_any b g c l n _ hT).mono ?_
  cases hl : liveB l n with
  | false =>
    rw [hl, if_neg (by decide)] at hxs
    subst hxs
    clear hl
    rintro e w2 ⟨rfl, rfl⟩
    go_wp2_with fail
    go_ret
    exact ⟨_, rfl, hm1, ⟨rfl, .inl ⟨rfl, rfl⟩⟩⟩
  | true =>
    rw [hl, if_pos rfl] at hxs
    subst hxs
    clear hl
    rintro e w2 ⟨rfl, rfl⟩
    go_wp2_with fail
    refine (thoseBelow_any b g c l n w.heap.size (w.heap.size + 1) _ hT hB2 b3).mono ?_
    rintro e w3 ⟨v, rfl, hm3, ho⟩
    obtain ⟨a, c', rfl⟩ := ownsRow_form ho
    go_wp2_with fail
    go_ret
    exact ⟨_, rfl, hm1.trans hm3, ownsRow_base ho (by simp; omega)⟩

/-- Below: the row is new, and can be read. -/
theorem below_any (b g c : Nat) (l : List Grp) (n : Int) (w : World) (h : TreeAt w b g c l) :
    Calls Try.prog 18 #[.pointer (some ⟨b, 0, none⟩), .int .i64 n] w fun e w' => ∃ v, e = .returned v ∧ Mod (fun _ => False) w w' ∧ IntsAt w' v (belowL l n) :=
  (ownBelow_any b g c l n w h).mono fun _ _ ⟨v, h1, h2, h3⟩ => ⟨v, h1, h2, ints_of_row h3⟩

end Go.Proofs.Ytjmcfodlhhndoaa
