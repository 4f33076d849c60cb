/-
  Contracts of millpondref08: it computes what package tree computes.
-/
import Derived.Test.YtjmcfodlhhndoaaTreeE
import Derived.Test.YtjmcfodlhhndoaaTreeI
import Derived.Test.YtjmcfodlhhndoaaLibF
import Derived.Test.YtjmcfodlhhndoaaTreeQ
namespace Go.Proofs.Ytjmcfodlhhndoaa
open Go.RowKit Go.ChangeShapes Go.WideShapes Go.ChangeAt

theorem info_bool : (Try.prog.info? 4).map (fun i => (i.zero, i.size, i.bytes)) = some (some (.bool false), 1, 1) := by kernel_rfl

def encU (x : Grp) : Value := .int .i64 x.up
def encL (x : Grp) : Value := .bool x.live

/-- Where the other tree lies. -/
structure RP where
  rb : Nat
  ub : Nat
  uc : Nat
  hb : Nat
  hc : Nat

structure RTreeAt (w : World) (R : RP) (l : List Grp) : Prop where
  blk : Blk w R.rb #[.slice (some ⟨R.ub, 0, none⟩) l.length R.uc, .slice (some ⟨R.hb, 0, none⟩) l.length R.hc] 66
  ups : w.ownsRow 0 3 1 (.slice (some ⟨R.ub, 0, none⟩) l.length R.uc) l.length (l.map encU)
  here : w.ownsRow 0 4 1 (.slice (some ⟨R.hb, 0, none⟩) l.length R.hc) l.length (l.map encL)
  good : TGood l

def RP.own (R : RP) (i : Nat) : Prop := i = R.rb ∨ i = R.ub ∨ i = R.hb

theorem RTreeAt.keep {S : Nat → Prop} {w w' : World} {R : RP} {l : List Grp} (h : RTreeAt w R l) (hm : Mod S w w') (hs : ∀ i, R.own i → ¬ S i) : RTreeAt w' R l :=
  ⟨h.blk.keep hm (hs _ (.inl rfl)), ownsRow_keep h.ups hm (fun x hx => by injection hx with hx; simp only at hx; subst hx; exact hs _ (.inr (.inl rfl))), ownsRow_keep h.here hm (fun x hx => by injection hx with hx; simp only at hx; subst hx; exact hs _ (.inr (.inr rfl))), h.good⟩
theorem RTreeAt.keepN {w w' : World} {R : RP} {l : List Grp} (h : RTreeAt w R l) (hm : Mod (fun _ => False) w w') : RTreeAt w' R l := h.keep hm (fun _ _ x => x)

theorem RTreeAt.head {w : World} {R : RP} {l : List Grp} (h : RTreeAt w R l) : w.cell? ⟨R.rb, 0, none⟩ = some (.slice (some ⟨R.ub, 0, none⟩) l.length R.uc) ∧ w.cell? ⟨R.rb, 1, none⟩ = some (.slice (some ⟨R.hb, 0, none⟩) l.length R.hc) := by
  rw [h.blk.cell, h.blk.cell]; exact ⟨rfl, rfl⟩

theorem RTreeAt.cells {w : World} {R : RP} {l : List Grp} (h : RTreeAt w R l) {k : Nat} {x : Grp} (hk : l[k]? = some x) :
    w.cell? ⟨R.ub, k, none⟩ = some (.int .i64 x.up) ∧ w.cell? ⟨R.hb, k, none⟩ = some (.bool x.live) := by
  have hlt := (List.getElem?_eq_some_iff.1 hk).1
  have h0 := h.ups.cellAt k (by omega)
  have h1 := h.here.cellAt k (by omega)
  rw [List.getElem?_map, hk] at h0 h1
  exact ⟨h0, h1⟩

theorem RTreeAt.ne {w : World} {R : RP} {l : List Grp} (h : RTreeAt w R l) : R.ub ≠ R.rb ∧ R.hb ≠ R.rb ∧ R.ub ≠ R.hb :=
  ⟨ownsRow_ne_blk h.ups h.blk (by decide) _ rfl, ownsRow_ne_blk h.here h.blk (by decide) _ rfl, fun e => ownsRow_ne_row h.ups h.here (by decide) R.ub rfl (by rw [e]; rfl)⟩

set_option maxHeartbeats 400000 in
theorem refLive_any (R : RP) (l : List Grp) (n : Int) (w : World) (h : RTreeAt w R l) :
    Calls Try.prog 37 #[.pointer (some ⟨R.rb, 0, none⟩), .int .i64 n] w fun e w' => e = .returned (.bool (liveB l n)) ∧ w = w' := by
  obtain ⟨hb0, hb1⟩ := h.head
  by_cases h0 : 0 ≤ n
  · by_cases h1 : n < l.length
    · obtain ⟨k, rfl⟩ : ∃ k : Nat, n = k := ⟨n.toNat, by omega⟩
      obtain ⟨x, hx⟩ : ∃ x, l[k]? = some x := ⟨_, List.getElem?_eq_getElem (by omega)⟩
      obtain ⟨c0, c1⟩ := h.cells hx
      rw [live_of hx]
      clear hx
      have d0 : decide (0 ≤ (k : Int)) = true := by simp
      have d1 : decide ((k : Int) < l.length) = true := by simp; omega
      go_enter Try.func37, Try.ntmps37
      go_wp2_with fail
      go_ret
      exact ⟨rfl, rfl⟩
    · rw [live_out (by omega)]
      have d0 : decide (0 ≤ n) = true := by simp [h0]
      have d1 : decide (n < l.length) = false := by simp; omega
      go_enter Try.func37, Try.ntmps37
      go_wp2_with fail
      go_ret
      exact ⟨rfl, rfl⟩
  · rw [live_neg (by omega)]
    have d0 : decide (0 ≤ n) = false := by simp; omega
    go_enter Try.func37, Try.ntmps37
    go_wp2_with fail
    go_ret
    exact ⟨rfl, rfl⟩

set_option maxHeartbeats 1000000 in
theorem refChain_any (R : RP) (l : List Grp) (n : Int) (w : World) (h : RTreeAt w R l) :
    Calls Try.prog 30 #[.pointer (some ⟨R.rb, 0, none⟩), .int .i64 n] w fun e w' => ∃ v, e = .returned v ∧ Mod (fun _ => False) w w' ∧ IntsAt w' v (chainL l n) := by
  obtain ⟨xs, hxs⟩ : ∃ xs, xs = chainL l n := ⟨_, rfl⟩
  rw [← hxs]
  have hle : xs.length ≤ 8 := by rw [hxs]; exact chain_le h.good n
  have hG := h.good
  cases hl : liveB l n with
  | false =>
    rw [chain_dead hl] at hxs
    subst hxs
    go_enter Try.func30, Try.ntmps30
    go_wp2_with fail
    refine (refLive_any R l n _ h).mono ?_
    rw [hl]
    clear hl
    rintro e w1 ⟨rfl, rfl⟩
    go_wp2_with fail
    go_ret
    exact ⟨_, rfl, Mod.refl _ _, ints_of_row (base := 0) ⟨rfl, .inl ⟨rfl, rfl⟩⟩⟩
  | true =>
    rw [chain_live hl] at hxs
    have HX := Lib.hid hxs
    have HL := Lib.hid hl
    clear hxs
    go_enter Try.func30, Try.ntmps30
    go_wp2_with fail
    refine (refLive_any R l n _ h).mono ?_
    rw [hl]
    clear hl
    rintro e w1 ⟨rfl, rfl⟩
    go_wp2_with fail
    obtain ⟨wo, rfl⟩ : ∃ wo : World, wo = w := ⟨_, rfl⟩
    go_loopw [1, 5] (fun gv v wr => ∃ (pre : List Int) (m : Int), gv = .int .i64 m ∧ xs = pre ++ ups l m ∧ (m = -1 ∨ liveB l m = true) ∧ wr.ownsRow wo.heap.size 3 1 v pre.length (pre.map encI) ∧ Mod (fun _ => False) wo wr) (fun gv _ _ => (intOf gv + 1).toNat)
    case atStart => exact ⟨[], n, rfl, HX.out, .inr HL.out, ⟨rfl, .inl ⟨rfl, rfl⟩⟩, Mod.refl _ _⟩
    case round =>
      obtain ⟨pre, m, rfl, hx, hm, hown, hmr⟩ := hrel
      rcases hm with rfl | hml
      · rw [ups_neg (by decide), List.append_nil] at hx
        subst hx
        have d0 : decide ((0 : Int) ≤ -1) = false := by decide
        obtain ⟨a, c', rfl⟩ := ownsRow_form hown
        go_wp2_with fail
        go_ret
        exact ⟨_, rfl, hmr, ints_of_row hown⟩
      · obtain ⟨hcons, hnext⟩ := ups_live_cons hG hml
        have hr := h.keepN hmr
        obtain ⟨hb0, hb1⟩ := hr.head
        obtain ⟨x, k, rfl, hk, hxk, hxl⟩ := live_get hml
        rw [upOf_of hxk] at hcons hnext
        obtain ⟨c0, c1⟩ := hr.cells hxk
        have d0 : decide ((0 : Int) ≤ (k : Int)) = true := by simp
        have hxs' : xs = (pre ++ [(k : Int)]) ++ ups l x.up := by rw [hx, hcons]; simp
        have hpl : pre.length ≤ 8 := by have := congrArg List.length hx; simp at this; omega
        have hkI : (k : Int) < l.length := by omega
        have hkN : 0 ≤ (k : Int) := by omega
        have hsr := hmr.size
        have HX' := Lib.hid hxs'
        have HN := Lib.hid hnext
        clear hxs' hnext hcons hxk hxl hx hml
        go_wp2_with (at_builtin; refine wpList_app rfl _ _ 22 rfl wo.heap.size 3 (.int .i64 0) 1 8 Try.underlying22 info_int rfl (by decide) (by decide) _ _ _ rfl (hown.alloc _) ⟨wr.heap.size, 0, none⟩ 1 [.int .i64 k] rfl rfl (cell_one_new _ _ _) (by simp [Value.oneCell']) (by omega) (by simp; omega) ?_; intro g1 cap1 w3 o3 m3 hg3 hlt3; have m4 : Mod (fun _ => False) wo w3 := (hmr.alloc _).trans' m3 (fun q hq e => by have := ownsRow_ge hown q e.symm; omega); have hr3 := h.keepN m4; obtain ⟨z0, z1⟩ := hr3.head; have z2 := (Mod.trans' (S := fun i => wo.heap.size ≤ i) (Mod.alloc' _ wr _) m3 (fun q hq e => ownsRow_ge hown q e.symm)).keeps c0 (by have := ownsRow_lt h.ups R.ub rfl; omega))
        go_roundw
        case rel => exact ⟨pre ++ [(k : Int)], x.up, rfl, HX'.out, (HN.out).imp (fun h => h.1) (fun h => h.1), by rw [List.length_append, List.map_append]; exact o3, m4⟩
        case measure => simp [intOf]; rcases HN.out with h | h <;> omega

set_option maxHeartbeats 400000 in
theorem refDepth_any (R : RP) (l : List Grp) (n : Int) (w : World) (h : RTreeAt w R l) :
    Calls Try.prog 38 #[.pointer (some ⟨R.rb, 0, none⟩), .int .i64 n] w fun e w' => e = .returned (.int .i64 (depthL l n)) ∧ Mod (fun _ => False) w w' := by
  have hle := chain_le h.good n
  go_enter Try.func38, Try.ntmps38
  go_wp2_with fail
  refine (refChain_any R l n _ h).mono ?_
  rintro e w1 ⟨v, rfl, hm, hi⟩
  obtain ⟨a, cap, rfl, _⟩ := id hi
  clear hi
  go_wp2_with fail
  go_ret
  exact ⟨rfl, hm⟩

end Go.Proofs.Ytjmcfodlhhndoaa
