/-
  The contracts of millpondref09: it computes what package counter computes.
-/
import Derived.Test.YtccjpmiddfmdpaaCntP
import Derived.Test.YtccjpmiddfmdpaaLib2
namespace Go.Proofs.Ytccjpmiddfmdpaa
open Go.RowKit Go.ChangeShapes Go.WideShapes Go.ChangeAt

/-- A block whose first 64 cells are these numbers. -/
def RowB (w : World) (b : Nat) (f : Nat → Int) : Prop := ∃ cs, Blk w b cs 3 ∧ 64 ≤ cs.size ∧ ∀ j, j < 64 → cs[j]? = some (.int .i64 (f j))

theorem RowB.cell {w : World} {b : Nat} {f : Nat → Int} (h : RowB w b f) (j : Nat) (hj : j < 64) : w.cell? ⟨b, j, none⟩ = some (.int .i64 (f j)) := by
  obtain ⟨cs, h1, _, h3⟩ := h
  rw [h1.cell, h3 j hj]
theorem RowB.frozen {w : World} {b : Nat} {f : Nat → Int} (h : RowB w b f) (j : Nat) : w.frozen? ⟨b, j, none⟩ = false := by
  obtain ⟨cs, h1, _⟩ := h
  exact h1.frozen j
theorem RowB.lt {w : World} {b : Nat} {f : Nat → Int} (h : RowB w b f) : b < w.heap.size := by
  obtain ⟨cs, h1, _⟩ := h
  exact h1.lt
theorem RowB.keep {S : Nat → Prop} {w w' : World} {b : Nat} {f : Nat → Int} (h : RowB w b f) (hm : Mod S w w') (hs : ¬ S b) : RowB w' b f := by
  obtain ⟨cs, h1, h2⟩ := h
  exact ⟨cs, h1.keep hm hs, h2⟩
theorem RowB.of {w : World} {b : Nat} {f g : Nat → Int} (h : RowB w b f) (he : ∀ j, j < 64 → f j = g j) : RowB w b g := by
  obtain ⟨cs, h1, h2, h3⟩ := h
  exact ⟨cs, h1, h2, fun j hj => by rw [h3 j hj, he j hj]⟩
theorem RowB.set {w : World} {b : Nat} {f : Nat → Int} (h : RowB w b f) (k : Nat) (n : Int) (hk : k < 64) : RowB (w.setCell ⟨b, k, none⟩ (.int .i64 n)) b (fun j => if j = k then n else f j) := by
  obtain ⟨cs, h1, h2, h3⟩ := h
  refine ⟨_, h1.set k _, by simp; omega, fun j hj => ?_⟩
  rw [Array.getElem?_setIfInBounds]
  by_cases hjk : k = j
  · subst hjk
    rw [if_pos rfl, if_pos (by omega)]
    simp
  · rw [if_neg hjk, h3 j hj]
    have hkj : ¬ j = k := fun e => hjk e.symm
    simp [hkj]

/-- Where the other counter lies. -/
structure RB where
  rb : Nat
  bu : Nat
  bl : Nat
  bf : Nat
  bp : Nat
  cu : Nat
  cl : Nat
  cf : Nat
  cp : Nat

def RB.head (R : RB) : Array Value := #[.slice (some ⟨R.bu, 0, none⟩) 64 R.cu, .slice (some ⟨R.bl, 0, none⟩) 64 R.cl, .slice (some ⟨R.bf, 0, none⟩) 64 R.cf, .slice (some ⟨R.bp, 0, none⟩) 64 R.cp]

def RB.rows (R : RB) (i : Nat) : Prop := i = R.bu ∨ i = R.bl ∨ i = R.bf ∨ i = R.bp

structure RefIs (w : World) (R : RB) (l : List Cnt) : Prop where
  blk : Blk w R.rb #[.slice (some ⟨R.bu, 0, none⟩) 64 R.cu, .slice (some ⟨R.bl, 0, none⟩) 64 R.cl, .slice (some ⟨R.bf, 0, none⟩) 64 R.cf, .slice (some ⟨R.bp, 0, none⟩) 64 R.cp] 39
  use : RowB w R.bu (fun j => (ofS l j).use)
  limit : RowB w R.bl (fun j => (ofS l j).limit)
  failed : RowB w R.bf (fun j => (ofS l j).failed)
  peak : RowB w R.bp (fun j => (ofS l j).peak)
  ul : R.bu ≠ R.bl
  uf : R.bu ≠ R.bf
  up : R.bu ≠ R.bp
  lf : R.bl ≠ R.bf
  lp : R.bl ≠ R.bp
  fp : R.bf ≠ R.bp
  ru : R.rb ≠ R.bu
  rl : R.rb ≠ R.bl
  rf : R.rb ≠ R.bf
  rp : R.rb ≠ R.bp
  len : l.length = 64

theorem RefIs.keep {S : Nat → Prop} {w w' : World} {R : RB} {l : List Cnt} (h : RefIs w R l) (hm : Mod S w w') (h0 : ¬ S R.rb) (h1 : ∀ i, R.rows i → ¬ S i) : RefIs w' R l where
  blk := h.blk.keep hm h0
  use := h.use.keep hm (h1 _ (.inl rfl))
  limit := h.limit.keep hm (h1 _ (.inr (.inl rfl)))
  failed := h.failed.keep hm (h1 _ (.inr (.inr (.inl rfl))))
  peak := h.peak.keep hm (h1 _ (.inr (.inr (.inr rfl))))
  ul := h.ul
  uf := h.uf
  up := h.up
  lf := h.lf
  lp := h.lp
  fp := h.fp
  ru := h.ru
  rl := h.rl
  rf := h.rf
  rp := h.rp
  len := h.len

theorem RefIs.keepN {w w' : World} {R : RB} {l : List Cnt} (h : RefIs w R l) (hm : Mod (fun _ => False) w w') : RefIs w' R l := h.keep hm (fun x => x) (fun _ _ x => x)

theorem row_put {l : List Cnt} (hl : l.length = 64) {k : Nat} (hk : k < 64) {p : Cnt → Int} {n : Int} {c : Cnt} (hc : p c = n) (j : Nat) : (if j = k then n else p (ofS l j)) = p (ofS (l.set k c) j) := by
  rw [ofS_set hl k c j hk]
  by_cases hjk : j = k
  · subst hjk
    rw [if_pos rfl, if_pos rfl, hc]
  · have : ¬ (j : Int) = k := by omega
    rw [if_neg hjk, if_neg this]

theorem RefIs.set_use {w : World} {R : RB} {l : List Cnt} (h : RefIs w R l) (k : Nat) (hk : k < 64) (n : Int) (c : Cnt) (hc : c = { ofS l k with use := n }) : RefIs (w.setCell ⟨R.bu, k, none⟩ (.int .i64 n)) R (l.set k c) where
  blk := h.blk.keep (mod_setCell w R.bu k _) (by have := h.ru; have := h.rl; have := h.rf; have := h.rp; omega)
  use := by
    first
    | exact (h.use.set k n hk).of (fun j _ => row_put h.len hk (p := fun c => c.use) (by rw [hc]) j)
    | exact (h.use.keep (mod_setCell w R.bu k _) (by have := h.ul; have := h.uf; have := h.up; have := h.lf; have := h.lp; have := h.fp; omega)).of (fun j _ => by rw [ofS_set h.len k c j hk]; split <;> simp_all)
  limit := by
    first
    | exact (h.limit.set k n hk).of (fun j _ => row_put h.len hk (p := fun c => c.limit) (by rw [hc]) j)
    | exact (h.limit.keep (mod_setCell w R.bu k _) (by have := h.ul; have := h.uf; have := h.up; have := h.lf; have := h.lp; have := h.fp; omega)).of (fun j _ => by rw [ofS_set h.len k c j hk]; split <;> simp_all)
  failed := by
    first
    | exact (h.failed.set k n hk).of (fun j _ => row_put h.len hk (p := fun c => c.failed) (by rw [hc]) j)
    | exact (h.failed.keep (mod_setCell w R.bu k _) (by have := h.ul; have := h.uf; have := h.up; have := h.lf; have := h.lp; have := h.fp; omega)).of (fun j _ => by rw [ofS_set h.len k c j hk]; split <;> simp_all)
  peak := by
    first
    | exact (h.peak.set k n hk).of (fun j _ => row_put h.len hk (p := fun c => c.peak) (by rw [hc]) j)
    | exact (h.peak.keep (mod_setCell w R.bu k _) (by have := h.ul; have := h.uf; have := h.up; have := h.lf; have := h.lp; have := h.fp; omega)).of (fun j _ => by rw [ofS_set h.len k c j hk]; split <;> simp_all)
  ul := h.ul
  uf := h.uf
  up := h.up
  lf := h.lf
  lp := h.lp
  fp := h.fp
  ru := h.ru
  rl := h.rl
  rf := h.rf
  rp := h.rp
  len := by rw [List.length_set]; exact h.len

theorem RefIs.set_limit {w : World} {R : RB} {l : List Cnt} (h : RefIs w R l) (k : Nat) (hk : k < 64) (n : Int) (c : Cnt) (hc : c = { ofS l k with limit := n }) : RefIs (w.setCell ⟨R.bl, k, none⟩ (.int .i64 n)) R (l.set k c) where
  blk := h.blk.keep (mod_setCell w R.bl k _) (by have := h.ru; have := h.rl; have := h.rf; have := h.rp; omega)
  use := by
    first
    | exact (h.use.set k n hk).of (fun j _ => row_put h.len hk (p := fun c => c.use) (by rw [hc]) j)
    | exact (h.use.keep (mod_setCell w R.bl k _) (by have := h.ul; have := h.uf; have := h.up; have := h.lf; have := h.lp; have := h.fp; omega)).of (fun j _ => by rw [ofS_set h.len k c j hk]; split <;> simp_all)
  limit := by
    first
    | exact (h.limit.set k n hk).of (fun j _ => row_put h.len hk (p := fun c => c.limit) (by rw [hc]) j)
    | exact (h.limit.keep (mod_setCell w R.bl k _) (by have := h.ul; have := h.uf; have := h.up; have := h.lf; have := h.lp; have := h.fp; omega)).of (fun j _ => by rw [ofS_set h.len k c j hk]; split <;> simp_all)
  failed := by
    first
    | exact (h.failed.set k n hk).of (fun j _ => row_put h.len hk (p := fun c => c.failed) (by rw [hc]) j)
    | exact (h.failed.keep (mod_setCell w R.bl k _) (by have := h.ul; have := h.uf; have := h.up; have := h.lf; have := h.lp; have := h.fp; omega)).of (fun j _ => by rw [ofS_set h.len k c j hk]; split <;> simp_all)
  peak := by
    first
    | exact (h.peak.set k n hk).of (fun j _ => row_put h.len hk (p := fun c => c.peak) (by rw [hc]) j)
    | exact (h.peak.keep (mod_setCell w R.bl k _) (by have := h.ul; have := h.uf; have := h.up; have := h.lf; have := h.lp; have := h.fp; omega)).of (fun j _ => by rw [ofS_set h.len k c j hk]; split <;> simp_all)
  ul := h.ul
  uf := h.uf
  up := h.up
  lf := h.lf
  lp := h.lp
  fp := h.fp
  ru := h.ru
  rl := h.rl
  rf := h.rf
  rp := h.rp
  len := by rw [List.length_set]; exact h.len

theorem RefIs.set_failed {w : World} {R : RB} {l : List Cnt} (h : RefIs w R l) (k : Nat) (hk : k < 64) (n : Int) (c : Cnt) (hc : c = { ofS l k with failed := n }) : RefIs (w.setCell ⟨R.bf, k, none⟩ (.int .i64 n)) R (l.set k c) where
  blk := h.blk.keep (mod_setCell w R.bf k _) (by have := h.ru; have := h.rl; have := h.rf; have := h.rp; omega)
  use := by
    first
    | exact (h.use.set k n hk).of (fun j _ => row_put h.len hk (p := fun c => c.use) (by rw [hc]) j)
    | exact (h.use.keep (mod_setCell w R.bf k _) (by have := h.ul; have := h.uf; have := h.up; have := h.lf; have := h.lp; have := h.fp; omega)).of (fun j _ => by rw [ofS_set h.len k c j hk]; split <;> simp_all)
  limit := by
    first
    | exact (h.limit.set k n hk).of (fun j _ => row_put h.len hk (p := fun c => c.limit) (by rw [hc]) j)
    | exact (h.limit.keep (mod_setCell w R.bf k _) (by have := h.ul; have := h.uf; have := h.up; have := h.lf; have := h.lp; have := h.fp; omega)).of (fun j _ => by rw [ofS_set h.len k c j hk]; split <;> simp_all)
  failed := by
    first
    | exact (h.failed.set k n hk).of (fun j _ => row_put h.len hk (p := fun c => c.failed) (by rw [hc]) j)
    | exact (h.failed.keep (mod_setCell w R.bf k _) (by have := h.ul; have := h.uf; have := h.up; have := h.lf; have := h.lp; have := h.fp; omega)).of (fun j _ => by rw [ofS_set h.len k c j hk]; split <;> simp_all)
  peak := by
    first
    | exact (h.peak.set k n hk).of (fun j _ => row_put h.len hk (p := fun c => c.peak) (by rw [hc]) j)
    | exact (h.peak.keep (mod_setCell w R.bf k _) (by have := h.ul; have := h.uf; have := h.up; have := h.lf; have := h.lp; have := h.fp; omega)).of (fun j _ => by rw [ofS_set h.len k c j hk]; split <;> simp_all)
  ul := h.ul
  uf := h.uf
  up := h.up
  lf := h.lf
  lp := h.lp
  fp := h.fp
  ru := h.ru
  rl := h.rl
  rf := h.rf
  rp := h.rp
  len := by rw [List.length_set]; exact h.len

theorem RefIs.set_peak {w : World} {R : RB} {l : List Cnt} (h : RefIs w R l) (k : Nat) (hk : k < 64) (n : Int) (c : Cnt) (hc : c = { ofS l k with peak := n }) : RefIs (w.setCell ⟨R.bp, k, none⟩ (.int .i64 n)) R (l.set k c) where
  blk := h.blk.keep (mod_setCell w R.bp k _) (by have := h.ru; have := h.rl; have := h.rf; have := h.rp; omega)
  use := by
    first
    | exact (h.use.set k n hk).of (fun j _ => row_put h.len hk (p := fun c => c.use) (by rw [hc]) j)
    | exact (h.use.keep (mod_setCell w R.bp k _) (by have := h.ul; have := h.uf; have := h.up; have := h.lf; have := h.lp; have := h.fp; omega)).of (fun j _ => by rw [ofS_set h.len k c j hk]; split <;> simp_all)
  limit := by
    first
    | exact (h.limit.set k n hk).of (fun j _ => row_put h.len hk (p := fun c => c.limit) (by rw [hc]) j)
    | exact (h.limit.keep (mod_setCell w R.bp k _) (by have := h.ul; have := h.uf; have := h.up; have := h.lf; have := h.lp; have := h.fp; omega)).of (fun j _ => by rw [ofS_set h.len k c j hk]; split <;> simp_all)
  failed := by
    first
    | exact (h.failed.set k n hk).of (fun j _ => row_put h.len hk (p := fun c => c.failed) (by rw [hc]) j)
    | exact (h.failed.keep (mod_setCell w R.bp k _) (by have := h.ul; have := h.uf; have := h.up; have := h.lf; have := h.lp; have := h.fp; omega)).of (fun j _ => by rw [ofS_set h.len k c j hk]; split <;> simp_all)
  peak := by
    first
    | exact (h.peak.set k n hk).of (fun j _ => row_put h.len hk (p := fun c => c.peak) (by rw [hc]) j)
    | exact (h.peak.keep (mod_setCell w R.bp k _) (by have := h.ul; have := h.uf; have := h.up; have := h.lf; have := h.lp; have := h.fp; omega)).of (fun j _ => by rw [ofS_set h.len k c j hk]; split <;> simp_all)
  ul := h.ul
  uf := h.uf
  up := h.up
  lf := h.lf
  lp := h.lp
  fp := h.fp
  ru := h.ru
  rl := h.rl
  rf := h.rf
  rp := h.rp
  len := by rw [List.length_set]; exact h.len

set_option maxHeartbeats 400000 in
theorem refGroup_any (g : Int) (w : World) : Calls Try.prog 23 #[.int .i64 g] w fun e w' => e = .returned (.bool (groupB g)) ∧ w = w' := by
  unfold groupB
  by_cases h : 0 ≤ g
  · have h' : decide (0 ≤ g) = true := by simp [h]
    rw [h', Bool.true_and]
    go_enter Try.func23, Try.ntmps23
    go_wp2
    go_ret
    exact ⟨rfl, rfl⟩
  · have h' : decide (0 ≤ g) = false := by simp; omega
    rw [h', Bool.false_and]
    go_enter Try.func23, Try.ntmps23
    go_wp2
    go_ret
    exact ⟨rfl, rfl⟩

set_option maxRecDepth 100000 in
set_option maxHeartbeats 1000000 in
theorem refChain_any (chain : List Int) (v : Value) (n : Int) (w : World) (h : IntsAt w v chain) :
    Calls Try.prog 27 #[v, .int .i64 n] w fun e w' => e = .returned (.bool (rightB chain n)) ∧ Mod (fun _ => False) w w' := by
  obtain ⟨a, cap, rfl, hcap, hmax, _⟩ := id h
  unfold maxLen at hmax
  obtain ⟨r, hr⟩ : ∃ r, r = rightB chain n := ⟨_, rfl⟩
  rw [← hr]
  have HR := Lib.hid hr
  clear hr
  go_enter Try.func27, Try.ntmps27
  go_wp2_with fail
  go_loopw [5] (fun i wr => ∃ k : Nat, k ≤ chain.length ∧ i = .int .i64 k ∧ chainB (chain.take k) = true ∧ Mod (fun _ => False) w wr) (fun i _ => chain.length - (intOf i).toNat)
  case atStart => exact ⟨0, by omega, rfl, rfl, Mod.refl _ _⟩
  case round =>
    obtain ⟨k, hk, rfl, hch, hm⟩ := hrel
    by_cases hlt : k < chain.length
    · obtain ⟨g, hg⟩ : ∃ g, chain[k]? = some g := ⟨_, List.getElem?_eq_getElem hlt⟩
      obtain ⟨b, off, rfl, hc0⟩ := intsAt_get h hg
      have hc := hm.keeps hc0 (fun x => x)
      cases hgb : groupB g with
      | false =>
        have hno : chainB chain = false := chainB_not hg (.inl hgb)
        obtain rfl : r = false := by rw [HR.out]; unfold rightB; rw [hno]; rfl
        clear hno hch hg h
        go_wp2_with fail
        refine (refGroup_any g _).mono ?_
        rw [hgb]
        rintro e w' ⟨rfl, rfl⟩
        go_wp2_with fail
        go_ret
        exact ⟨rfl, hm⟩
      | true =>
        have HGK := Lib.hid hg
        have HCH := Lib.hid hch
        have HGB := Lib.hid hgb
        have hgb' := hgb
        clear hg hch hgb
        obtain ⟨wo, rfl⟩ : ∃ wo : World, wo = wr := ⟨_, rfl⟩
        go_wp2_with fail
        refine (refGroup_any g _).mono ?_
        rw [hgb']
        clear hgb'
        rintro e w' ⟨rfl, rfl⟩
        go_wp2_with fail
        go_loopw [6] (fun i wr => ∃ m : Nat, m ≤ k ∧ i = .int .i64 m ∧ g ∉ chain.take m ∧ Mod (fun _ => False) wo wr) (fun i _ => k - (intOf i).toNat)
        case atStart => exact ⟨0, by omega, rfl, by simp, Mod.refl _ _⟩
        case round =>
          obtain ⟨m, hmk, rfl, hno, hm2⟩ := hrel
          by_cases hlm : m < k
          · obtain ⟨x, hx⟩ : ∃ x, chain[m]? = some x := ⟨_, List.getElem?_eq_getElem (by omega)⟩
            obtain ⟨b', off', he, hx0⟩ := intsAt_get h hx
            injection he with he
            injection he with he1 he2
            subst he1 he2
            have hcx := (hm.trans hm2).keeps hx0 (fun x => x)
            have hcg := hm2.keeps hc (fun x => x)
            have htk := take_succ_get hx
            by_cases hxg : x = g
            · have hin : decide (g ∈ chain.take k) = true := by
                rw [decide_eq_true_eq]
                have h1 : g ∈ chain.take (m + 1) := by rw [htk, hxg]; simp
                exact List.take_subset_take_left _ (by omega) h1
              have hnc : chainB chain = false := chainB_not HGK.out (.inr hin)
              obtain rfl : r = false := by rw [HR.out]; unfold rightB; rw [hnc]; rfl
              have hd : (x == g) = true := by rw [beq_iff_eq]; exact hxg
              have HH := Lib.hid h
              clear hnc hin htk hxg hx h hx0 hc0 hc
              go_wp2_with fail
              go_quiet (fail)
              go_wp2_with fail
              go_ret
              exact ⟨rfl, (hm.trans hm2).drewN _⟩
            · have hd : (x == g) = false := by rw [beq_eq_false_iff_ne]; exact hxg
              have hno' : g ∉ chain.take (m + 1) := by
                rw [htk]
                simp only [List.mem_append, List.mem_singleton, not_or]
                exact ⟨hno, fun e => hxg e.symm⟩
              have HH := Lib.hid h
              clear htk hxg hx h hx0 hc0 hc
              go_wp2_with fail
              go_quiet (fail)
              go_wp2_with fail
              go_roundw
              case rel => exact ⟨m + 1, by omega, by go_num, hno', hm2.drewN _⟩
              case measure => simp [intOf]; omega
          · obtain rfl : m = k := by omega
            have hnext : chainB (chain.take (m + 1)) = true := by rw [take_succ_get HGK.out, chainB_snoc, HCH.out, HGB.out]; simp [hno]
            go_wp2_with fail
            go_roundw
            case rel => exact ⟨m + 1, by omega, by go_num, hnext, hm.trans hm2⟩
            case measure => simp [intOf]; omega
    · obtain rfl : k = chain.length := by omega
      rw [List.take_length] at hch
      by_cases hn : 0 ≤ n
      · have hd : decide (0 ≤ n) = true := by simp [hn]
        obtain rfl : r = decide (n ≤ 1099511627776) := by rw [HR.out]; unfold rightB amountB; rw [hch, hd]; rfl
        clear hch
        go_wp2_with fail
        go_ret
        exact ⟨rfl, hm⟩
      · have hd : decide (0 ≤ n) = false := by simp; omega
        obtain rfl : r = false := by rw [HR.out]; unfold rightB amountB; rw [hch, hd]; rfl
        clear hch
        go_wp2_with fail
        go_ret
        exact ⟨rfl, hm⟩

end Go.Proofs.Ytccjpmiddfmdpaa
