/-
  The contract of millpondref09's New.
-/
import Derived.Test.YtccjpmiddfmdpaaRefC
import Derived.Test.YtccjpmiddfmdpaaCntF
import Derived.Test.YtccjpmiddfmdpaaCntG
namespace Go.Proofs.Ytccjpmiddfmdpaa
open Go.RowKit Go.ChangeShapes Go.WideShapes Go.ChangeAt

/-- The counter while it is made. -/
structure NSt (w0 : World) (b n0 n1 n2 n3 : Nat) (v0 v1 v2 v3 : Value) (w : World) : Prop where
  blk : Blk w b #[v0, v1, v2, v3] 39
  o0 : w.ownsRow w0.heap.size 3 1 v0 n0 (List.replicate n0 (.int .i64 0))
  o1 : w.ownsRow w0.heap.size 3 1 v1 n1 (List.replicate n1 (.int .i64 1099511627776))
  o2 : w.ownsRow w0.heap.size 3 1 v2 n2 (List.replicate n2 (.int .i64 0))
  o3 : w.ownsRow w0.heap.size 3 1 v3 n3 (List.replicate n3 (.int .i64 0))
  s01 : ∀ g, v0.ownBlock = some g → v1.ownBlock ≠ some g
  s02 : ∀ g, v0.ownBlock = some g → v2.ownBlock ≠ some g
  s03 : ∀ g, v0.ownBlock = some g → v3.ownBlock ≠ some g
  s12 : ∀ g, v1.ownBlock = some g → v2.ownBlock ≠ some g
  s13 : ∀ g, v1.ownBlock = some g → v3.ownBlock ≠ some g
  s23 : ∀ g, v2.ownBlock = some g → v3.ownBlock ≠ some g
  mod : Mod (fun _ => False) w0 w
  hb : w0.heap.size ≤ b

/-- What a row that grew does to another. -/
theorem sep_grown {w : World} {base e size n g : Nat} {v v' : Value} {xs : List Value} (cap k : Nat) (hs : ∀ g, v.ownBlock = some g → v'.ownBlock ≠ some g) (h' : w.ownsRow base e size v' n xs) (hg : v.ownBlock = some g ∨ w.heap.size ≤ g) :
    ∀ x, (Value.slice (some ⟨g, 0, none⟩) k cap).ownBlock = some x → v'.ownBlock ≠ some x := by
  intro x hx
  injection hx with hx
  simp only at hx
  subst hx
  rcases hg with hg | hg
  · exact hs _ hg
  · intro h
    have := ownsRow_lt h' _ h
    omega

theorem sep_sym {v v' : Value} (hs : ∀ g, v.ownBlock = some g → v'.ownBlock ≠ some g) : ∀ g, v'.ownBlock = some g → v.ownBlock ≠ some g := fun g h h' => hs g h' h

theorem NSt.step0 {w0 w w1 : World} {b n0 n1 n2 n3 g cap : Nat} {v0 v1 v2 v3 : Value} (h : NSt w0 b n0 n1 n2 n3 v0 v1 v2 v3 w) (m : Mod (fun k => some k = v0.ownBlock) w w1) (hg : v0.ownBlock = some g ∨ w.heap.size ≤ g)
    (o : w1.ownsRow w0.heap.size 3 1 (.slice (some ⟨g, 0, none⟩) (n0 + 1) cap) (n0 + 1) (List.replicate (n0 + 1) (.int .i64 0))) :
    NSt w0 b (n0 + 1) n1 n2 n3 (.slice (some ⟨g, 0, none⟩) (n0 + 1) cap) v1 v2 v3 (w1.setCell ⟨b, 0, none⟩ (.slice (some ⟨g, 0, none⟩) (n0 + 1) cap)) := by
  have hb1 := h.blk.keep m (fun e => ownsRow_ne_blk h.o0 h.blk (by decide) _ e.symm rfl)
  have p1 := ownsRow_keep h.o1 m (fun g hg e => h.s01 g e.symm hg)
  have p2 := ownsRow_keep h.o2 m (fun g hg e => h.s02 g e.symm hg)
  have p3 := ownsRow_keep h.o3 m (fun g hg e => h.s03 g e.symm hg)
  have q0 := ownsRow_keep o (mod_setCell w1 b 0 (.slice (some ⟨g, 0, none⟩) (n0 + 1) cap)) (ownsRow_ne_blk o hb1 (by decide))
  have q1 := ownsRow_keep p1 (mod_setCell w1 b 0 (.slice (some ⟨g, 0, none⟩) (n0 + 1) cap)) (ownsRow_ne_blk p1 hb1 (by decide))
  have q2 := ownsRow_keep p2 (mod_setCell w1 b 0 (.slice (some ⟨g, 0, none⟩) (n0 + 1) cap)) (ownsRow_ne_blk p2 hb1 (by decide))
  have q3 := ownsRow_keep p3 (mod_setCell w1 b 0 (.slice (some ⟨g, 0, none⟩) (n0 + 1) cap)) (ownsRow_ne_blk p3 hb1 (by decide))
  have t1 := sep_grown cap (n0 + 1) h.s01 h.o1 hg
  have t2 := sep_grown cap (n0 + 1) h.s02 h.o2 hg
  have t3 := sep_grown cap (n0 + 1) h.s03 h.o3 hg
  refine ⟨hb1.set 0 _, q0, q1, q2, q3, ?_, ?_, ?_, ?_, ?_, ?_, ?_, h.hb⟩
  all_goals first
    | exact t1 | exact t2 | exact t3 | exact sep_sym t1 | exact sep_sym t2 | exact sep_sym t3
    | exact h.s01 | exact h.s02 | exact h.s03 | exact h.s12 | exact h.s13 | exact h.s23
    | exact Mod.setCell (h.mod.trans' m (fun q hq e => by have := ownsRow_ge h.o0 q e.symm; omega)) (.inr h.hb) _

theorem NSt.step1 {w0 w w1 : World} {b n0 n1 n2 n3 g cap : Nat} {v0 v1 v2 v3 : Value} (h : NSt w0 b n0 n1 n2 n3 v0 v1 v2 v3 w) (m : Mod (fun k => some k = v1.ownBlock) w w1) (hg : v1.ownBlock = some g ∨ w.heap.size ≤ g)
    (o : w1.ownsRow w0.heap.size 3 1 (.slice (some ⟨g, 0, none⟩) (n1 + 1) cap) (n1 + 1) (List.replicate (n1 + 1) (.int .i64 1099511627776))) :
    NSt w0 b n0 (n1 + 1) n2 n3 v0 (.slice (some ⟨g, 0, none⟩) (n1 + 1) cap) v2 v3 (w1.setCell ⟨b, 1, none⟩ (.slice (some ⟨g, 0, none⟩) (n1 + 1) cap)) := by
  have hb1 := h.blk.keep m (fun e => ownsRow_ne_blk h.o1 h.blk (by decide) _ e.symm rfl)
  have p0 := ownsRow_keep h.o0 m (fun g hg e => (sep_sym h.s01) g e.symm hg)
  have p2 := ownsRow_keep h.o2 m (fun g hg e => h.s12 g e.symm hg)
  have p3 := ownsRow_keep h.o3 m (fun g hg e => h.s13 g e.symm hg)
  have q1 := ownsRow_keep o (mod_setCell w1 b 1 (.slice (some ⟨g, 0, none⟩) (n1 + 1) cap)) (ownsRow_ne_blk o hb1 (by decide))
  have q0 := ownsRow_keep p0 (mod_setCell w1 b 1 (.slice (some ⟨g, 0, none⟩) (n1 + 1) cap)) (ownsRow_ne_blk p0 hb1 (by decide))
  have q2 := ownsRow_keep p2 (mod_setCell w1 b 1 (.slice (some ⟨g, 0, none⟩) (n1 + 1) cap)) (ownsRow_ne_blk p2 hb1 (by decide))
  have q3 := ownsRow_keep p3 (mod_setCell w1 b 1 (.slice (some ⟨g, 0, none⟩) (n1 + 1) cap)) (ownsRow_ne_blk p3 hb1 (by decide))
  have t0 := sep_grown cap (n1 + 1) (sep_sym h.s01) h.o0 hg
  have t2 := sep_grown cap (n1 + 1) h.s12 h.o2 hg
  have t3 := sep_grown cap (n1 + 1) h.s13 h.o3 hg
  refine ⟨hb1.set 1 _, q0, q1, q2, q3, ?_, ?_, ?_, ?_, ?_, ?_, ?_, h.hb⟩
  all_goals first
    | exact t0 | exact t2 | exact t3 | exact sep_sym t0 | exact sep_sym t2 | exact sep_sym t3
    | exact h.s01 | exact h.s02 | exact h.s03 | exact h.s12 | exact h.s13 | exact h.s23
    | exact Mod.setCell (h.mod.trans' m (fun q hq e => by have := ownsRow_ge h.o1 q e.symm; omega)) (.inr h.hb) _

theorem NSt.step2 {w0 w w1 : World} {b n0 n1 n2 n3 g cap : Nat} {v0 v1 v2 v3 : Value} (h : NSt w0 b n0 n1 n2 n3 v0 v1 v2 v3 w) (m : Mod (fun k => some k = v2.ownBlock) w w1) (hg : v2.ownBlock = some g ∨ w.heap.size ≤ g)
    (o : w1.ownsRow w0.heap.size 3 1 (.slice (some ⟨g, 0, none⟩) (n2 + 1) cap) (n2 + 1) (List.replicate (n2 + 1) (.int .i64 0))) :
    NSt w0 b n0 n1 (n2 + 1) n3 v0 v1 (.slice (some ⟨g, 0, none⟩) (n2 + 1) cap) v3 (w1.setCell ⟨b, 2, none⟩ (.slice (some ⟨g, 0, none⟩) (n2 + 1) cap)) := by
  have hb1 := h.blk.keep m (fun e => ownsRow_ne_blk h.o2 h.blk (by decide) _ e.symm rfl)
  have p0 := ownsRow_keep h.o0 m (fun g hg e => (sep_sym h.s02) g e.symm hg)
  have p1 := ownsRow_keep h.o1 m (fun g hg e => (sep_sym h.s12) g e.symm hg)
  have p3 := ownsRow_keep h.o3 m (fun g hg e => h.s23 g e.symm hg)
  have q2 := ownsRow_keep o (mod_setCell w1 b 2 (.slice (some ⟨g, 0, none⟩) (n2 + 1) cap)) (ownsRow_ne_blk o hb1 (by decide))
  have q0 := ownsRow_keep p0 (mod_setCell w1 b 2 (.slice (some ⟨g, 0, none⟩) (n2 + 1) cap)) (ownsRow_ne_blk p0 hb1 (by decide))
  have q1 := ownsRow_keep p1 (mod_setCell w1 b 2 (.slice (some ⟨g, 0, none⟩) (n2 + 1) cap)) (ownsRow_ne_blk p1 hb1 (by decide))
  have q3 := ownsRow_keep p3 (mod_setCell w1 b 2 (.slice (some ⟨g, 0, none⟩) (n2 + 1) cap)) (ownsRow_ne_blk p3 hb1 (by decide))
  have t0 := sep_grown cap (n2 + 1) (sep_sym h.s02) h.o0 hg
  have t1 := sep_grown cap (n2 + 1) (sep_sym h.s12) h.o1 hg
  have t3 := sep_grown cap (n2 + 1) h.s23 h.o3 hg
  refine ⟨hb1.set 2 _, q0, q1, q2, q3, ?_, ?_, ?_, ?_, ?_, ?_, ?_, h.hb⟩
  all_goals first
    | exact t0 | exact t1 | exact t3 | exact sep_sym t0 | exact sep_sym t1 | exact sep_sym t3
    | exact h.s01 | exact h.s02 | exact h.s03 | exact h.s12 | exact h.s13 | exact h.s23
    | exact Mod.setCell (h.mod.trans' m (fun q hq e => by have := ownsRow_ge h.o2 q e.symm; omega)) (.inr h.hb) _

theorem NSt.step3 {w0 w w1 : World} {b n0 n1 n2 n3 g cap : Nat} {v0 v1 v2 v3 : Value} (h : NSt w0 b n0 n1 n2 n3 v0 v1 v2 v3 w) (m : Mod (fun k => some k = v3.ownBlock) w w1) (hg : v3.ownBlock = some g ∨ w.heap.size ≤ g)
    (o : w1.ownsRow w0.heap.size 3 1 (.slice (some ⟨g, 0, none⟩) (n3 + 1) cap) (n3 + 1) (List.replicate (n3 + 1) (.int .i64 0))) :
    NSt w0 b n0 n1 n2 (n3 + 1) v0 v1 v2 (.slice (some ⟨g, 0, none⟩) (n3 + 1) cap) (w1.setCell ⟨b, 3, none⟩ (.slice (some ⟨g, 0, none⟩) (n3 + 1) cap)) := by
  have hb1 := h.blk.keep m (fun e => ownsRow_ne_blk h.o3 h.blk (by decide) _ e.symm rfl)
  have p0 := ownsRow_keep h.o0 m (fun g hg e => (sep_sym h.s03) g e.symm hg)
  have p1 := ownsRow_keep h.o1 m (fun g hg e => (sep_sym h.s13) g e.symm hg)
  have p2 := ownsRow_keep h.o2 m (fun g hg e => (sep_sym h.s23) g e.symm hg)
  have q3 := ownsRow_keep o (mod_setCell w1 b 3 (.slice (some ⟨g, 0, none⟩) (n3 + 1) cap)) (ownsRow_ne_blk o hb1 (by decide))
  have q0 := ownsRow_keep p0 (mod_setCell w1 b 3 (.slice (some ⟨g, 0, none⟩) (n3 + 1) cap)) (ownsRow_ne_blk p0 hb1 (by decide))
  have q1 := ownsRow_keep p1 (mod_setCell w1 b 3 (.slice (some ⟨g, 0, none⟩) (n3 + 1) cap)) (ownsRow_ne_blk p1 hb1 (by decide))
  have q2 := ownsRow_keep p2 (mod_setCell w1 b 3 (.slice (some ⟨g, 0, none⟩) (n3 + 1) cap)) (ownsRow_ne_blk p2 hb1 (by decide))
  have t0 := sep_grown cap (n3 + 1) (sep_sym h.s03) h.o0 hg
  have t1 := sep_grown cap (n3 + 1) (sep_sym h.s13) h.o1 hg
  have t2 := sep_grown cap (n3 + 1) (sep_sym h.s23) h.o2 hg
  refine ⟨hb1.set 3 _, q0, q1, q2, q3, ?_, ?_, ?_, ?_, ?_, ?_, ?_, h.hb⟩
  all_goals first
    | exact t0 | exact t1 | exact t2 | exact sep_sym t0 | exact sep_sym t1 | exact sep_sym t2
    | exact h.s01 | exact h.s02 | exact h.s03 | exact h.s12 | exact h.s13 | exact h.s23
    | exact Mod.setCell (h.mod.trans' m (fun q hq e => by have := ownsRow_ge h.o3 q e.symm; omega)) (.inr h.hb) _

theorem rowB_of {w : World} {base : Nat} {v : Value} {c : Int} (h : w.ownsRow base 3 1 v 64 (List.replicate 64 (.int .i64 c))) : ∃ g cap, v = .slice (some ⟨g, 0, none⟩) 64 cap ∧ base ≤ g ∧ RowB w g (fun _ => c) := by
  rcases h.2 with ⟨_, h0⟩ | ⟨g, cap, cur, rfl, hb, hg, hc, hm, hs, ht⟩
  · omega
  · refine ⟨g, cap, rfl, hb, cur, hg, by omega, fun j hj => ?_⟩
    have := congrArg (fun l : List Value => l[j]?) ht
    simp only [List.getElem?_take, List.getElem?_replicate] at this
    rw [if_pos (by omega), if_pos (by omega)] at this
    rw [← this]
    simp

theorem cell_one_set (w : World) (p : Addr) (u x : Value) (T : TypeId) : ∀ j v, [x][j]? = some v → ((w.setCell p u).alloc (.cells #[x] T)).cell? (Addr.add ⟨w.heap.size, 0, none⟩ j) = some v := by
  have h := cell_one_new (w.setCell p u) x T
  have e : (w.setCell p u).heap.size = w.heap.size := by simp [World.setCell]
  rw [e] at h
  exact h

theorem zero_ref : (Try.prog.info? 39).bind (fun i => i.zero) = some (.agg #[.slice none 0 0, .slice none 0 0, .slice none 0 0, .slice none 0 0]) := by kernel_rfl

set_option maxRecDepth 100000 in
set_option maxHeartbeats 1000000 in
theorem refNew_any (w : World) : Calls Try.prog 12 #[] w fun e w' => ∃ R : RB, e = .returned (.pointer (some ⟨R.rb, 0, none⟩)) ∧ Mod (fun _ => False) w w' ∧ RefIs w' R newC ∧ w.heap.size ≤ R.rb ∧ ∀ i, R.rows i → w.heap.size ≤ i := by
  go_enter Try.func12, Try.ntmps12
  go_wp2_with fail
  go_loopw [2] (fun i wr => ∃ (k : Nat) (v0 v1 v2 v3 : Value), k ≤ 64 ∧ i = .int .i64 k ∧ NSt w w.heap.size k k k k v0 v1 v2 v3 wr) (fun i _ => 64 - (intOf i).toNat)
  case atStart =>
    exact ⟨0, .slice none 0 0, .slice none 0 0, .slice none 0 0, .slice none 0 0, by omega, rfl, ⟨Blk.new w _ _, ⟨rfl, .inl ⟨rfl, rfl⟩⟩, ⟨rfl, .inl ⟨rfl, rfl⟩⟩, ⟨rfl, .inl ⟨rfl, rfl⟩⟩, ⟨rfl, .inl ⟨rfl, rfl⟩⟩, (fun g hg => by cases hg), (fun g hg => by cases hg), (fun g hg => by cases hg), (fun g hg => by cases hg), (fun g hg => by cases hg), (fun g hg => by cases hg), Mod.alloc' _ _ _, Nat.le_refl _⟩⟩
  case round =>
    obtain ⟨k, v0, v1, v2, v3, hk, rfl, hst⟩ := hrel
    by_cases hlt : k < 64
    · have hB := hst.blk
      have hd0 := hB.cell 0
      simp only [List.getElem?_toArray, List.getElem?_cons_zero] at hd0
      have hsz := hst.mod.size
      have hblt := hB.lt
      go_wp2_with (at_builtin; first | (refine wpList_app rfl _ _ 30 rfl w.heap.size 3 (.int .i64 0) 1 8 Try.underlying30 info_int rfl (by decide) (by decide) v0 k _ rfl (hst.o0.alloc _) ⟨wr.heap.size, 0, none⟩ 1 [.int .i64 0] rfl rfl (cell_one_new _ _ _) (by simp [Value.oneCell']) (by omega) (by simp; omega) ?_; intro g1 cap1 w1 o1 m1 hg1 hlt1; rw [← List.replicate_succ'] at o1; have m'1 := ((Mod.alloc' (fun k => some k = v0.ownBlock) wr _).trans m1); have hB1 := hB.keep m'1 (fun e => ownsRow_ne_blk hst.o0 hB (by decide) _ e.symm rfl); have he0 := hB1.cell 0; simp only [List.getElem?_toArray, List.getElem?_cons_zero] at he0; have hf0 := hB1.frozen 0; have he1 := hB1.cell 1; simp only [List.getElem?_toArray, List.getElem?_cons_zero, List.getElem?_cons_succ] at he1; have hs1 := m'1.size; have hst1 := hst.step0 m'1 (hg1.imp (fun x => x) (fun x => by rw [x]; simp)) o1) | (refine wpList_app rfl _ _ 30 rfl w.heap.size 3 (.int .i64 0) 1 8 Try.underlying30 info_int rfl (by decide) (by decide) v1 k _ rfl (hst1.o1.alloc _) ⟨w1.heap.size, 0, none⟩ 1 [.int .i64 1099511627776] rfl rfl (cell_one_set _ _ _ _ _) (by simp [Value.oneCell']) (by omega) (by simp [World.setCell]; omega) ?_; intro g2 cap2 w2 o2 m2 hg2 hlt2; rw [← List.replicate_succ'] at o2; have m'2 := ((Mod.alloc' (fun k => some k = v1.ownBlock) _ _).trans m2); have hB2 := hst1.blk.keep m'2 (fun e => ownsRow_ne_blk hst1.o1 hst1.blk (by decide) _ e.symm rfl); have hz1 := hB2.cell 1; simp only [List.getElem?_toArray, List.getElem?_cons_zero, List.getElem?_cons_succ] at hz1; have hf1 := hB2.frozen 1; have he2 := hB2.cell 2; simp only [List.getElem?_toArray, List.getElem?_cons_zero, List.getElem?_cons_succ] at he2; have hs2 := m'2.size; simp [World.setCell] at hs2; have hst2 := hst1.step1 m'2 (hg2.imp (fun x => x) (fun x => by rw [x]; simp)) o2) | (refine wpList_app rfl _ _ 30 rfl w.heap.size 3 (.int .i64 0) 1 8 Try.underlying30 info_int rfl (by decide) (by decide) v2 k _ rfl (hst2.o2.alloc _) ⟨w2.heap.size, 0, none⟩ 1 [.int .i64 0] rfl rfl (cell_one_set _ _ _ _ _) (by simp [Value.oneCell']) (by omega) (by simp [World.setCell]; omega) ?_; intro g3 cap3 w3 o3 m3 hg3 hlt3; rw [← List.replicate_succ'] at o3; have m'3 := ((Mod.alloc' (fun k => some k = v2.ownBlock) _ _).trans m3); have hB3 := hst2.blk.keep m'3 (fun e => ownsRow_ne_blk hst2.o2 hst2.blk (by decide) _ e.symm rfl); have hz2 := hB3.cell 2; simp only [List.getElem?_toArray, List.getElem?_cons_zero, List.getElem?_cons_succ] at hz2; have hf2 := hB3.frozen 2; have he3 := hB3.cell 3; simp only [List.getElem?_toArray, List.getElem?_cons_zero, List.getElem?_cons_succ] at he3; have hs3 := m'3.size; simp [World.setCell] at hs3; have hst3 := hst2.step2 m'3 (hg3.imp (fun x => x) (fun x => by rw [x]; simp)) o3) | (refine wpList_app rfl _ _ 30 rfl w.heap.size 3 (.int .i64 0) 1 8 Try.underlying30 info_int rfl (by decide) (by decide) v3 k _ rfl (hst3.o3.alloc _) ⟨w3.heap.size, 0, none⟩ 1 [.int .i64 0] rfl rfl (cell_one_set _ _ _ _ _) (by simp [Value.oneCell']) (by omega) (by simp [World.setCell]; omega) ?_; intro g4 cap4 w4 o4 m4 hg4 hlt4; rw [← List.replicate_succ'] at o4; have m'4 := ((Mod.alloc' (fun k => some k = v3.ownBlock) _ _).trans m4); have hB4 := hst3.blk.keep m'4 (fun e => ownsRow_ne_blk hst3.o3 hst3.blk (by decide) _ e.symm rfl); have hz3 := hB4.cell 3; simp only [List.getElem?_toArray, List.getElem?_cons_zero, List.getElem?_cons_succ] at hz3; have hf3 := hB4.frozen 3; have hs4 := m'4.size; simp [World.setCell] at hs4; have hst4 := hst3.step3 m'4 (hg4.imp (fun x => x) (fun x => by rw [x]; simp)) o4))
      go_roundw
      case rel => exact ⟨k + 1, _, _, _, _, by omega, by go_num, hst4⟩
      case measure => simp [intOf]; omega
    · obtain rfl : k = 64 := by omega
      rw [show ((64 : Nat) : Int) = 64 from rfl]
      obtain ⟨g0, c0, rfl, hg0, r0⟩ := rowB_of hst.o0
      obtain ⟨g1, c1, rfl, hg1, r1⟩ := rowB_of hst.o1
      obtain ⟨g2, c2, rfl, hg2, r2⟩ := rowB_of hst.o2
      obtain ⟨g3, c3, rfl, hg3, r3⟩ := rowB_of hst.o3
      have hb := hst.blk
      go_wp2_with fail
      go_ret
      have e : ∀ j : Nat, j < 64 → ofS newC j = ⟨0, 1099511627776, 0, 0⟩ := fun j hj => by
        rw [newC_of, if_pos (by unfold groupB; simp; omega)]
      have t0 : g0 ≠ w.heap.size := ownsRow_ne_blk hst.o0 hb (by decide) g0 rfl
      have t1 : g1 ≠ w.heap.size := ownsRow_ne_blk hst.o1 hb (by decide) g1 rfl
      have t2 : g2 ≠ w.heap.size := ownsRow_ne_blk hst.o2 hb (by decide) g2 rfl
      have t3 : g3 ≠ w.heap.size := ownsRow_ne_blk hst.o3 hb (by decide) g3 rfl
      have s01 : g0 ≠ g1 := fun e => hst.s01 g0 rfl (by rw [e]; rfl)
      have s02 : g0 ≠ g2 := fun e => hst.s02 g0 rfl (by rw [e]; rfl)
      have s03 : g0 ≠ g3 := fun e => hst.s03 g0 rfl (by rw [e]; rfl)
      have s12 : g1 ≠ g2 := fun e => hst.s12 g1 rfl (by rw [e]; rfl)
      have s13 : g1 ≠ g3 := fun e => hst.s13 g1 rfl (by rw [e]; rfl)
      have s23 : g2 ≠ g3 := fun e => hst.s23 g2 rfl (by rw [e]; rfl)
      refine ⟨⟨w.heap.size, g0, g1, g2, g3, c0, c1, c2, c3⟩, rfl, hst.mod, ⟨hb, r0.of (fun j hj => by rw [e j hj]), r1.of (fun j hj => by rw [e j hj]), r2.of (fun j hj => by rw [e j hj]), r3.of (fun j hj => by rw [e j hj]), ?_, ?_, ?_, ?_, ?_, ?_, ?_, ?_, ?_, ?_, rfl⟩, Nat.le_refl _, ?_⟩
      all_goals first
        | (dsimp only; omega)
        | (rintro i (rfl | rfl | rfl | rfl) <;> assumption)

end Go.Proofs.Ytccjpmiddfmdpaa
