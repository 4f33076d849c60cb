/-
  Laws that every text of this seat uses: which blocks a call may have changed (Mod), a block known whole (Blk), maps as lists of pairs (MapIs), strings out of byte cells. Nothing here names the program: it is a parameter.
-/
import Derived.WalkKit
import Derived.WalkSpells
import Derived.WalkLawsBesides
import Derived.Maps.OwnOps
import Derived.BigQuiet
import Derived.Lib.Hide
import Derived.StillTailTactics
import Derived.Deep.AppendLies
import Derived.Deep.RegionHeld3
import Derived.Deep.RegionLaw
import Derived.Handy
namespace Go.Proofs.Ytjmcfodlhhndoaa
open Go.RowKit

/-! ### strings out of byte cells -/

def strOf (ns : List Int) : ByteArray := ⟨(ns.map fun n => UInt8.ofNat n.toNat).toArray⟩

theorem foldl_strOf (ns : List Int) : ∀ r : ByteArray, ns.foldl (fun r n => r.push (UInt8.ofNat n.toNat)) r = ⟨r.data ++ (ns.map fun n => UInt8.ofNat n.toNat).toArray⟩ := by
  induction ns with
  | nil => intro r; simp
  | cons n ns ih => intro r; simp only [List.foldl_cons, ih]; simp [ByteArray.push]

theorem run_conv_cells {P : Program} {S E D : TypeId} (hS : P.underlying S = some (.slice E)) (hE : P.underlying E = some (.int .u8)) (hD : P.underlying D = some .string)
    (w0 : World) (ns : List Int) (T : TypeId) (b n : Nat) (hb : b = w0.heap.size) (hn : n = ns.length) :
    (convert S D (.slice (some ⟨b, 0, none⟩) n n)).run P (w0.alloc (.cells (ns.map (Value.int .u8)).toArray T)) = .ok (.string (strOf ns)) (w0.alloc (.cells (ns.map (Value.int .u8)).toArray T)) := by
  subst hb hn
  rw [run_convert_bytes_string _ S D E _ _ _ hS hE hD]
  have hl := run_loadCells_list (P := P) (w0.alloc (.cells (ns.map (Value.int .u8)).toArray T)) ⟨w0.heap.size, 0, none⟩ (ns.map (Value.int .u8)) (fun j v hj => by
    have : (Addr.add ⟨w0.heap.size, 0, none⟩ j) = ⟨w0.heap.size, j, none⟩ := by unfold Addr.add; split <;> simp_all
    rw [this, World.cell?_alloc_mark]; simpa using hj)
  simp only [List.length_map] at hl
  rw [run_bytesToString _ _ _ _ _ hl, foldl_strOf]
  have he0 : ByteArray.empty.data = #[] := rfl
  rw [he0]
  simp [strOf]

theorem strOf_size (ns : List Int) : (strOf ns).size = ns.length := by simp [strOf, ByteArray.size]

/-! ### which blocks a call may have changed -/

structure Mod (S : Nat → Prop) (w w' : World) : Prop where
  os : w'.os = w.os
  tape : w'.tape = w.tape
  output : w'.output = w.output
  size : w.heap.size ≤ w'.heap.size
  block : ∀ k, k < w.heap.size → ¬ S k → w'.heap[k]? = w.heap[k]?

theorem Mod.refl (S : Nat → Prop) (w : World) : Mod S w w := ⟨rfl, rfl, rfl, Nat.le_refl _, fun _ _ _ => rfl⟩

theorem Mod.trans {S : Nat → Prop} {a b c : World} (h : Mod S a b) (k : Mod S b c) : Mod S a c :=
  ⟨k.os.trans h.os, k.tape.trans h.tape, k.output.trans h.output, Nat.le_trans h.size k.size, fun i hi hs => (k.block i (Nat.lt_of_lt_of_le hi h.size) hs).trans (h.block i hi hs)⟩

theorem Mod.trans' {S S' : Nat → Prop} {a b c : World} (h : Mod S a b) (k : Mod S' b c) (hs : ∀ i, i < a.heap.size → S' i → S i) : Mod S a c :=
  ⟨k.os.trans h.os, k.tape.trans h.tape, k.output.trans h.output, Nat.le_trans h.size k.size, fun i hi hn => (k.block i (Nat.lt_of_lt_of_le hi h.size) (fun hc => hn (hs i hi hc))).trans (h.block i hi hn)⟩

theorem Mod.mono {S S' : Nat → Prop} {a b : World} (h : Mod S a b) (hs : ∀ i, S i → S' i) : Mod S' a b :=
  ⟨h.os, h.tape, h.output, h.size, fun i hi hn => h.block i hi (fun hc => hn (hs i hc))⟩

theorem Mod.alloc {S : Nat → Prop} {a w : World} (h : Mod S a w) (o : Obj) : Mod S a (w.alloc o) :=
  h.trans ⟨rfl, rfl, rfl, by simp, fun k hk _ => Below.heap_alloc _ _ _ hk⟩

theorem Mod.setCell {S : Nat → Prop} {a w : World} (h : Mod S a w) {p : Addr} (hp : S p.block ∨ a.heap.size ≤ p.block) (u : Value) : Mod S a (w.setCell p u) :=
  h.trans' (S' := fun k => k = p.block) ⟨rfl, rfl, rfl, by simp [World.setCell], fun k _ hn => Below.heap_setCell _ _ _ _ hn⟩ (fun i hi he => by
    subst he; rcases hp with hp | hp
    · exact hp
    · omega)

theorem mod_setCell (w : World) (b j : Nat) (v : Value) : Mod (fun k => k = b) w (w.setCell ⟨b, j, .none⟩ v) :=
  Mod.setCell (S := fun k => k = b) (p := ⟨b, j, .none⟩) (Mod.refl (fun k => k = b) w) (.inl rfl) v

theorem Mod.drew {S : Nat → Prop} {a w : World} (h : Mod S a w) : Mod S a w.drew := ⟨h.os, h.tape, h.output, h.size, h.block⟩

theorem Mod.drewN {S : Nat → Prop} {a w : World} (h : Mod S a w) (n : Nat) : Mod S a (w.drewN n) := by
  induction n with
  | zero => exact ⟨h.os, h.tape, h.output, h.size, h.block⟩
  | succ n _ => exact ⟨h.os, h.tape, h.output, h.size, h.block⟩

theorem Mod.grown {S : Nat → Prop} {a w w' : World} {row : Option Nat} (h : Mod S a w) (hg : w.grownBy w' row) (hr : ∀ k, row = some k → S k ∨ a.heap.size ≤ k) : Mod S a w' :=
  h.trans' (S' := fun k => some k = row) ⟨hg.os, hg.tape, hg.output, hg.size, fun k hk hn => hg.block k hk hn⟩ (fun i hi he => by
    rcases hr i he.symm with h | h
    · exact h
    · omega)

theorem Mod.below {S : Nat → Prop} {a w : World} (h : Mod S a w) (B : Nat) (hB : B ≤ a.heap.size) (hs : ∀ i, i < B → ¬ S i) : Below B a w :=
  ⟨h.os, h.tape, h.output, h.size, fun k hk => h.block k (by omega) (hs k hk)⟩

theorem Mod.ofBelow {S : Nat → Prop} {a w : World} (h : Below a.heap.size a w) : Mod S a w :=
  ⟨h.os, h.tape, h.output, h.size, fun k hk _ => h.block k hk⟩

theorem Mod.none {a w : World} (h : Mod (fun _ => False) a w) : Below a.heap.size a w :=
  ⟨h.os, h.tape, h.output, h.size, fun k hk => h.block k hk (fun x => x)⟩

theorem Mod.cell {S : Nat → Prop} {a w : World} (h : Mod S a w) {p : Addr} (hp : p.block < a.heap.size) (hs : ¬ S p.block) : w.cell? p = a.cell? p :=
  World.cell?_of_block (w := a) (h.block p.block hp hs)

theorem Mod.frozen {S : Nat → Prop} {a w : World} (h : Mod S a w) {p : Addr} (hp : p.block < a.heap.size) (hs : ¬ S p.block) : w.frozen? p = a.frozen? p :=
  World.frozen?_of_block (w := a) (h.block p.block hp hs)

/-! ### a block known whole -/

def Blk (w : World) (b : Nat) (cs : Array Value) (T : TypeId) : Prop := w.heap[b]? = some (.cells cs T (0, 0))

theorem Blk.lt {w : World} {b : Nat} {cs : Array Value} {T : TypeId} (h : Blk w b cs T) : b < w.heap.size := (Array.getElem?_eq_some_iff.1 h).1

theorem Blk.cell {w : World} {b : Nat} {cs : Array Value} {T : TypeId} (h : Blk w b cs T) (j : Nat) : w.cell? ⟨b, j, none⟩ = cs[j]? := by
  unfold Blk at h
  simp [World.cell?, h]

theorem Blk.frozen {w : World} {b : Nat} {cs : Array Value} {T : TypeId} (h : Blk w b cs T) (j : Nat) : w.frozen? ⟨b, j, none⟩ = false := by
  unfold Blk at h
  simp [World.frozen?, h]

theorem Blk.keep {S : Nat → Prop} {w w' : World} {b : Nat} {cs : Array Value} {T : TypeId} (h : Blk w b cs T) (hm : Mod S w w') (hs : ¬ S b) : Blk w' b cs T := by
  unfold Blk; rw [hm.block b h.lt hs]; exact h

theorem Blk.alloc {w : World} {b : Nat} {cs : Array Value} {T : TypeId} (h : Blk w b cs T) (o : Obj) : Blk (w.alloc o) b cs T :=
  h.keep (Mod.alloc (Mod.refl (fun _ => False) w) o) (fun x => x)

theorem Blk.new (w : World) (cs : Array Value) (T : TypeId) : Blk (w.alloc (.cells cs T)) w.heap.size cs T := heap_alloc_new w _

theorem Blk.set {w : World} {b : Nat} {cs : Array Value} {T : TypeId} (h : Blk w b cs T) (j : Nat) (v : Value) : Blk (w.setCell ⟨b, j, none⟩ v) b (cs.setIfInBounds j v) T :=
  heap_setCell_same w b j cs T v h

theorem Blk.setOther {w : World} {b : Nat} {cs : Array Value} {T : TypeId} (h : Blk w b cs T) (p : Addr) (v : Value) (hp : b ≠ p.block) : Blk (w.setCell p v) b cs T := by
  unfold Blk; rw [Below.heap_setCell _ _ _ _ hp]; exact h

/-- A callee that leaves the world alone, met inside a quiet region. -/
theorem quiet_same {P : Program} {f : FuncId} {args : Array Value} {w : World} {n : Nat} {v : Value}
    (h : Calls P f args (w.drewN n) fun e w' => e = .returned v ∧ w.drewN n = w') : Calls P f args (w.drewN n) fun e w'' => e = .returned v ∧ ∃ m, w'' = w.drewN m :=
  h.mono fun _ _ ⟨he, hm⟩ => ⟨he, n, hm.symm⟩
theorem quiet_some {P : Program} {f : FuncId} {args : Array Value} {w : World} {n : Nat} {v : Value}
    (h : Calls P f args (w.drewN n) fun e w' => e = .returned v ∧ ∃ m, (w.drewN n).drewN m = w') : Calls P f args (w.drewN n) fun e w'' => e = .returned v ∧ ∃ m, w'' = w.drewN m :=
  h.mono fun _ _ ⟨he, m, hm⟩ => ⟨he, n + m, by rw [← hm, World.drewN_drewN]⟩

theorem Mod.drewN' (S : Nat → Prop) (w : World) (n : Nat) : Mod S w (w.drewN n) := (Mod.refl S w).drewN n
theorem Mod.alloc' (S : Nat → Prop) (w : World) (o : Obj) : Mod S w (w.alloc o) := (Mod.refl S w).alloc o

/-- What was owned is owned where no block of it has changed. -/
theorem ownsRow_keep {S : Nat → Prop} {w w' : World} {base e size n : Nat} {v : Value} {xs : List Value} (h : w.ownsRow base e size v n xs) (hm : Mod S w w') (hs : ∀ g, v.ownBlock = some g → ¬ S g) : w'.ownsRow base e size v n xs := by
  refine ⟨h.1, ?_⟩
  rcases h.2 with h2 | ⟨g, cap, cur, hv, hg, hh, r⟩
  · exact .inl h2
  · refine .inr ⟨g, cap, cur, hv, hg, ?_, r⟩
    rw [hm.block g (Array.getElem?_eq_some_iff.1 hh).1 (hs g (by rw [hv]; rfl))]; exact hh

theorem ownsRow_ne_blk {w : World} {base e size n : Nat} {v : Value} {xs : List Value} (h : w.ownsRow base e size v n xs) {b T : Nat} {cs : Array Value} (hb : Blk w b cs T) (hT : e ≠ T) : ∀ g, v.ownBlock = some g → g ≠ b := by
  intro g hg
  rcases h.2 with ⟨rfl, _⟩ | ⟨g', cap, cur, rfl, _, hh, _⟩
  · cases hg
  · injection hg with hg
    rintro rfl
    simp only at hg
    subst hg
    unfold Blk at hb
    rw [hh] at hb
    injection hb with hb
    injection hb with _ h2
    exact hT h2

theorem ownsRow_ne_map {w : World} {base e size n : Nat} {v : Value} {xs : List Value} (h : w.ownsRow base e size v n xs) {b c : Nat} {es : Array MapEntry} (hb : w.heap[b]? = some (.map es c)) : ∀ g, v.ownBlock = some g → g ≠ b := by
  intro g hg
  rcases h.2 with ⟨rfl, _⟩ | ⟨g', cap, cur, rfl, _, hh, _⟩
  · cases hg
  · injection hg with hg
    rintro rfl
    simp only at hg
    subst hg
    rw [hh] at hb
    cases hb

theorem ownsRow_base {w : World} {base base' e size n : Nat} {v : Value} {xs : List Value} (h : w.ownsRow base e size v n xs) (hb : base' ≤ base) : w.ownsRow base' e size v n xs := by
  refine ⟨h.1, ?_⟩
  rcases h.2 with h2 | ⟨g, cap, cur, hv, hg, r⟩
  · exact .inl h2
  · exact .inr ⟨g, cap, cur, hv, Nat.le_trans hb hg, r⟩

theorem ownsRow_ge {w : World} {base e size n : Nat} {v : Value} {xs : List Value} (h : w.ownsRow base e size v n xs) : ∀ g, v.ownBlock = some g → base ≤ g := by
  intro g hg
  rcases h.2 with ⟨rfl, _⟩ | ⟨g', cap, cur, rfl, hb, _⟩
  · cases hg
  · injection hg with hg
    simp only at hg
    omega

theorem ownsRow_lt {w : World} {base e size n : Nat} {v : Value} {xs : List Value} (h : w.ownsRow base e size v n xs) : ∀ g, v.ownBlock = some g → g < w.heap.size := by
  intro g hg
  rcases h.2 with ⟨rfl, _⟩ | ⟨g', cap, cur, rfl, _, hh, _⟩
  · cases hg
  · injection hg with hg
    simp only at hg
    subst hg
    exact (Array.getElem?_eq_some_iff.1 hh).1

/-- A slice of whole numbers that is only read. -/
def IntsAt (w : World) (v : Value) (ns : List Int) : Prop :=
  ∃ a cap, v = .slice a ns.length cap ∧ ns.length ≤ cap ∧ cap ≤ maxLen ∧ ∀ (j : Nat), j < ns.length → ∃ b off, a = some ⟨b, off, none⟩ ∧ w.cell? ⟨b, off + j, none⟩ = some (.int .i64 (ns.getD j 0))

theorem lt_of_cell {w : World} {b o : Nat} {v : Value} (h : w.cell? ⟨b, o, none⟩ = some v) : b < w.heap.size := by
  unfold World.cell? at h
  cases hb : w.heap[b]? with
  | none => simp [hb] at h
  | some x => exact (Array.getElem?_eq_some_iff.1 hb).1

theorem IntsAt.keep {S : Nat → Prop} {w w' : World} {v : Value} {ns : List Int} (h : IntsAt w v ns) (hm : Mod S w w') (hs : ∀ b, b < w.heap.size → ¬ S b) : IntsAt w' v ns := by
  obtain ⟨a, cap, h1, h2, h3, h4⟩ := h
  refine ⟨a, cap, h1, h2, h3, fun j hj => ?_⟩
  obtain ⟨b, off, h5, h6⟩ := h4 j hj
  refine ⟨b, off, h5, ?_⟩
  rw [hm.cell (lt_of_cell h6) (hs b (lt_of_cell h6))]
  exact h6

/-! ### a region that draws its order and whose callees make memory, but change none that was there -/

structure Ext (w : World) where
  to : World
  ok : Mod (fun _ => False) w to

theorem Ext.cell {w : World} (x : Ext w) {b o : Nat} {v : Value} (h : w.cell? ⟨b, o, none⟩ = some v) : x.to.cell? ⟨b, o, none⟩ = some v := by
  rw [x.ok.cell (lt_of_cell h) (fun y => y)]; exact h

theorem wp_region_ext_lit {P : Program} {id : Nat} {Q : Exit → Act → World → Prop} {a : Act} {w : World} {l : List Oper} (hm : P.follows .mixedOrders = true) (hB : Region.lexB .any l.toArray = true)
    (h : wpQuiet P l.toArray (fun w' => ∃ x : Ext w, w' = x.to) (fun a' => ∀ w', (∃ x : Ext w, w' = x.to) → Q .normal a' w') l a) : (Code.region id l.toArray true).wp P Q a w :=
  wp_region_quiet (C := fun w' => ∃ x : Ext w, w' = x.to) hm hB ⟨⟨_, (Mod.refl _ w).drew⟩, rfl⟩ (by simpa using h)

theorem quiet_ext_same {P : Program} {f : FuncId} {args : Array Value} {w : World} {x : Ext w} {v : Value}
    (h : Calls P f args x.to fun e w' => e = .returned v ∧ x.to = w') : Calls P f args x.to fun e w'' => e = .returned v ∧ ∃ y : Ext w, w'' = y.to :=
  h.mono fun _ _ ⟨he, hm⟩ => ⟨he, x, hm.symm⟩
theorem quiet_ext {P : Program} {f : FuncId} {args : Array Value} {w : World} {x : Ext w} {v : Value}
    (h : Calls P f args x.to fun e w' => e = .returned v ∧ Mod (fun _ => False) x.to w') : Calls P f args x.to fun e w'' => e = .returned v ∧ ∃ y : Ext w, w'' = y.to :=
  h.mono fun _ w' ⟨he, hm⟩ => ⟨he, ⟨w', x.ok.trans hm⟩, rfl⟩

theorem Blk.ne {w : World} {b b' T T' : Nat} {cs cs' : Array Value} (h : Blk w b cs T) (h' : Blk w b' cs' T') (hT : T ≠ T') : b ≠ b' := by
  rintro rfl
  unfold Blk at h h'
  rw [h] at h'
  injection h' with h'
  injection h' with _ h2
  exact hT h2

theorem ownsRow_form {w : World} {base e size n : Nat} {v : Value} {xs : List Value} (h : w.ownsRow base e size v n xs) : ∃ a c, v = .slice a n c := by
  rcases h.2 with ⟨rfl, rfl⟩ | ⟨g, cap, cur, rfl, _⟩
  · exact ⟨_, _, rfl⟩
  · exact ⟨_, _, rfl⟩

theorem ownsRow_ne_row {w : World} {base base' e e' size size' n n' : Nat} {v v' : Value} {xs xs' : List Value} (h : w.ownsRow base e size v n xs) (h' : w.ownsRow base' e' size' v' n' xs') (hT : e ≠ e') : ∀ g, v.ownBlock = some g → v'.ownBlock ≠ some g := by
  intro g hg hg'
  rcases h'.2 with ⟨rfl, _⟩ | ⟨g', cap, cur, rfl, _, hh, _⟩
  · cases hg'
  · injection hg' with hg'
    simp only at hg'
    subst hg'
    exact ownsRow_ne_blk h (b := g') (cs := cur) (T := e') hh hT _ hg rfl

/-! ### an operation by its run -/

section
variable {P : Program} {ops : Array Oper} {rest : List Oper} {o : Oper} {a : Act} {Q : Exit → Act → World → Prop} {w w' : World}
theorem wpList_value (hg : o.guard = none) {v : Value} (hr : (execOp a.eval o).run P w = .ok (.value v) w') (hK : wpList P ops Q rest (a.put o.dst v) w') : wpList P ops Q (o :: rest) a w :=
  wpList_plain hg fun K hK' => by unfold Oper.wp; rw [hr]; exact hK' _ _ hK
theorem wpList_skip (hg : o.guard = none) (hr : (execOp a.eval o).run P w = .ok .skip w') (hK : wpList P ops Q rest (a.put o.dst undef) w') : wpList P ops Q (o :: rest) a w :=
  wpList_plain hg fun K hK' => by unfold Oper.wp; rw [hr]; exact hK' _ _ hK
end

/-! ### append of one element to a row of the program's own -/

section
variable {P : Program} {ops : Array Oper} {rest : List Oper} {o : Oper} {a : Act} {Q : Exit → Act → World → Prop} {w : World}
theorem Mod.ofGrown {w w' : World} {row : Option Nat} (hg : w.grownBy w' row) : Mod (fun k => some k = row) w w' := (Mod.refl _ w).grown hg (fun _ h => .inl h.symm)

theorem wpList_app (hgd : o.guard = none) (s x : Operand) (t : TypeId) (ho : o.op = .call { callee := .builtin .append, args := #[s, x], argTypes := #[t, t] })
    (base : Nat) (e : TypeId) (z : Value) (size bytes : Nat) (ht : P.underlying t = some (.slice e)) (hi : (P.info? e).map (fun i => (i.zero, i.size, i.bytes)) = some (some z, size, bytes))
    (hzs : z.cells.size = size) (hsz : 0 < size) (hby : bytes ≤ 1000)
    (v : Value) (n : Nat) (xs : List Value) (hs : a.eval s = v) (hown : w.ownsRow base e size v n xs)
    (ad : Addr) (c : Nat) (news : List Value) (hx : a.eval x = .slice (some ad) 1 c) (hl : news.length = size) (hnews : ∀ j u, news[j]? = some u → w.cell? (ad.add j) = some u) (h1 : ∀ u ∈ news, u.oneCell' = true)
    (hn : n ≤ 1000000000) (hbase : base ≤ w.heap.size)
    (h : ∀ g cap w', w'.ownsRow base e size (.slice (some ⟨g, 0, none⟩) (n + 1) cap) (n + 1) (xs ++ news) → Mod (fun k => some k = v.ownBlock) w w' → (v.ownBlock = some g ∨ g = w.heap.size) → g < w'.heap.size →
      wpList P ops Q rest (a.put o.dst (.slice (some ⟨g, 0, none⟩) (n + 1) cap)) w') : wpList P ops Q (o :: rest) a w := by
  obtain ⟨i, hi1, hz, h2, h3⟩ := info_parts hi
  refine wpList_append_lies w hgd s x t ho base e i z size bytes ht hi1 hz h2 h3 hzs hsz v n xs hs hown ad 1 c news hx (by omega) hnews h1 (by omega) (by unfold maxLen; omega) ?_ hbase w.heap.size rfl ?_
  · have : (n + 1) * bytes ≤ (1000000000 + 1) * 1000 := Nat.mul_le_mul (by omega) hby
    omega
  · intro g cap w' h4 h5 h6 h7
    exact h g cap w' h4 (Mod.ofGrown h5) h6 h7
end

/-- The same, as a step of a region that draws its order. -/
theorem step_app {P : Program} {w : World} {ops : Array Oper} {o : Oper} {a : Act} {K : Act → World → Prop} {Q : Exit → Act → World → Prop} {E : Prop} (hgd : o.guard = none) (s x : Operand) (t : TypeId)
    (ho : o.op = .call { callee := .builtin .append, args := #[s, x], argTypes := #[t, t] })
    (base : Nat) (e : TypeId) (z : Value) (size bytes : Nat) (ht : P.underlying t = some (.slice e)) (hi : (P.info? e).map (fun i => (i.zero, i.size, i.bytes)) = some (some z, size, bytes))
    (hzs : z.cells.size = size) (hsz : 0 < size) (hby : bytes ≤ 1000)
    (v : Value) (n : Nat) (xs : List Value) (hs : a.eval s = v) (hown : w.ownsRow base e size v n xs)
    (ad : Addr) (c : Nat) (news : List Value) (hx : a.eval x = .slice (some ad) 1 c) (hl : news.length = size) (hnews : ∀ j u, news[j]? = some u → w.cell? (ad.add j) = some u) (h1 : ∀ u ∈ news, u.oneCell' = true)
    (hn : n ≤ 1000000000) (hbase : base ≤ w.heap.size)
    (h : ∀ g cap w', w'.ownsRow base e size (.slice (some ⟨g, 0, none⟩) (n + 1) cap) (n + 1) (xs ++ news) → Mod (fun k => some k = v.ownBlock) w w' → (v.ownBlock = some g ∨ g = w.heap.size) → g < w'.heap.size →
      K (a.put o.dst (.slice (some ⟨g, 0, none⟩) (n + 1) cap)) w') :
    if Region.wanted o (yielded ops a.tmps) = true then Oper.wp P o a w K Q else E := by
  obtain ⟨i, hi1, hz, h2, h3⟩ := info_parts hi
  refine step_append_lies w hgd s x t ho base e i z size bytes ht hi1 hz h2 h3 hzs hsz v n xs hs hown ad 1 c news hx (by omega) hnews h1 (by omega) (by unfold maxLen; omega) ?_ hbase w.heap.size rfl ?_
  · have : (n + 1) * bytes ≤ (1000000000 + 1) * 1000 := Nat.mul_le_mul (by omega) hby
    omega
  · intro g cap w' h4 h5 h6 h7
    exact h g cap w' h4 (Mod.ofGrown h5) h6 h7

/-- The cells of a list of things that are some cells each. -/
theorem flat_get {α : Type} {ec : α → List Value} {sz : Nat} (hlen : ∀ x, (ec x).length = sz) : ∀ (l : List α) (j i : Nat), i < sz → (l.flatMap ec)[j * sz + i]? = (l[j]?).bind fun x => (ec x)[i]? := by
  intro l
  induction l with
  | nil => intro j i _; simp
  | cons x l ih =>
    intro j i hi
    rw [List.flatMap_cons]
    cases j with
    | zero => rw [Nat.zero_mul, Nat.zero_add, List.getElem?_append_left (by rw [hlen]; exact hi)]; rfl
    | succ j =>
      rw [Nat.succ_mul, List.getElem?_append_right (by rw [hlen]; omega), hlen, show j * sz + sz + i - sz = j * sz + i from by omega, ih j i hi]
      rfl

theorem flat_len {α : Type} {ec : α → List Value} {sz : Nat} (hlen : ∀ x, (ec x).length = sz) (l : List α) : (l.flatMap ec).length = l.length * sz := by
  induction l with
  | nil => simp
  | cons x l ih => rw [List.flatMap_cons, List.length_append, hlen, ih, List.length_cons, Nat.succ_mul]; omega

/-! ### maps as lists of pairs -/

structure KV (κ : Type) where
  key : κ
  val : Value
  born : Nat

def findIx {κ : Type} [DecidableEq κ] (k : κ) : List (KV κ) → Nat → Option (Nat × Value)
  | [], _ => none
  | e :: l, i => if k = e.key then some (i, e.val) else findIx k l (i + 1)

def getKV {κ : Type} [DecidableEq κ] (k : κ) : List (KV κ) → Option Value
  | [] => none
  | e :: l => if k = e.key then some e.val else getKV k l

def putKV {κ : Type} [DecidableEq κ] (k : κ) (v : Value) (c : Nat) : List (KV κ) → List (KV κ)
  | [] => [⟨k, v, c⟩]
  | e :: l => if k = e.key then ⟨k, v, e.born⟩ :: l else e :: putKV k v c l

def dropKV {κ : Type} [DecidableEq κ] (k : κ) : List (KV κ) → List (KV κ)
  | [] => []
  | e :: l => if k = e.key then l else e :: dropKV k l

def hasKV {κ : Type} [DecidableEq κ] (k : κ) (l : List (KV κ)) : Bool := (getKV k l).isSome

theorem getKV_putKV {κ : Type} [DecidableEq κ] (k k' : κ) (v : Value) (c : Nat) (l : List (KV κ)) : getKV k' (putKV k v c l) = if k' = k then some v else getKV k' l := by
  induction l with
  | nil => simp [putKV, getKV]
  | cons e l ih =>
    simp only [putKV]
    by_cases h : k = e.key
    · simp only [h, if_true, getKV]
      by_cases h' : k' = e.key <;> simp [h']
    · simp only [h, if_false, getKV, ih]
      by_cases h' : k' = e.key
      · simp [h']
        intro x; exact absurd x.symm h
      · simp [h']

theorem getKV_mem {κ : Type} [DecidableEq κ] {k : κ} {l : List (KV κ)} {v : Value} (h : getKV k l = some v) : ∃ e ∈ l, e.val = v := by
  induction l with
  | nil => simp [getKV] at h
  | cons e l ih =>
    simp only [getKV] at h
    split at h
    · exact ⟨e, List.mem_cons_self, by simpa using h⟩
    · obtain ⟨x, hx, hv⟩ := ih h
      exact ⟨x, List.mem_cons_of_mem _ hx, hv⟩

def entKV {κ : Type} (ek : κ → Value) (e : KV κ) : MapEntry := { key := ek e.key, val := e.val, born := e.born }

structure MKey (P : Program) (kt : TypeId) {κ : Type} [DecidableEq κ] (ek : κ → Value) : Prop where
  check : ∀ em k w, (Instr.checkKey em 10000 kt (ek k)).run P w = .ok () w
  find : ∀ (l : List (KV κ)) k w, (Instr.findKey kt (ek k) (l.map (entKV ek))).run P w = .ok (findIx k l 0) w
  bits : ∀ k, Instr.sameBits 10000 (ek k) (ek k) = true

def MapIs {κ : Type} (ek : κ → Value) (w : World) (b : Nat) (l : List (KV κ)) (c : Nat) : Prop := w.heap[b]? = some (.map (l.map (entKV ek)).toArray c)

theorem MapIs.lt {κ : Type} {ek : κ → Value} {w : World} {b : Nat} {l : List (KV κ)} {c : Nat} (h : MapIs ek w b l c) : b < w.heap.size := (Array.getElem?_eq_some_iff.1 h).1

theorem MapIs.keep {κ : Type} {ek : κ → Value} {S : Nat → Prop} {w w' : World} {b : Nat} {l : List (KV κ)} {c : Nat} (h : MapIs ek w b l c) (hm : Mod S w w') (hs : ¬ S b) : MapIs ek w' b l c := by
  unfold MapIs; rw [hm.block b h.lt hs]; exact h

theorem MapIs.ne {κ : Type} {ek : κ → Value} {w : World} {b b' : Nat} {l : List (KV κ)} {c : Nat} {cs : Array Value} {T : TypeId} (h : MapIs ek w b l c) (h' : Blk w b' cs T) : b ≠ b' := by
  rintro rfl
  unfold MapIs at h; unfold Blk at h'
  rw [h] at h'; cases h'

theorem findIx_val {κ : Type} [DecidableEq κ] (k : κ) (l : List (KV κ)) : ∀ i, (findIx k l i).map (·.2) = getKV k l := by
  induction l with
  | nil => intro i; rfl
  | cons e l ih => intro i; simp only [findIx, getKV]; split <;> simp [ih]

theorem findIx_ge {κ : Type} [DecidableEq κ] (k : κ) (l : List (KV κ)) : ∀ i r, findIx k l i = some r → i ≤ r.1 := by
  induction l with
  | nil => intro i r h; simp [findIx] at h
  | cons e l ih =>
    intro i r h
    simp only [findIx] at h
    split at h
    · simp only [Option.some.injEq] at h; subst h; exact Nat.le_refl _
    · have := ih _ _ h; omega

theorem putKV_none {κ : Type} [DecidableEq κ] (k : κ) (v : Value) (c : Nat) (l : List (KV κ)) : ∀ i, findIx k l i = none → putKV k v c l = l ++ [⟨k, v, c⟩] := by
  induction l with
  | nil => intro i _; rfl
  | cons e l ih =>
    intro i h
    simp only [findIx] at h
    split at h
    · simp at h
    · rename_i hn; simp only [putKV, hn, if_false, ih _ h, List.cons_append]

theorem putKV_some {κ : Type} [DecidableEq κ] (ek : κ → Value) (k : κ) (v : Value) (c : Nat) (l : List (KV κ)) : ∀ i r, findIx k l i = some r →
    ((l.map (entKV ek)).modify (r.1 - i) fun e => { e with key := ek k, val := v }) = (putKV k v c l).map (entKV ek) := by
  induction l with
  | nil => intro i r h; simp [findIx] at h
  | cons e l ih =>
    intro i r h
    have hge := findIx_ge k _ _ _ h
    simp only [findIx] at h
    split at h
    · rename_i hk
      simp only [Option.some.injEq] at h; subst h
      simp [putKV, hk, entKV]
    · rename_i hk
      have h1 := ih _ _ h
      have h2 := findIx_ge k _ _ _ h
      have e1 : r.1 - i = (r.1 - (i + 1)) + 1 := by omega
      simp only [putKV, hk, if_false, List.map_cons]
      rw [e1, List.modify_succ_cons, h1]

theorem dropKV_some {κ : Type} [DecidableEq κ] (ek : κ → Value) (k : κ) (l : List (KV κ)) : ∀ i r, findIx k l i = some r → (l.map (entKV ek)).eraseIdx (r.1 - i) = (dropKV k l).map (entKV ek) := by
  induction l with
  | nil => intro i r h; simp [findIx] at h
  | cons e l ih =>
    intro i r h
    have hge := findIx_ge k _ _ _ h
    simp only [findIx] at h
    split at h
    · rename_i hk
      simp only [Option.some.injEq] at h; subst h
      simp [dropKV, hk]
    · rename_i hk
      have h1 := ih _ _ h
      have h2 := findIx_ge k _ _ _ h
      have e1 : r.1 - i = (r.1 - (i + 1)) + 1 := by omega
      simp only [dropKV, hk, if_false, List.map_cons]
      rw [e1, List.eraseIdx_cons_succ, h1]

theorem dropKV_none {κ : Type} [DecidableEq κ] (k : κ) (l : List (KV κ)) : ∀ i, findIx k l i = none → dropKV k l = l := by
  induction l with
  | nil => intro i _; rfl
  | cons e l ih =>
    intro i h
    simp only [findIx] at h
    split at h
    · simp at h
    · rename_i hn; simp only [dropKV, hn, if_false, ih _ h]

theorem mod_setB (w : World) (b : Nat) (o : Obj) : Mod (fun i => i = b) w { w with heap := w.heap.setIfInBounds b o } :=
  ⟨rfl, rfl, rfl, by simp, fun j _ hj => by
    show (w.heap.setIfInBounds b o)[j]? = _
    rw [Array.getElem?_setIfInBounds, if_neg (fun x => hj x.symm)]⟩

section
variable {P : Program} {kt vt mt : TypeId} {κ : Type} [DecidableEq κ] {ek : κ → Value} {w : World} {b : Nat} {l : List (KV κ)} {c : Nat}

theorem run_lookup_ok (K : MKey P kt ek) (ht : P.underlying mt = some (.map kt vt)) {z : Value} (hz : (zeroValue vt).run P w = .ok z w) (h : MapIs ek w b l c) (k : κ) :
    (Instr.lookup mt (.map (some b)) (ek k) true).run P w = .ok (.tuple #[(getKV k l).getD z, .bool (hasKV k l)]) w := by
  unfold MapIs at h
  have hv := findIx_val k l 0
  unfold hasKV
  rw [← hv]
  cases hf : findIx k l 0 with
  | none => simp [Instr.lookup, run_underlying ht, MapKept.run_getObj_map h, Result.andThen, K.check, K.find, hf, hz]
  | some r => simp [Instr.lookup, run_underlying ht, MapKept.run_getObj_map h, Result.andThen, K.check, K.find, hf]

theorem run_lookup_one (K : MKey P kt ek) (ht : P.underlying mt = some (.map kt vt)) {z : Value} (hz : (zeroValue vt).run P w = .ok z w) (h : MapIs ek w b l c) (k : κ) :
    (Instr.lookup mt (.map (some b)) (ek k) false).run P w = .ok ((getKV k l).getD z) w := by
  unfold MapIs at h
  have hv := findIx_val k l 0
  rw [← hv]
  cases hf : findIx k l 0 with
  | none => simp [Instr.lookup, run_underlying ht, MapKept.run_getObj_map h, Result.andThen, K.check, K.find, hf, hz]
  | some r => simp [Instr.lookup, run_underlying ht, MapKept.run_getObj_map h, Result.andThen, K.check, K.find, hf]

theorem run_mapUpdate (K : MKey P kt ek) (ht : P.underlying mt = some (.map kt vt)) (h : MapIs ek w b l c) (k : κ) (v : Value) :
    ∃ w' c', (Instr.mapUpdate mt (.map (some b)) (ek k) v).run P w = .ok () w' ∧ MapIs ek w' b (putKV k v c l) c' ∧ Mod (fun i => i = b) w w' ∧ w'.heap.size = w.heap.size := by
  have hb := h
  unfold MapIs at hb
  cases hf : findIx k l 0 with
  | none =>
    refine ⟨{ w with heap := w.heap.setIfInBounds b (.map ((l.map (entKV ek)).toArray.push { key := ek k, val := v, born := c }) (c + 1)) }, c + 1, ?_, ?_, mod_setB _ _ _, by simp⟩
    · simp only [Instr.mapUpdate, Sem.run_bind, run_underlying ht, MapKept.run_getObj_map hb, Result.andThen, K.check, K.find, hf]
      exact MapKept.run_setObj_map _ hb
    unfold MapIs
    rw [putKV_none k v c l 0 hf]
    simp [h.lt, entKV]
  | some r =>
    have hp := putKV_some ek k v c l 0 r hf
    rw [Nat.sub_zero] at hp
    have hkey : ∀ (es : List (KV κ)) i r, findIx k es i = some r → ((es.map (entKV ek))[r.1 - i]?).map (·.key) = some (ek k) := by
      intro es
      induction es with
      | nil => intro i r h; simp [findIx] at h
      | cons e es ih =>
        intro i r h
        have h2 := h
        simp only [findIx] at h
        split at h
        · rename_i hk; simp only [Option.some.injEq] at h; subst h; simp [entKV, hk]
        · have h3 := ih _ _ h
          have h4 := findIx_ge k _ _ _ h
          have e1 : r.1 - i = (r.1 - (i + 1)) + 1 := by omega
          rw [e1]; simpa using h3
    have hk := hkey l 0 r hf
    rw [Nat.sub_zero] at hk
    have hk' : (((l.map (entKV ek)).toArray[r.1]?).map (·.key)).getD (ek k) = ek k := by
      rw [List.getElem?_toArray, hk]; rfl
    refine ⟨{ w with heap := w.heap.setIfInBounds b (.map ((l.map (entKV ek)).toArray.modify r.1 fun e => { e with key := ek k, val := v }) c) }, c, ?_, ?_, mod_setB _ _ _, by simp⟩
    · simp only [Instr.mapUpdate, Sem.run_bind, run_underlying ht, MapKept.run_getObj_map hb, Result.andThen, K.check, K.find, hf, hk', Instr.keyThatStays, K.bits, if_true, Sem.run_pure]
      exact MapKept.run_setObj_map _ hb
    unfold MapIs
    simp [h.lt]
    exact hp

theorem run_delete (K : MKey P kt ek) (ht : P.underlying mt = some (.map kt vt)) (h : MapIs ek w b l c) (k : κ) (ty : TypeId) :
    ∃ w', (Builtin.delete_ #[mt, kt] ty #[.map (some b), ek k]).run P w = .ok (.tuple #[]) w' ∧ MapIs ek w' b (dropKV k l) c ∧ Mod (fun i => i = b) w w' ∧ w'.heap.size = w.heap.size := by
  have hb := h
  unfold MapIs at hb
  cases hf : findIx k l 0 with
  | none =>
    refine ⟨{ w with heap := w.heap.setIfInBounds b (.map (l.map (entKV ek)).toArray c) }, by simp [Builtin.delete_, run_underlying ht, MapKept.run_getObj_map hb, Result.andThen, K.check, K.find, hf, MapKept.run_setObj_map _ hb], ?_, mod_setB _ _ _, by simp⟩
    unfold MapIs
    rw [dropKV_none k l 0 hf]
    simp [h.lt]
  | some r =>
    have hp := dropKV_some ek k l 0 r hf
    rw [Nat.sub_zero] at hp
    refine ⟨{ w with heap := w.heap.setIfInBounds b (.map ((l.map (entKV ek)).toArray.eraseIdxIfInBounds r.1) c) }, ?_, ?_, mod_setB _ _ _, by simp⟩
    · simp only [Builtin.delete_, Sem.run_bind, run_underlying ht, MapKept.run_getObj_map hb, Result.andThen, K.check, K.find, hf, MapKept.run_setObj_map _ hb, Sem.run_pure, List.getElem?_toArray, List.getElem?_cons_zero, List.getElem?_cons_succ]
    unfold MapIs
    simp [h.lt]
    exact hp
end

/-! ### keys: whole numbers; structs of two whole numbers -/

def ekInt (n : Int) : Value := .int .i64 n
def ekTwo (p : Int × Int) : Value := .agg #[.int .i64 p.1, .int .i64 p.2]

theorem findKey_asking {P : Program} {kt : TypeId} {κ : Type} [DecidableEq κ] {ek : κ → Value} (heq : ∀ a b w, (Op.equal kt (ek a) (ek b)).run P w = .ok (decide (a = b)) w) :
    ∀ (l : List (KV κ)) k i w, (Instr.findAsking kt (ek k) (l.map (entKV ek)) i).run P w = .ok (findIx k l i) w := by
  intro l
  induction l with
  | nil => intro k i w; simp [Instr.findAsking, findIx]
  | cons e l ih =>
    intro k i w
    simp only [List.map_cons, Instr.findAsking, Sem.run_bind, entKV, heq, Result.andThen, findIx]
    by_cases h : k = e.key
    · simp [h]
    · simp only [h, decide_false, Bool.false_eq_true, if_false]; exact ih _ _ _

theorem run_checkKey_int {P : Program} {kt : TypeId} {q : IntKind} (ht : P.underlying kt = some (.int q)) (em : Bool) (n : Nat) (x : Int) (w : World) : (Instr.checkKey em (n + 1) kt (.int .i64 x)).run P w = .ok () w := by
  unfold Instr.checkKey; simp only [Sem.run_bind, run_underlying ht, Result.andThen]; rfl

theorem mkey_int {P : Program} {kt : TypeId} (ht : P.underlying kt = some (.int .i64)) : MKey P kt ekInt where
  check em k w := by unfold Instr.checkKey; simp only [Sem.run_bind, run_underlying ht, Result.andThen, ekInt]; rfl
  bits k := by simp [ekInt, Instr.sameBits]
  find l k w := by
    have h : ∀ (l : List (KV Int)) k i, Instr.findNow (.int .i64) (ekInt k) (l.map (entKV ekInt)) i = some (findIx k l i) := by
      intro l
      induction l with
      | nil => intro k i; rfl
      | cons e l ih =>
        intro k i
        simp only [List.map_cons, Instr.findNow, entKV, ekInt, Instr.sameNow, if_true, findIx]
        by_cases h : k = e.key
        · simp [h]
        · have h' : (k == e.key) = false := by simp [h]
          simp only [h', h, if_false]; exact ih _ _
    simp only [Instr.findKey, Sem.run_bind, run_underlying ht, Result.andThen, h, Sem.run_pure]

theorem mkey_two {P : Program} {kt : TypeId} (heq : ∀ a b w, (Op.equal kt (ekTwo a) (ekTwo b)).run P w = .ok (decide (a = b)) w) {fs : Array Field} (ht : P.underlying kt = some (.struct fs))
    (hc : ∀ em k w, (Instr.checkKey em 10000 kt (ekTwo k)).run P w = .ok () w) : MKey P kt ekTwo where
  check := hc
  bits k := by simp [ekTwo, Instr.sameBits]
  find l k w := by
    cases l with
    | nil => simp [Instr.findKey, run_underlying ht, Instr.findNow, findIx, Result.andThen]
    | cons e l =>
      have h0 : Instr.findNow (.struct fs) (ekTwo k) ((e :: l).map (entKV ekTwo)) 0 = none := by simp [Instr.findNow, Instr.sameNow]
      simp only [Instr.findKey, Sem.run_bind, run_underlying ht, Result.andThen, h0]
      exact findKey_asking heq (e :: l) k 0 w

end Go.Proofs.Ytjmcfodlhhndoaa
