/-
  The contracts of package files: what each call answers, and what it does to the store.
-/
import Derived.Test.YtdpjlkkpjnmdnaaRows
import Derived.Test.YtdpjlkkpjnmdnaaLib
namespace Go.Proofs.Ytdpjlkkpjnmdnaa
open Go.RowKit

/-- The store as data: its sizes, the pages that were written, how many writes. -/
structure FS where
  sizes : List Int
  l : List (KV (Int × Int))
  writes : Int

def sizeAt (S : FS) (f : Int) : Int := if 0 ≤ f ∧ f < S.sizes.length then S.sizes.getD f.toNat 0 else 0
def hasF (S : FS) (k : Int × Int) : Prop := 0 ≤ k.2 ∧ k.2 < sizeAt S k.1

structure FilesIs (w : World) (b mb : Nat) (sv : Value) (S : FS) : Prop where
  blk : Blk w b #[sv, .map (some mb), .int .i64 S.writes] 49
  own : w.ownsRow 0 3 1 sv S.sizes.length (S.sizes.map (Value.int .i64))
  map : ∃ c, MapIs ekTwo w mb S.l c
  few : S.sizes.length ≤ 32
  lim : ∀ n ∈ S.sizes, 0 ≤ n ∧ n ≤ 4096
  vals : ∀ e ∈ S.l, ∃ s : ByteArray, e.val = .string s
  wlo : 0 ≤ S.writes

theorem sizeAt_bd {w : World} {b mb : Nat} {sv : Value} {S : FS} (h : FilesIs w b mb sv S) (f : Int) : 0 ≤ sizeAt S f ∧ sizeAt S f ≤ 4096 := by
  unfold sizeAt
  split
  · rename_i hf
    have hlt : f.toNat < S.sizes.length := by omega
    rw [List.getD_eq_getElem?_getD, List.getElem?_eq_getElem hlt]
    exact h.lim _ (List.getElem_mem hlt)
  · omega

theorem FilesIs.keep {Z : Nat → Prop} {w w' : World} {b mb : Nat} {sv : Value} {S : FS} (h : FilesIs w b mb sv S) (hm : Mod Z w w') (h1 : ¬ Z b) (h2 : ¬ Z mb) (h3 : ∀ g, sv.ownBlock = some g → ¬ Z g) : FilesIs w' b mb sv S where
  blk := h.blk.keep hm h1
  own := ownsRow_keep h.own hm h3
  map := let ⟨c, hc⟩ := h.map; ⟨c, hc.keep hm h2⟩
  few := h.few
  lim := h.lim
  vals := h.vals
  wlo := h.wlo

theorem FilesIs.keepN {w w' : World} {b mb : Nat} {sv : Value} {S : FS} (h : FilesIs w b mb sv S) (hm : Mod (fun _ => False) w w') : FilesIs w' b mb sv S := h.keep hm (fun x => x) (fun x => x) (fun _ _ x => x)

set_option maxHeartbeats 400000 in
theorem size_any (b mb : Nat) (sv : Value) (S : FS) (f : Int) (w : World) (h : FilesIs w b mb sv S) :
    Calls Try.prog 18 #[.pointer (some ⟨b, 0, none⟩), .int .i64 f] w fun e w' => e = .returned (.int .i64 (sizeAt S f)) ∧ w = w' := by
  have hb := h.blk
  have hown := h.own
  have hc0 := hb.cell 0
  simp only [List.getElem?_toArray, List.getElem?_cons_zero] at hc0
  have hfew := h.few
  by_cases h0 : f < 0
  · have e1 : sizeAt S f = 0 := by unfold sizeAt; rw [if_neg (by omega)]
    rw [e1]
    clear e1
    go_enter Try.func18, Try.ntmps18
    go_wp2
    go_ret
    exact ⟨rfl, rfl⟩
  · obtain ⟨k, rfl⟩ := Int.eq_ofNat_of_zero_le (show 0 ≤ f by omega)
    by_cases h1 : S.sizes.length ≤ k
    · have e1 : sizeAt S k = 0 := by unfold sizeAt; rw [if_neg (by omega)]
      rw [e1]
      clear e1
      rcases hown.2 with ⟨rfl, hn⟩ | ⟨g, cap, cur, rfl, _⟩
      · have hk : ¬ ((k : Int) < 0) := by omega
        go_enter Try.func18, Try.ntmps18
        go_wp2
        go_ret
        exact ⟨rfl, rfl⟩
      · go_enter Try.func18, Try.ntmps18
        go_wp2
        go_ret
        exact ⟨rfl, rfl⟩
    · have e1 : sizeAt S k = S.sizes[k] := by
        unfold sizeAt; rw [if_pos (by omega), Int.toNat_natCast, List.getD_eq_getElem?_getD, List.getElem?_eq_getElem (by omega)]; rfl
      rw [e1]
      clear e1
      rcases hown.2 with ⟨rfl, hn⟩ | ⟨g, cap, cur, rfl, _⟩
      · omega
      · have hck := hown.cellAt k (by omega)
        rw [List.getElem?_map, List.getElem?_eq_getElem (by omega)] at hck
        simp only [Option.map_some] at hck
        have hlt : k < S.sizes.length := by omega
        go_enter Try.func18, Try.ntmps18
        go_wp2
        go_ret
        exact ⟨rfl, rfl⟩

theorem hasF_iff (S : FS) (k : Int × Int) : hasF S k ↔ 0 ≤ k.2 ∧ k.2 < sizeAt S k.1 := Iff.rfl

def hasB (S : FS) (f i : Int) : Bool := decide (0 ≤ i) && decide (i < sizeAt S f)

set_option maxHeartbeats 400000 in
theorem has_any (b mb : Nat) (sv : Value) (S : FS) (f i : Int) (w : World) (h : FilesIs w b mb sv S) :
    Calls Try.prog 19 #[.pointer (some ⟨b, 0, none⟩), .agg #[.int .i64 f, .int .i64 i]] w fun e w' => e = .returned (.bool (hasB S f i)) ∧ Mod (fun _ => False) w w' := by
  by_cases h0 : 0 ≤ i
  · have e1 : hasB S f i = decide (i < sizeAt S f) := by unfold hasB; simp [h0]
    rw [e1]; clear e1
    go_enter Try.func19, Try.ntmps19
    go_wp2
    go_quiet ((go_at_call 18; exact quiet_same (size_any b mb sv S f _ ((h.keepN (Mod.alloc' _ _ _)).keepN (Mod.drewN' _ _ _)))))
    go_wp2
    go_ret
    exact ⟨rfl, (Mod.alloc' _ _ _).drewN _⟩
  · have e1 : hasB S f i = false := by unfold hasB; simp [h0]
    rw [e1]; clear e1
    have h0' : decide (0 ≤ i) = false := by simp [h0]
    go_enter Try.func19, Try.ntmps19
    go_wp2
    go_quiet (fail)
    go_wp2
    go_ret
    exact ⟨rfl, (Mod.alloc' _ _ _).drewN _⟩

def lowOf (f x : Int) : Int := f % 256 * 31 + x % 256 * 7
def firstL (f x : Int) : List Int := (List.range 16).map fun (i : Nat) => (lowOf f x + (i : Int)) % 256
def firstOf (f x : Int) : ByteArray := strOf (firstL f x)

set_option maxHeartbeats 1000000 in
theorem first_any (f x : Int) (w : World) :
    Calls Try.prog 11 #[.agg #[.int .i64 f, .int .i64 x]] w fun e w' => e = .returned (.string (firstOf f x)) ∧ Mod (fun _ => False) w w' := by
  have hconv := fun (w0 : World) (b : Nat) (hb : b = w0.heap.size) (a0 a1 a2 a3 a4 a5 a6 a7 a8 a9 a10 a11 a12 a13 a14 a15 : Int) => run_conv_cells (P := Try.prog) Try.underlying51 Try.underlying5 Try.underlying9 w0 [a0, a1, a2, a3, a4, a5, a6, a7, a8, a9, a10, a11, a12, a13, a14, a15] 50 b 16 hb rfl
  simp only [List.map_cons, List.map_nil] at hconv
  go_enter Try.func11, Try.ntmps11
  go_wp2
  go_rounds 17
  go_ret
  refine ⟨?_, ((Mod.alloc' _ _ _).alloc _)⟩
  unfold firstOf firstL lowOf
  simp [List.range, List.range.loop]

theorem key_eq (a b : Int × Int) (w : World) : (Op.equal 25 (ekTwo a) (ekTwo b)).run Try.prog w = .ok (decide (a = b)) w := by
  have h := run_equalIn_struct (P := Try.prog) w 9999 25 #[.int .i64 a.1, .int .i64 a.2] #[.int .i64 b.1, .int .i64 b.2] (by kernel_rfl) (by kernel_rfl)
  show (Op.equalIn (9999 + 1) 25 (ekTwo a) (ekTwo b)).run Try.prog w = _
  unfold ekTwo
  rw [h]
  simp [go_sem]
  obtain ⟨a1, a2⟩ := a
  obtain ⟨b1, b2⟩ := b
  by_cases h1 : a1 = b1 <;> by_cases h2 : a2 = b2 <;> simp [h1, h2]

theorem key_check (em : Bool) (k : Int × Int) (w : World) : (Instr.checkKey em 10000 25 (ekTwo k)).run Try.prog w = .ok () w := by
  show (Instr.checkKey em (9999 + 1) 25 (ekTwo k)).run Try.prog w = _
  have h := fun x w => run_checkKey_int (P := Try.prog) Try.underlying3 em 9998 x w
  unfold ekTwo Instr.checkKey
  simp [go_sem, h]

theorem mkey_key : MKey Try.prog 25 ekTwo := mkey_two key_eq (fs := Try.prog.fieldsOf 25) (by kernel_rfl) key_check

/-- What a page reads as. -/
def readS (S : FS) (f i : Int) : ByteArray × Int :=
  if hasB S f i then
    match getKV (f, i) S.l with
    | some (.string s) => (s, 0)
    | _ => (firstOf f i, 0)
  else (⟨#[]⟩, 2)

set_option maxHeartbeats 400000 in
theorem read_any (b mb : Nat) (sv : Value) (S : FS) (f i : Int) (w : World) (h : FilesIs w b mb sv S) :
    Calls Try.prog 15 #[.pointer (some ⟨b, 0, none⟩), .agg #[.int .i64 f, .int .i64 i]] w fun e w' =>
      e = .returned (.tuple #[.string (readS S f i).1, .int .i64 (readS S f i).2]) ∧ Mod (fun _ => False) w w' := by
  have hz := fun (w : World) => (show (zeroValue 9).run Try.prog w = .ok (.string ⟨#[]⟩) w by kernel_rfl)
  obtain ⟨c, hmap⟩ := h.map
  cases hh : hasB S f i
  · have e1 : readS S f i = (⟨#[]⟩, 2) := by unfold readS; rw [hh]; rfl
    rw [e1]
    clear e1
    go_enter Try.func15, Try.ntmps15
    go_wp2_with fail
    refine (has_any b mb sv S f i _ (h.keepN (Mod.alloc' _ _ _))).mono ?_
    rw [hh]
    clear hh
    rintro e w1 ⟨rfl, hm1⟩
    go_wp2_with fail
    go_ret2
    exact ⟨rfl, (Mod.alloc' _ _ _).trans hm1⟩
  · have hall : ∀ v, getKV (f, i) S.l = some v → ∃ s : ByteArray, v = .string s := by
      intro v hv
      obtain ⟨e, he, hev⟩ := getKV_mem hv
      obtain ⟨s, hs⟩ := h.vals e he
      exact ⟨s, by rw [← hev, hs]⟩
    cases hg : getKV (f, i) S.l with
    | some v =>
      obtain ⟨s, rfl⟩ := hall v hg
      have e1 : readS S f i = (s, 0) := by unfold readS; rw [hh, hg]; rfl
      rw [e1]
      clear e1 hall
      go_enter Try.func15, Try.ntmps15
      go_wp2_with fail
      refine (has_any b mb sv S f i _ (h.keepN (Mod.alloc' _ _ _))).mono ?_
      rw [hh]
      clear hh
      rintro e w1 ⟨rfl, hm1⟩
      have h1 := (h.keepN (Mod.alloc' _ _ _)).keepN hm1
      have hbx := (Blk.new w #[.int .i64 f, .int .i64 i] 25).keep hm1 (fun x => x)
      have hbx0 := hbx.cell 0
      have hbx1 := hbx.cell 1
      simp only [List.getElem?_toArray, List.getElem?_cons_zero, List.getElem?_cons_succ] at hbx0 hbx1
      have hb := h1.blk
      have hb0 := hb.cell 0
      have hb1 := hb.cell 1
      have hb2 := hb.cell 2
      simp only [List.getElem?_toArray, List.getElem?_cons_zero, List.getElem?_cons_succ] at hb0 hb1 hb2
      have hlook := fun (n : Nat) => run_lookup_ok mkey_key Try.underlying47 (hz (w1.drewN n)) (((hmap.keep (Mod.alloc' (fun _ => False) _ _) (fun x => x)).keep hm1 (fun x => x)).keep (Mod.drewN' (fun _ => False) w1 n) (fun x => x)) (f, i)
      simp only [hasKV, hg, ekTwo, Option.getD_some, Option.isSome_some] at hlook
      clear hg
      go_wp2_with fail
      go_quiet (fail)
      go_wp2_with fail
      go_ret2
      exact ⟨rfl, ((Mod.alloc' _ _ _).trans hm1).drewN _⟩
    | none =>
      have e1 : readS S f i = (firstOf f i, 0) := by unfold readS; rw [hh, hg]; rfl
      rw [e1]
      clear e1 hall
      go_enter Try.func15, Try.ntmps15
      go_wp2_with fail
      refine (has_any b mb sv S f i _ (h.keepN (Mod.alloc' _ _ _))).mono ?_
      rw [hh]
      clear hh
      rintro e w1 ⟨rfl, hm1⟩
      have h1 := (h.keepN (Mod.alloc' _ _ _)).keepN hm1
      have hbx := (Blk.new w #[.int .i64 f, .int .i64 i] 25).keep hm1 (fun x => x)
      have hbx0 := hbx.cell 0
      have hbx1 := hbx.cell 1
      simp only [List.getElem?_toArray, List.getElem?_cons_zero, List.getElem?_cons_succ] at hbx0 hbx1
      have hb := h1.blk
      have hb0 := hb.cell 0
      have hb1 := hb.cell 1
      have hb2 := hb.cell 2
      simp only [List.getElem?_toArray, List.getElem?_cons_zero, List.getElem?_cons_succ] at hb0 hb1 hb2
      have hlook := fun (n : Nat) => run_lookup_ok mkey_key Try.underlying47 (hz (w1.drewN n)) (((hmap.keep (Mod.alloc' (fun _ => False) _ _) (fun x => x)).keep hm1 (fun x => x)).keep (Mod.drewN' (fun _ => False) w1 n) (fun x => x)) (f, i)
      simp only [hasKV, hg, ekTwo, Option.getD_none, Option.isSome_none] at hlook
      clear hg
      go_wp2_with fail
      go_quiet (fail)
      go_wp2_with fail
      refine (first_any f i _).mono ?_
      rintro e w2 ⟨rfl, hm2⟩
      go_wp2_with fail
      go_ret2
      exact ⟨rfl, (((Mod.alloc' _ _ _).trans hm1).drewN _).trans hm2⟩

/-- What a write answers. -/
def writeE (S : FS) (f i : Int) (t : ByteArray) : Int := if hasB S f i then (if t.size = 16 then 0 else 1) else 2
/-- What a write makes of the store. -/
def writeS (S : FS) (f i : Int) (t : ByteArray) (c : Nat) : FS := if hasB S f i = true ∧ t.size = 16 then { S with l := putKV (f, i) (.string t) c S.l, writes := S.writes + 1 } else S

theorem putKV_vals {κ : Type} [DecidableEq κ] {k : κ} {v : Value} {c : Nat} {l : List (KV κ)} {p : Value → Prop} (h : ∀ e ∈ l, p e.val) (hv : p v) : ∀ e ∈ putKV k v c l, p e.val := by
  induction l with
  | nil => intro e he; simp only [putKV, List.mem_singleton] at he; subst he; exact hv
  | cons x l ih =>
    intro e he
    simp only [putKV] at he
    split at he
    · rcases List.mem_cons.1 he with rfl | he
      · exact hv
      · exact h e (List.mem_cons_of_mem _ he)
    · rcases List.mem_cons.1 he with rfl | he
      · exact h e List.mem_cons_self
      · exact ih (fun e he => h e (List.mem_cons_of_mem _ he)) e he

set_option maxHeartbeats 400000 in
theorem write_any (b mb : Nat) (sv : Value) (S : FS) (f i : Int) (t : ByteArray) (w : World) (h : FilesIs w b mb sv S) (hw : S.writes < 1000000) :
    Calls Try.prog 13 #[.pointer (some ⟨b, 0, none⟩), .agg #[.int .i64 f, .int .i64 i], .string t] w fun e w' =>
      e = .returned (.int .i64 (writeE S f i t)) ∧ Mod (fun k => k = b ∨ k = mb) w w' ∧ ∃ c, FilesIs w' b mb sv (writeS S f i t c) := by
  obtain ⟨c, hmap⟩ := h.map
  cases hh : hasB S f i
  · have e1 : writeE S f i t = 2 := by unfold writeE; rw [hh]; rfl
    have e2 : ∀ c, writeS S f i t c = S := by intro c; unfold writeS; rw [hh]; rfl
    rw [e1]
    simp only [e2]
    clear e1 e2
    go_enter Try.func13, Try.ntmps13
    go_wp2_with fail
    refine (has_any b mb sv S f i _ (h.keepN (Mod.alloc' _ _ _))).mono ?_
    rw [hh]
    clear hh
    rintro e w1 ⟨rfl, hm1⟩
    go_wp2_with fail
    go_ret
    exact ⟨rfl, ((Mod.alloc' _ _ _).trans hm1).mono (fun _ x => x.elim), c, (h.keepN (Mod.alloc' _ _ _)).keepN hm1⟩
  · by_cases hs : t.size = 16
    · have e1 : writeE S f i t = 0 := by unfold writeE; rw [hh, hs]; rfl
      have e2 : ∀ c, writeS S f i t c = { S with l := putKV (f, i) (.string t) c S.l, writes := S.writes + 1 } := by intro c; unfold writeS; rw [hh, hs]; rfl
      rw [e1]
      simp only [e2]
      clear e1 e2
      have hs' : ((t.size : Int) != 16) = false := by simp [hs]
      have hw0 := h.wlo
      go_enter Try.func13, Try.ntmps13
      go_wp2_with fail
      refine (has_any b mb sv S f i _ (h.keepN (Mod.alloc' _ _ _))).mono ?_
      rw [hh]
      clear hh
      rintro e w1 ⟨rfl, hm1⟩
      have h1 := (h.keepN (Mod.alloc' _ _ _)).keepN hm1
      have hmap1 := (hmap.keep (Mod.alloc' (fun _ => False) _ _) (fun x => x)).keep hm1 (fun x => x)
      have hbx := (Blk.new w #[.int .i64 f, .int .i64 i] 25).keep hm1 (fun x => x)
      have hbx0 := hbx.cell 0
      have hbx1 := hbx.cell 1
      simp only [List.getElem?_toArray, List.getElem?_cons_zero, List.getElem?_cons_succ] at hbx0 hbx1
      have hb := h1.blk
      have hb0 := hb.cell 0
      have hb1 := hb.cell 1
      have hb2 := hb.cell 2
      simp only [List.getElem?_toArray, List.getElem?_cons_zero, List.getElem?_cons_succ] at hb0 hb1 hb2
      obtain ⟨w2, c2, hrun, hmap2, hmod2, hsz2⟩ := run_mapUpdate mkey_key Try.underlying47 (hmap1.keep (Mod.refl (fun _ => False) w1).drew (fun x => x)) (f, i) (.string t)
      simp only [ekTwo] at hrun
      have hbm := hmap1.ne hb
      have hmod2 := (Mod.refl (fun i => i = mb) w1).drew.trans hmod2
      have hb2' := hb.keep hmod2 (fun x => hbm x.symm)
      have hc2 := hb2'.cell 2
      simp only [List.getElem?_toArray, List.getElem?_cons_zero, List.getElem?_cons_succ] at hc2
      have hf2 := hb2'.frozen 2
      have HS := Lib.hid hs
      clear hs
      go_wp2_with fail
      go_still_tail 6, (by kernel_rfl)
      go_wp2_with fail
      go_ret
      refine ⟨rfl, ?_, c, ?_⟩
      · refine Mod.setCell ?_ (.inl (.inl rfl)) _
        exact (((Mod.alloc' (fun _ => False) _ _).trans hm1).mono (fun _ x => x.elim)).trans (hmod2.mono (fun _ x => .inr x))
      · have hown1 := ownsRow_keep h1.own hmod2 (fun g hg => ownsRow_ne_map h1.own hmap1 g hg)
        refine ⟨?_, ?_, ⟨c2, ?_⟩, h.few, h.lim, ?_, ?_⟩
        · exact hb2'.set 2 _
        · exact ownsRow_keep hown1 (mod_setCell _ _ _ _) (fun g hg => ownsRow_ne_blk h1.own hb (by decide) g hg)
        · exact (hmap2.keep (mod_setCell w2 b 2 (.int .i64 (S.writes + 1))) hbm)
        · exact putKV_vals (p := fun v => ∃ s : ByteArray, v = .string s) h.vals ⟨t, rfl⟩
        · show 0 ≤ S.writes + 1
          omega
    · have e1 : writeE S f i t = 1 := by unfold writeE; rw [hh]; simp [hs]
      have e2 : ∀ c, writeS S f i t c = S := by intro c; unfold writeS; rw [hh]; simp [hs]
      rw [e1]
      simp only [e2]
      clear e1 e2
      have hs' : ((t.size : Int) != 16) = true := by rw [bne_iff_ne]; omega
      go_enter Try.func13, Try.ntmps13
      go_wp2_with fail
      refine (has_any b mb sv S f i _ (h.keepN (Mod.alloc' _ _ _))).mono ?_
      rw [hh]
      clear hh
      rintro e w1 ⟨rfl, hm1⟩
      go_wp2_with fail
      go_ret
      exact ⟨rfl, ((Mod.alloc' _ _ _).trans hm1).mono (fun _ x => x.elim), c, (h.keepN (Mod.alloc' _ _ _)).keepN hm1⟩

set_option maxHeartbeats 400000 in
theorem count_any (b mb : Nat) (sv : Value) (S : FS) (w : World) (h : FilesIs w b mb sv S) :
    Calls Try.prog 10 #[.pointer (some ⟨b, 0, none⟩)] w fun e w' => e = .returned (.int .i64 S.sizes.length) ∧ w = w' := by
  have hb := h.blk
  have hown := h.own
  have hb0 := hb.cell 0
  simp only [List.getElem?_toArray, List.getElem?_cons_zero] at hb0
  rcases hown.2 with ⟨rfl, hn⟩ | ⟨g, cap, cur, rfl, _⟩
  · rw [hn]
    go_enter Try.func10, Try.ntmps10
    go_wp2
    go_ret
    exact ⟨rfl, rfl⟩
  · go_enter Try.func10, Try.ntmps10
    go_wp2
    go_ret
    exact ⟨rfl, rfl⟩

set_option maxHeartbeats 400000 in
theorem writes_any (b mb : Nat) (sv : Value) (S : FS) (w : World) (h : FilesIs w b mb sv S) :
    Calls Try.prog 17 #[.pointer (some ⟨b, 0, none⟩)] w fun e w' => e = .returned (.int .i64 S.writes) ∧ w = w' := by
  have hb := h.blk
  have hb2 := hb.cell 2
  simp only [List.getElem?_toArray, List.getElem?_cons_zero, List.getElem?_cons_succ] at hb2
  go_enter Try.func17, Try.ntmps17
  go_wp2
  go_ret
  exact ⟨rfl, rfl⟩

theorem hasB_writeS (S : FS) (f i f' i' : Int) (t : ByteArray) (c : Nat) : hasB (writeS S f i t c) f' i' = hasB S f' i' := by
  unfold writeS; split <;> rfl

/-- A store that was just made. -/
def newF (sizes : List Int) : FS := { sizes := (sizes.take 32).map fun n => min (max n 0) 4096, l := [], writes := 0 }

theorem info_int : (Try.prog.info? 3).map (fun i => (i.zero, i.size, i.bytes)) = some (some (.int .i64 0), 1, 8) := by kernel_rfl

/-- The store half made: 'k' files so far. -/
def NewRel (w : World) (sizes : List Int) (k : Nat) (wr : World) : Prop :=
  ∃ sv, Blk wr (w.heap.size + 1) #[sv, .map (some w.heap.size), .int .i64 0] 49 ∧ wr.ownsRow w.heap.size 3 1 sv k (((newF sizes).sizes.take k).map (Value.int .i64)) ∧ wr.heap[w.heap.size]? = some (.map #[] 0) ∧ Mod (fun _ => False) w wr ∧ w.heap.size + 2 ≤ wr.heap.size

theorem newF_get (sizes : List Int) (k : Nat) (h1 : k < 32) (h2 : k < sizes.length) : (newF sizes).sizes.take (k + 1) = (newF sizes).sizes.take k ++ [min (max (sizes.getD k 0) 0) 4096] := by
  have hl : k < (newF sizes).sizes.length := by simp [newF]; omega
  rw [List.take_succ_eq_append_getElem hl]
  simp [newF, List.getElem?_eq_getElem h2]

theorem newF_len (sizes : List Int) : (newF sizes).sizes.length = min 32 sizes.length := by simp [newF]

theorem NewRel.start (w : World) (sizes : List Int) : NewRel w sizes 0 ((w.alloc (Obj.map #[] 0)).alloc (Obj.cells #[Value.slice none 0 0, Value.map (some w.heap.size), Value.int IntKind.i64 0] 49)) := by
  refine ⟨.slice none 0 0, ?_, ⟨by simp, .inl ⟨rfl, rfl⟩⟩, ?_, (Mod.alloc' _ _ _).alloc _, by simp⟩
  · have h := Blk.new (w.alloc (Obj.map #[] 0)) #[Value.slice none 0 0, Value.map (some w.heap.size), Value.int IntKind.i64 0] 49
    simpa using h
  · have h : (w.alloc (Obj.map #[] 0)).heap[w.heap.size]? = some (.map #[] 0) := heap_alloc_new w _
    rw [Below.heap_alloc _ _ _ (by simp)]
    exact h

theorem NewRel.step {w wr w1 : World} {sizes : List Int} {k g cap : Nat} {sv : Value} {x : Int} (h1 : k < 32) (h2 : k < sizes.length) (hx : x = min (max (sizes.getD k 0) 0) 4096)
    (hb : Blk wr (w.heap.size + 1) #[sv, .map (some w.heap.size), .int .i64 0] 49) (hown : wr.ownsRow w.heap.size 3 1 sv k (((newF sizes).sizes.take k).map (Value.int .i64)))
    (hmap : wr.heap[w.heap.size]? = some (.map #[] 0)) (hmod : Mod (fun _ => False) w wr) (hsz : w.heap.size + 2 ≤ wr.heap.size)
    (o1 : w1.ownsRow w.heap.size 3 1 (.slice (some ⟨g, 0, none⟩) (k + 1) cap) (k + 1) (((newF sizes).sizes.take k).map (Value.int .i64) ++ [.int .i64 x]))
    (m1 : Mod (fun i => some i = sv.ownBlock) (wr.alloc (Obj.cells #[Value.int .i64 x] 3)) w1) (hg : sv.ownBlock = some g ∨ g = (wr.alloc (Obj.cells #[Value.int .i64 x] 3)).heap.size) :
    NewRel w sizes (k + 1) (w1.setCell ⟨w.heap.size + 1, 0, none⟩ (.slice (some ⟨g, 0, none⟩) (k + 1) cap)) := by
  have hge : ∀ i, sv.ownBlock = some i → w.heap.size ≤ i := by
    intro i hi
    rcases hown.2 with ⟨rfl, _⟩ | ⟨g', cap', cur, rfl, hbase, _⟩
    · cases hi
    · injection hi with hi; simp only at hi; omega
  have hne := ownsRow_ne_blk hown hb (by decide)
  have hnm := ownsRow_ne_map hown hmap
  have hm1 := (Mod.alloc' (fun i => some i = sv.ownBlock) wr (Obj.cells #[Value.int .i64 x] 3)).trans m1
  have hb1 := hb.keep hm1 (fun e => hne _ e.symm rfl)
  have hgb : g ≠ w.heap.size + 1 := by
    rcases hg with hg | hg
    · exact hne _ hg
    · rw [hg]; simp; omega
  refine ⟨.slice (some ⟨g, 0, none⟩) (k + 1) cap, hb1.set 0 _, ?_, ?_, ?_, ?_⟩
  · rw [newF_get sizes k h1 h2, List.map_append, List.map_cons, List.map_nil, ← hx]
    exact ownsRow_keep o1 (mod_setCell _ _ _ _) (fun i hi e => by injection hi with hi; simp only at hi; omega)
  · rw [(mod_setCell w1 (w.heap.size + 1) 0 (.slice (some ⟨g, 0, none⟩) (k + 1) cap)).block w.heap.size (by have := hm1.size; omega) (by omega), hm1.block _ (by omega) (fun e => hnm _ e.symm rfl)]
    exact hmap
  · refine Mod.setCell (hmod.trans' hm1 (fun i hi e => ?_)) (.inr (by simp)) _
    have := hge i e.symm
    omega
  · have := hm1.size
    simp [World.setCell]; omega

set_option maxHeartbeats 400000 in
theorem new_any (sizes : List Int) (v : Value) (w : World) (h : IntsAt w v sizes) :
    Calls Try.prog 8 #[v] w fun e w' => ∃ b mb sv, e = .returned (.pointer (some ⟨b, 0, none⟩)) ∧ Mod (fun _ => False) w w' ∧ FilesIs w' b mb sv (newF sizes) ∧ w.heap.size ≤ b ∧ w.heap.size ≤ mb ∧ ∀ g, sv.ownBlock = some g → w.heap.size ≤ g := by
  obtain ⟨a, cap, rfl, hcap, hmax, hcell⟩ := h
  unfold maxLen at hmax
  have hmm := @run_makeMap Try.prog
  by_cases h32 : 32 < sizes.length
  · go_enter Try.func8, Try.ntmps8
    go_wp2_with fail
    go_loopw [15] (fun i wr => ∃ k : Nat, k ≤ 32 ∧ i = .int .i64 k ∧ NewRel w sizes k wr) (fun i _ => 32 - (intOf i).toNat)
    case atStart => exact ⟨0, by omega, rfl, NewRel.start w sizes⟩
    case round =>
      obtain ⟨k, hk, rfl, sv, hb, hown, hmap, hmod, hsz⟩ := hrel
      by_cases hlt : k < 32
      · obtain ⟨b, off, rfl, hc⟩ := hcell k (by omega)
        obtain ⟨x, hx⟩ : ∃ x, x = sizes.getD k 0 := ⟨_, rfl⟩
        rw [← hx] at hc
        have HX := Lib.hid hx
        clear hx hcell
        have hcr : wr.cell? ⟨b, off + k, none⟩ = some (.int .i64 x) := by
          rw [hmod.cell (lt_of_cell hc) (fun x => x)]; exact hc
        have hc0 := hb.cell 0
        simp only [List.getElem?_toArray, List.getElem?_cons_zero] at hc0
        have hne := ownsRow_ne_blk hown hb (by decide)
        rcases (show x < 0 ∨ (0 ≤ x ∧ x ≤ 4096) ∨ 4096 < x by omega) with hx0 | hx0 | hx0
        · go_wp2_with (at_builtin; refine wpList_app rfl _ _ 22 rfl w.heap.size 3 (.int .i64 0) 1 8 Try.underlying22 info_int rfl (by decide) (by decide) sv k _ rfl (hown.alloc _) ⟨wr.heap.size, 0, none⟩ 1 [.int .i64 0] rfl rfl (cell_one_new _ _ _) (by simp [Value.oneCell']) (by omega) (by simp; omega) ?_; intro g cap1 w1 o1 m1 hg hlt1; have hb1 := hb.keep ((Mod.alloc' (fun i => some i = sv.ownBlock) wr (Obj.cells #[Value.int .i64 0] 3)).trans m1) (fun e => hne _ e.symm rfl); have hc1 := hb1.cell 0; simp only [List.getElem?_toArray, List.getElem?_cons_zero] at hc1; have hf1 := hb1.frozen 0)
          go_roundw
          case rel => exact ⟨k + 1, by omega, by go_num, NewRel.step (by omega) (by omega) (by rw [← HX.out]; omega) hb hown hmap hmod hsz o1 m1 hg⟩
          case measure => simp [intOf]; omega
        · go_wp2_with (at_builtin; refine wpList_app rfl _ _ 22 rfl w.heap.size 3 (.int .i64 0) 1 8 Try.underlying22 info_int rfl (by decide) (by decide) sv k _ rfl (hown.alloc _) ⟨wr.heap.size, 0, none⟩ 1 [.int .i64 x] rfl rfl (cell_one_new _ _ _) (by simp [Value.oneCell']) (by omega) (by simp; omega) ?_; intro g cap1 w1 o1 m1 hg hlt1; have hb1 := hb.keep ((Mod.alloc' (fun i => some i = sv.ownBlock) wr (Obj.cells #[Value.int .i64 x] 3)).trans m1) (fun e => hne _ e.symm rfl); have hc1 := hb1.cell 0; simp only [List.getElem?_toArray, List.getElem?_cons_zero] at hc1; have hf1 := hb1.frozen 0)
          go_roundw
          case rel => exact ⟨k + 1, by omega, by go_num, NewRel.step (by omega) (by omega) (by rw [← HX.out]; omega) hb hown hmap hmod hsz o1 m1 hg⟩
          case measure => simp [intOf]; omega
        · go_wp2_with (at_builtin; refine wpList_app rfl _ _ 22 rfl w.heap.size 3 (.int .i64 0) 1 8 Try.underlying22 info_int rfl (by decide) (by decide) sv k _ rfl (hown.alloc _) ⟨wr.heap.size, 0, none⟩ 1 [.int .i64 4096] rfl rfl (cell_one_new _ _ _) (by simp [Value.oneCell']) (by omega) (by simp; omega) ?_; intro g cap1 w1 o1 m1 hg hlt1; have hb1 := hb.keep ((Mod.alloc' (fun i => some i = sv.ownBlock) wr (Obj.cells #[Value.int .i64 4096] 3)).trans m1) (fun e => hne _ e.symm rfl); have hc1 := hb1.cell 0; simp only [List.getElem?_toArray, List.getElem?_cons_zero] at hc1; have hf1 := hb1.frozen 0)
          go_roundw
          case rel => exact ⟨k + 1, by omega, by go_num, NewRel.step (by omega) (by omega) (by rw [← HX.out]; omega) hb hown hmap hmod hsz o1 m1 hg⟩
          case measure => simp [intOf]; omega
      · go_wp2_with fail
        go_ret
        obtain rfl : k = 32 := by omega
        refine ⟨_, w.heap.size, sv, rfl, hmod, ⟨hb, ?_, ⟨0, hmap⟩, ?_, ?_, ?_, ?_⟩, by omega, by omega, ?_⟩
        · have hl := newF_len sizes
          have hk' : (newF sizes).sizes.length = 32 := by omega
          rw [List.take_of_length_le (by omega)] at hown
          rw [hk']
          exact ownsRow_base hown (by omega)
        · rw [newF_len]; omega
        · intro n hn
          simp only [newF, List.mem_map] at hn
          obtain ⟨m, _, rfl⟩ := hn
          omega
        · intro e he
          simp [newF] at he
        · exact Int.le_refl 0
        · intro g hg
          exact ownsRow_ge hown g hg
  · go_enter Try.func8, Try.ntmps8
    go_wp2_with fail
    go_loopw [15] (fun i wr => ∃ k : Nat, k ≤ sizes.length ∧ i = .int .i64 k ∧ NewRel w sizes k wr) (fun i _ => sizes.length - (intOf i).toNat)
    case atStart => exact ⟨0, by omega, rfl, NewRel.start w sizes⟩
    case round =>
      obtain ⟨k, hk, rfl, sv, hb, hown, hmap, hmod, hsz⟩ := hrel
      by_cases hlt : k < sizes.length
      · obtain ⟨b, off, rfl, hc⟩ := hcell k (by omega)
        obtain ⟨x, hx⟩ : ∃ x, x = sizes.getD k 0 := ⟨_, rfl⟩
        rw [← hx] at hc
        have HX := Lib.hid hx
        clear hx hcell
        have hcr : wr.cell? ⟨b, off + k, none⟩ = some (.int .i64 x) := by
          rw [hmod.cell (lt_of_cell hc) (fun x => x)]; exact hc
        have hc0 := hb.cell 0
        simp only [List.getElem?_toArray, List.getElem?_cons_zero] at hc0
        have hne := ownsRow_ne_blk hown hb (by decide)
        rcases (show x < 0 ∨ (0 ≤ x ∧ x ≤ 4096) ∨ 4096 < x by omega) with hx0 | hx0 | hx0
        · go_wp2_with (at_builtin; refine wpList_app rfl _ _ 22 rfl w.heap.size 3 (.int .i64 0) 1 8 Try.underlying22 info_int rfl (by decide) (by decide) sv k _ rfl (hown.alloc _) ⟨wr.heap.size, 0, none⟩ 1 [.int .i64 0] rfl rfl (cell_one_new _ _ _) (by simp [Value.oneCell']) (by omega) (by simp; omega) ?_; intro g cap1 w1 o1 m1 hg hlt1; have hb1 := hb.keep ((Mod.alloc' (fun i => some i = sv.ownBlock) wr (Obj.cells #[Value.int .i64 0] 3)).trans m1) (fun e => hne _ e.symm rfl); have hc1 := hb1.cell 0; simp only [List.getElem?_toArray, List.getElem?_cons_zero] at hc1; have hf1 := hb1.frozen 0)
          go_roundw
          case rel => exact ⟨k + 1, by omega, by go_num, NewRel.step (by omega) (by omega) (by rw [← HX.out]; omega) hb hown hmap hmod hsz o1 m1 hg⟩
          case measure => simp [intOf]; omega
        · go_wp2_with (at_builtin; refine wpList_app rfl _ _ 22 rfl w.heap.size 3 (.int .i64 0) 1 8 Try.underlying22 info_int rfl (by decide) (by decide) sv k _ rfl (hown.alloc _) ⟨wr.heap.size, 0, none⟩ 1 [.int .i64 x] rfl rfl (cell_one_new _ _ _) (by simp [Value.oneCell']) (by omega) (by simp; omega) ?_; intro g cap1 w1 o1 m1 hg hlt1; have hb1 := hb.keep ((Mod.alloc' (fun i => some i = sv.ownBlock) wr (Obj.cells #[Value.int .i64 x] 3)).trans m1) (fun e => hne _ e.symm rfl); have hc1 := hb1.cell 0; simp only [List.getElem?_toArray, List.getElem?_cons_zero] at hc1; have hf1 := hb1.frozen 0)
          go_roundw
          case rel => exact ⟨k + 1, by omega, by go_num, NewRel.step (by omega) (by omega) (by rw [← HX.out]; omega) hb hown hmap hmod hsz o1 m1 hg⟩
          case measure => simp [intOf]; omega
        · go_wp2_with (at_builtin; refine wpList_app rfl _ _ 22 rfl w.heap.size 3 (.int .i64 0) 1 8 Try.underlying22 info_int rfl (by decide) (by decide) sv k _ rfl (hown.alloc _) ⟨wr.heap.size, 0, none⟩ 1 [.int .i64 4096] rfl rfl (cell_one_new _ _ _) (by simp [Value.oneCell']) (by omega) (by simp; omega) ?_; intro g cap1 w1 o1 m1 hg hlt1; have hb1 := hb.keep ((Mod.alloc' (fun i => some i = sv.ownBlock) wr (Obj.cells #[Value.int .i64 4096] 3)).trans m1) (fun e => hne _ e.symm rfl); have hc1 := hb1.cell 0; simp only [List.getElem?_toArray, List.getElem?_cons_zero] at hc1; have hf1 := hb1.frozen 0)
          go_roundw
          case rel => exact ⟨k + 1, by omega, by go_num, NewRel.step (by omega) (by omega) (by rw [← HX.out]; omega) hb hown hmap hmod hsz o1 m1 hg⟩
          case measure => simp [intOf]; omega
      · go_wp2_with fail
        go_ret
        obtain rfl : k = sizes.length := by omega
        refine ⟨_, w.heap.size, sv, rfl, hmod, ⟨hb, ?_, ⟨0, hmap⟩, ?_, ?_, ?_, ?_⟩, by omega, by omega, ?_⟩
        · have hl := newF_len sizes
          have hk' : (newF sizes).sizes.length = sizes.length := by omega
          rw [List.take_of_length_le (by omega)] at hown
          rw [hk']
          exact ownsRow_base hown (by omega)
        · rw [newF_len]; omega
        · intro n hn
          simp only [newF, List.mem_map] at hn
          obtain ⟨m, _, rfl⟩ := hn
          omega
        · intro e he
          simp [newF] at he
        · exact Int.le_refl 0
        · intro g hg
          exact ownsRow_ge hown g hg

end Go.Proofs.Ytdpjlkkpjnmdnaa
