/-
  The document's example for package files comes true: 'works' returns true and changes nothing that was there.
-/
import Derived.Test.YtdpjlkkpjnmdnaaFilesA
namespace Go.Proofs.Ytdpjlkkpjnmdnaa
open Go.RowKit

def exT : ByteArray := ⟨#[48, 49, 50, 51, 52, 53, 54, 55, 56, 57, 97, 98, 99, 100, 101, 102]⟩
def exA : ByteArray := ⟨#[45, 46, 47, 48, 49, 50, 51, 52, 53, 54, 55, 56, 57, 58, 59, 60]⟩

theorem ex_first : firstOf 1 2 = ⟨#[45, 46, 47, 48, 49, 50, 51, 52, 53, 54, 55, 56, 57, 58, 59, 60]⟩ := by decide +kernel
theorem ex_read : readS (newF [3, 5]) 1 2 = (⟨#[45, 46, 47, 48, 49, 50, 51, 52, 53, 54, 55, 56, 57, 58, 59, 60]⟩, 0) := by
  rw [← ex_first]; rfl
theorem ex_write : writeE (newF [3, 5]) 1 2 exT = 0 := by decide +kernel
theorem ex_read2 (c : Nat) : readS (writeS (newF [3, 5]) 1 2 exT c) 1 2 = (exT, 0) := rfl
theorem ex_read3 (c : Nat) : readS (writeS (newF [3, 5]) 1 2 exT c) 0 3 = (⟨#[]⟩, 2) := rfl
theorem ex_size (c : Nat) : sizeAt (writeS (newF [3, 5]) 1 2 exT c) 1 = 5 := rfl
theorem ex_count (c : Nat) : (writeS (newF [3, 5]) 1 2 exT c).sizes.length = 2 := rfl
theorem ex_writes (c : Nat) : (writeS (newF [3, 5]) 1 2 exT c).writes = 1 := rfl

theorem ints_new2 (w : World) (x y : Int) : IntsAt (w.alloc (.cells #[.int .i64 x, .int .i64 y] 3)) (.slice (some ⟨w.heap.size, 0, none⟩) 2 2) [x, y] := by
  refine ⟨_, 2, rfl, by simp, by simp [maxLen], fun j hj => ⟨w.heap.size, 0, rfl, ?_⟩⟩
  simp only [List.length_cons, List.length_nil] at hj
  rw [Nat.zero_add, (Blk.new w #[.int .i64 x, .int .i64 y] 3).cell]
  match j, hj with
  | 0, _ => rfl
  | 1, _ => rfl

set_option maxHeartbeats 400000 in
theorem works_any (w : World) : Calls Try.prog 7 #[] w fun e w' => e = .returned (.bool true) ∧ Mod (fun _ => False) w w' := by
  go_enter Try.func7, Try.ntmps7
  go_wp2_with fail
  refine (new_any [3, 5] _ _ (ints_new2 w 3 5)).mono ?_
  rintro e w1 ⟨b, mb, sv, rfl, hm1, h1, hb1, hmb1, hsv1⟩
  have hm1' : Mod (fun _ => False) w w1 := (Mod.alloc' _ _ _).trans hm1
  go_wp2_with fail
  refine (read_any b mb sv _ 1 2 _ h1).mono ?_
  rw [ex_read]
  rintro e w2 ⟨rfl, hm2⟩
  have h2 := h1.keepN hm2
  go_wp2_with fail
  refine (write_any b mb sv _ 1 2 exT _ h2 (by decide)).mono ?_
  rw [ex_write]
  rintro e w3 ⟨rfl, hm3, c, h3⟩
  go_wp2_with fail
  refine (read_any b mb sv _ 1 2 _ h3).mono ?_
  rw [ex_read2]
  rintro e w4 ⟨rfl, hm4⟩
  have h4 := h3.keepN hm4
  go_wp2_with fail
  refine (read_any b mb sv _ 0 3 _ h4).mono ?_
  rw [ex_read3]
  rintro e w5 ⟨rfl, hm5⟩
  have h5 := h4.keepN hm5
  have hT : exT.toList = [48, 49, 50, 51, 52, 53, 54, 55, 56, 57, 97, 98, 99, 100, 101, 102] := by decide +kernel
  go_wp2_with fail
  refine (count_any b mb sv _ _ h5).mono ?_
  rw [ex_count]
  rintro e w' ⟨rfl, rfl⟩
  go_wp2_with fail
  refine (size_any b mb sv _ 1 _ h5).mono ?_
  rw [ex_size]
  rintro e w' ⟨rfl, rfl⟩
  go_wp2_with fail
  refine (writes_any b mb sv _ _ h5).mono ?_
  rw [ex_writes]
  rintro e w' ⟨rfl, rfl⟩
  go_wp2_with fail
  refine (first_any 1 2 _).mono ?_
  rw [ex_first]
  rintro e w6 ⟨rfl, hm6⟩
  go_wp2_with fail
  go_ret
  refine ⟨rfl, ?_⟩
  simp only [World.size_alloc] at hb1 hmb1
  have hm13 : Mod (fun _ => False) w w3 := (hm1'.trans hm2).trans' hm3 (fun i hi h => by rcases h with rfl | rfl <;> omega)
  exact ((hm13.trans hm4).trans hm5).trans hm6

end Go.Proofs.Ytdpjlkkpjnmdnaa
