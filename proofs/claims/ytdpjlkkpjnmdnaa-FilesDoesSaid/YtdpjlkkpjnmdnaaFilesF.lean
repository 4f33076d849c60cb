/-
  How the arguments of this seat's laws are read: a key, an act, slices of these.
-/
import Derived.Test.YtdpjlkkpjnmdnaaRows
import Derived.Test.YtdpjlkkpjnmdnaaLibF
namespace Go.Proofs.Ytdpjlkkpjnmdnaa
open Go.RowKit Go.ChangeShapes Go.WideShapes Go.ChangeAt

theorem own : ownKnob Try.prog.godebug = none := by kernel_rfl
theorem laidOut : laidOutB Try.prog = true := by kernel_rfl

section
variable {H : Type} {enc : TypeId × Value → H} {w : World} {base : Nat} {spare : Nat → Bool} {held : Bool}
def ecKey (p : Int × Int) : List Value := ecI p.1 ++ ecI p.2
theorem dec_key : Dec enc Try.prog w base spare held 25 (fun p : Int × Int => ecI p.1 ++ ecI p.2) (fun p => (Lit.int .i64 p.1).wf = true ∧ (Lit.int .i64 p.2).wf = true) :=
  dec_struct2 Try.underlying25 (dec_int Try.underlying3) (dec_int Try.underlying3) 1 1 ⟨rfl, by kernel_rfl, rfl, by kernel_rfl, by kernel_rfl⟩
theorem dec_act : Dec enc Try.prog w base spare held 39 (fun p : (Int × Int) × ByteArray => (ecI p.1.1 ++ ecI p.1.2) ++ ecS p.2) (fun p => ((Lit.int .i64 p.1.1).wf = true ∧ (Lit.int .i64 p.1.2).wf = true) ∧ p.2.size ≤ maxLen) :=
  dec_struct2 Try.underlying39 dec_key (dec_string Try.underlying9) 2 1 ⟨rfl, by kernel_rfl, rfl, by kernel_rfl, by kernel_rfl⟩
end

end Go.Proofs.Ytdpjlkkpjnmdnaa
