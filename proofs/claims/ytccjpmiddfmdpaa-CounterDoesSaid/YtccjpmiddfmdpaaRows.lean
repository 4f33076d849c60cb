/-
  No cell of these rows narrows 'for every input' (looked for: loops, veiled, ifaces, maps, wideKeys, modest, calm, conditions, laid).
  DERIVED. THE GIVEN ROWS OF THIS SEAT. 6 by the template 'for every input the law returns true; each argument reads behind the call as it read before'; 0 by the template 'total and deterministic' (their statements: YtccjpmiddfmdpaaTotals.lean).
  GIVEN WITH THE SEED: the statements are not yours to turn. If you find one false, say at which input.
  Laid BY PROGRAM, IN A SANDBOX (cutbox-rows.mjs): the forced cells as the released guide's own fill.sh prints them over the translation 606325131ac3b855… (all of the seat's roots in one cut). By AI agents, Wed Nov 11 2026. No macro, syntax, notation, axiom, sorry.
-/
import Derived.Test.YtccjpmiddfmdpaaChecked
import GoSem.Claim
import GoSem.ClaimJoined
import GoSem.ClaimMapViews
import Derived.JoinedTies
import Derived.KernelRfl
namespace Go.Proofs.Ytccjpmiddfmdpaa
/- THE CELL 'sum', in the pinned program and in every row, IS THE sha256 OF THE DUMP (.gsa) THAT YtccjpmiddfmdpaaProg.lean LOADS. Nothing in Lean hashes anything: it is a label: what it is worth is what the hold of that sum in a sandbox is worth. -/
noncomputable def Try.pinned : Pinned := { name := "ytccjpmiddfmdpaa", sum := "606325131ac3b85543d34698e534e124fab8fa160149b70617b46a59fd0a065c", checked := Try.checked }
namespace Rows
def none {H : Type} : Left H := { results := [], args := [] }

/-- 'millpondlaw09.CounterDoes': WHATEVER THE INPUT: true; the input reads as it did. -/
def counterDoesSpec : ChangeSpec := { name := "counterDoes", fn := fun _ => fun
  | [d1, d2] => { results := [.lit (.bool true)], args := [d1, d2] }
  | _ => none }
def counterDoesRow : OpenClaim := { program := "ytccjpmiddfmdpaa", sum := "606325131ac3b85543d34698e534e124fab8fa160149b70617b46a59fd0a065c", func := "millpond/millpondlaw09.CounterDoes", spec := "counterDoes", unfollowed := true, recurses := true, apart := false }
def CounterDoesSaid : Prop := counterDoesRow.holds Try.pinned (OpenSpec.ofChange counterDoesSpec)

/-- ITS FALSE NEIGHBOUR: 'it returns false'. Refute it at one input. -/
def counterDoesWrong : ChangeSpec := { name := "counterDoes", fn := fun _ => fun
  | [d1, d2] => { results := [.lit (.bool false)], args := [d1, d2] }
  | _ => none }
def CounterDoesWrongFalsely : Prop := counterDoesRow.holds Try.pinned (OpenSpec.ofChange counterDoesWrong)

/-- 'millpondlaw09.CounterRolls': WHATEVER THE INPUT: true; the input reads as it did. -/
def counterRollsSpec : ChangeSpec := { name := "counterRolls", fn := fun _ => fun
  | [d1, d2, d3, d4] => { results := [.lit (.bool true)], args := [d1, d2, d3, d4] }
  | _ => none }
def counterRollsRow : OpenClaim := { program := "ytccjpmiddfmdpaa", sum := "606325131ac3b85543d34698e534e124fab8fa160149b70617b46a59fd0a065c", func := "millpond/millpondlaw09.CounterRolls", spec := "counterRolls", unfollowed := true, recurses := true, apart := false }
def CounterRollsSaid : Prop := counterRollsRow.holds Try.pinned (OpenSpec.ofChange counterRollsSpec)

/-- ITS FALSE NEIGHBOUR: 'it returns false'. Refute it at one input. -/
def counterRollsWrong : ChangeSpec := { name := "counterRolls", fn := fun _ => fun
  | [d1, d2, d3, d4] => { results := [.lit (.bool false)], args := [d1, d2, d3, d4] }
  | _ => none }
def CounterRollsWrongFalsely : Prop := counterRollsRow.holds Try.pinned (OpenSpec.ofChange counterRollsWrong)

/-- 'millpondlaw09.CounterLimits': WHATEVER THE INPUT: true; the input reads as it did. -/
def counterLimitsSpec : ChangeSpec := { name := "counterLimits", fn := fun _ => fun
  | [d] => { results := [.lit (.bool true)], args := [d] }
  | _ => none }
def counterLimitsRow : OpenClaim := { program := "ytccjpmiddfmdpaa", sum := "606325131ac3b85543d34698e534e124fab8fa160149b70617b46a59fd0a065c", func := "millpond/millpondlaw09.CounterLimits", spec := "counterLimits", unfollowed := true, recurses := true, apart := false }
def CounterLimitsSaid : Prop := counterLimitsRow.holds Try.pinned (OpenSpec.ofChange counterLimitsSpec)

/-- ITS FALSE NEIGHBOUR: 'it returns false'. Refute it at one input. -/
def counterLimitsWrong : ChangeSpec := { name := "counterLimits", fn := fun _ => fun
  | [d] => { results := [.lit (.bool false)], args := [d] }
  | _ => none }
def CounterLimitsWrongFalsely : Prop := counterLimitsRow.holds Try.pinned (OpenSpec.ofChange counterLimitsWrong)

/-- 'millpondlaw09.CounterPeaks': WHATEVER THE INPUT: true; the input reads as it did. -/
def counterPeaksSpec : ChangeSpec := { name := "counterPeaks", fn := fun _ => fun
  | [d1, d2, d3] => { results := [.lit (.bool true)], args := [d1, d2, d3] }
  | _ => none }
def counterPeaksRow : OpenClaim := { program := "ytccjpmiddfmdpaa", sum := "606325131ac3b85543d34698e534e124fab8fa160149b70617b46a59fd0a065c", func := "millpond/millpondlaw09.CounterPeaks", spec := "counterPeaks", unfollowed := true, recurses := true, apart := false }
def CounterPeaksSaid : Prop := counterPeaksRow.holds Try.pinned (OpenSpec.ofChange counterPeaksSpec)

/-- ITS FALSE NEIGHBOUR: 'it returns false'. Refute it at one input. -/
def counterPeaksWrong : ChangeSpec := { name := "counterPeaks", fn := fun _ => fun
  | [d1, d2, d3] => { results := [.lit (.bool false)], args := [d1, d2, d3] }
  | _ => none }
def CounterPeaksWrongFalsely : Prop := counterPeaksRow.holds Try.pinned (OpenSpec.ofChange counterPeaksWrong)

/-- 'millpondlaw09.CounterAny': WHATEVER THE INPUT: true; the input reads as it did. -/
def counterAnySpec : ChangeSpec := { name := "counterAny", fn := fun _ => fun
  | [d1, d2, d3] => { results := [.lit (.bool true)], args := [d1, d2, d3] }
  | _ => none }
def counterAnyRow : OpenClaim := { program := "ytccjpmiddfmdpaa", sum := "606325131ac3b85543d34698e534e124fab8fa160149b70617b46a59fd0a065c", func := "millpond/millpondlaw09.CounterAny", spec := "counterAny", unfollowed := true, recurses := true, apart := false }
def CounterAnySaid : Prop := counterAnyRow.holds Try.pinned (OpenSpec.ofChange counterAnySpec)

/-- ITS FALSE NEIGHBOUR: 'it returns false'. Refute it at one input. -/
def counterAnyWrong : ChangeSpec := { name := "counterAny", fn := fun _ => fun
  | [d1, d2, d3] => { results := [.lit (.bool false)], args := [d1, d2, d3] }
  | _ => none }
def CounterAnyWrongFalsely : Prop := counterAnyRow.holds Try.pinned (OpenSpec.ofChange counterAnyWrong)

/-- 'millpondlaw09.CounterBack': WHATEVER THE INPUT: true; the input reads as it did. -/
def counterBackSpec : ChangeSpec := { name := "counterBack", fn := fun _ => fun
  | [d1, d2, d3, d4] => { results := [.lit (.bool true)], args := [d1, d2, d3, d4] }
  | _ => none }
def counterBackRow : OpenClaim := { program := "ytccjpmiddfmdpaa", sum := "606325131ac3b85543d34698e534e124fab8fa160149b70617b46a59fd0a065c", func := "millpond/millpondlaw09.CounterBack", spec := "counterBack", unfollowed := true, recurses := true, apart := false }
def CounterBackSaid : Prop := counterBackRow.holds Try.pinned (OpenSpec.ofChange counterBackSpec)

/-- ITS FALSE NEIGHBOUR: 'it returns false'. Refute it at one input. -/
def counterBackWrong : ChangeSpec := { name := "counterBack", fn := fun _ => fun
  | [d1, d2, d3, d4] => { results := [.lit (.bool false)], args := [d1, d2, d3, d4] }
  | _ => none }
def CounterBackWrongFalsely : Prop := counterBackRow.holds Try.pinned (OpenSpec.ofChange counterBackWrong)

/- THE SECOND FORM. 'bulk': how many values and letters a reading holds, each counted each time it is reached (what is shared counts as often as it is met; a slice's spare places count too). A statement '..UptoSaid' is the law's where the arguments, and the package variables that the reading takes, are together of bulk at most 1048576: NARROWER than '..Said'. Prove '..Said' where nothing that the law and all that it calls make is longer than what came in: it says more and counts as full. Else prove '..UptoSaid'. A law counts once. -/
mutual
def uptoBulk {H : Type} : DataW H → Nat
  | .lit (.string bytes) => bytes.length + 1
  | .lit _ => 1
  | .nil => 1
  | .ptr d => uptoBulk d + 1
  | .slice elems spare => uptoBulkAll elems + uptoBulkAll spare + 1
  | .agg parts => uptoBulkAll parts + 1
  | .iface _ d => uptoBulk d + 1
  | .map entries => uptoBulkEntries entries + 1
  | .held _ => 1
def uptoBulkAll {H : Type} : List (DataW H) → Nat
  | [] => 0
  | d :: r => uptoBulk d + uptoBulkAll r
def uptoBulkEntries {H : Type} : List (Lit × DataW H) → Nat
  | [] => 0
  | x :: r => uptoBulkEntry x + uptoBulkEntries r
def uptoBulkEntry {H : Type} : Lit × DataW H → Nat
  | (.string bytes, d) => bytes.length + uptoBulk d + 1
  | (_, d) => uptoBulk d + 1
 end
def uptoSmall : (H : Type) → List (DataW H) → Bool := fun _ ds => decide (uptoBulkAll ds ≤ 1048576)
def OpenSpec.upto (s : _root_.Go.ChangeSpec) : _root_.Go.OpenSpec := { _root_.Go.OpenSpec.ofChange s with cond := some uptoSmall }

/-- 'millpondlaw09.CounterDoes', WHERE WHAT IT READS IS OF BULK AT MOST 1048576: true; the input reads as it did. -/
def counterDoesUptoRow : OpenClaim := { program := "ytccjpmiddfmdpaa", sum := "606325131ac3b85543d34698e534e124fab8fa160149b70617b46a59fd0a065c", func := "millpond/millpondlaw09.CounterDoes", spec := "counterDoes", unfollowed := true, recurses := true, apart := false, narrowed := true }
def CounterDoesUptoSaid : Prop := counterDoesUptoRow.holds Try.pinned (OpenSpec.upto counterDoesSpec)

/-- 'millpondlaw09.CounterRolls', WHERE WHAT IT READS IS OF BULK AT MOST 1048576: true; the input reads as it did. -/
def counterRollsUptoRow : OpenClaim := { program := "ytccjpmiddfmdpaa", sum := "606325131ac3b85543d34698e534e124fab8fa160149b70617b46a59fd0a065c", func := "millpond/millpondlaw09.CounterRolls", spec := "counterRolls", unfollowed := true, recurses := true, apart := false, narrowed := true }
def CounterRollsUptoSaid : Prop := counterRollsUptoRow.holds Try.pinned (OpenSpec.upto counterRollsSpec)

/-- 'millpondlaw09.CounterLimits', WHERE WHAT IT READS IS OF BULK AT MOST 1048576: true; the input reads as it did. -/
def counterLimitsUptoRow : OpenClaim := { program := "ytccjpmiddfmdpaa", sum := "606325131ac3b85543d34698e534e124fab8fa160149b70617b46a59fd0a065c", func := "millpond/millpondlaw09.CounterLimits", spec := "counterLimits", unfollowed := true, recurses := true, apart := false, narrowed := true }
def CounterLimitsUptoSaid : Prop := counterLimitsUptoRow.holds Try.pinned (OpenSpec.upto counterLimitsSpec)

/-- 'millpondlaw09.CounterPeaks', WHERE WHAT IT READS IS OF BULK AT MOST 1048576: true; the input reads as it did. -/
def counterPeaksUptoRow : OpenClaim := { program := "ytccjpmiddfmdpaa", sum := "606325131ac3b85543d34698e534e124fab8fa160149b70617b46a59fd0a065c", func := "millpond/millpondlaw09.CounterPeaks", spec := "counterPeaks", unfollowed := true, recurses := true, apart := false, narrowed := true }
def CounterPeaksUptoSaid : Prop := counterPeaksUptoRow.holds Try.pinned (OpenSpec.upto counterPeaksSpec)

/-- 'millpondlaw09.CounterAny', WHERE WHAT IT READS IS OF BULK AT MOST 1048576: true; the input reads as it did. -/
def counterAnyUptoRow : OpenClaim := { program := "ytccjpmiddfmdpaa", sum := "606325131ac3b85543d34698e534e124fab8fa160149b70617b46a59fd0a065c", func := "millpond/millpondlaw09.CounterAny", spec := "counterAny", unfollowed := true, recurses := true, apart := false, narrowed := true }
def CounterAnyUptoSaid : Prop := counterAnyUptoRow.holds Try.pinned (OpenSpec.upto counterAnySpec)

/-- 'millpondlaw09.CounterBack', WHERE WHAT IT READS IS OF BULK AT MOST 1048576: true; the input reads as it did. -/
def counterBackUptoRow : OpenClaim := { program := "ytccjpmiddfmdpaa", sum := "606325131ac3b85543d34698e534e124fab8fa160149b70617b46a59fd0a065c", func := "millpond/millpondlaw09.CounterBack", spec := "counterBack", unfollowed := true, recurses := true, apart := false, narrowed := true }
def CounterBackUptoSaid : Prop := counterBackUptoRow.holds Try.pinned (OpenSpec.upto counterBackSpec)

end Rows
end Go.Proofs.Ytccjpmiddfmdpaa
