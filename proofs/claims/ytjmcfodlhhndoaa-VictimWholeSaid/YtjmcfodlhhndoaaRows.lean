/-
  No cell of these rows narrows 'for every input' (looked for: loops, veiled, ifaces, maps, wideKeys, modest, calm, conditions, laid).
  DERIVED. THE GIVEN ROWS OF THIS SEAT. 5 by the template 'for every input the law returns true; each argument reads behind the call as it read before'; 0 by the template 'total and deterministic' (their statements: YtjmcfodlhhndoaaTotals.lean).
  GIVEN WITH THE SEED: the statements are not yours to turn. If you find one false, say at which input.
  Laid BY PROGRAM, IN A SANDBOX (cutbox-rows.mjs): the forced cells as the released guide's own fill.sh prints them over the translation deee475c587dd8a4… (all of the seat's roots in one cut). By AI agents, Wed Nov 11 2026. No macro, syntax, notation, axiom, sorry.
-/
import Derived.Test.YtjmcfodlhhndoaaChecked
import GoSem.Claim
import GoSem.ClaimJoined
import GoSem.ClaimMapViews
import Derived.JoinedTies
import Derived.KernelRfl
namespace Go.Proofs.Ytjmcfodlhhndoaa
/- THE CELL 'sum', in the pinned program and in every row, IS THE sha256 OF THE DUMP (.gsa) THAT YtjmcfodlhhndoaaProg.lean LOADS. Nothing in Lean hashes anything: it is a label: what it is worth is what the hold of that sum in a sandbox is worth. -/
noncomputable def Try.pinned : Pinned := { name := "ytjmcfodlhhndoaa", sum := "deee475c587dd8a4ac53ccab4a340a03989d076386cb033fef40dd5ee4fd9de5", checked := Try.checked }
namespace Rows
def none {H : Type} : Left H := { results := [], args := [] }

/-- 'millpondlaw16.VictimPicks': WHATEVER THE INPUT: true; the input reads as it did. -/
def victimPicksSpec : ChangeSpec := { name := "victimPicks", fn := fun _ => fun
  | [d1, d2, d3, d4, d5] => { results := [.lit (.bool true)], args := [d1, d2, d3, d4, d5] }
  | _ => none }
def victimPicksRow : OpenClaim := { program := "ytjmcfodlhhndoaa", sum := "deee475c587dd8a4ac53ccab4a340a03989d076386cb033fef40dd5ee4fd9de5", func := "millpond/millpondlaw16.VictimPicks", spec := "victimPicks", unfollowed := true, recurses := true, apart := false }
def VictimPicksSaid : Prop := victimPicksRow.holds Try.pinned (OpenSpec.ofChange victimPicksSpec)

/-- ITS FALSE NEIGHBOUR: 'it returns false'. Refute it at one input. -/
def victimPicksWrong : ChangeSpec := { name := "victimPicks", fn := fun _ => fun
  | [d1, d2, d3, d4, d5] => { results := [.lit (.bool false)], args := [d1, d2, d3, d4, d5] }
  | _ => none }
def VictimPicksWrongFalsely : Prop := victimPicksRow.holds Try.pinned (OpenSpec.ofChange victimPicksWrong)

/-- 'millpondlaw16.VictimBelow': WHATEVER THE INPUT: true; the input reads as it did. -/
def victimBelowSpec : ChangeSpec := { name := "victimBelow", fn := fun _ => fun
  | [d1, d2, d3, d4] => { results := [.lit (.bool true)], args := [d1, d2, d3, d4] }
  | _ => none }
def victimBelowRow : OpenClaim := { program := "ytjmcfodlhhndoaa", sum := "deee475c587dd8a4ac53ccab4a340a03989d076386cb033fef40dd5ee4fd9de5", func := "millpond/millpondlaw16.VictimBelow", spec := "victimBelow", unfollowed := true, recurses := true, apart := false }
def VictimBelowSaid : Prop := victimBelowRow.holds Try.pinned (OpenSpec.ofChange victimBelowSpec)

/-- ITS FALSE NEIGHBOUR: 'it returns false'. Refute it at one input. -/
def victimBelowWrong : ChangeSpec := { name := "victimBelow", fn := fun _ => fun
  | [d1, d2, d3, d4] => { results := [.lit (.bool false)], args := [d1, d2, d3, d4] }
  | _ => none }
def VictimBelowWrongFalsely : Prop := victimBelowRow.holds Try.pinned (OpenSpec.ofChange victimBelowWrong)

/-- 'millpondlaw16.VictimWhole': WHATEVER THE INPUT: true; the input reads as it did. -/
def victimWholeSpec : ChangeSpec := { name := "victimWhole", fn := fun _ => fun
  | [d1, d2, d3, d4] => { results := [.lit (.bool true)], args := [d1, d2, d3, d4] }
  | _ => none }
def victimWholeRow : OpenClaim := { program := "ytjmcfodlhhndoaa", sum := "deee475c587dd8a4ac53ccab4a340a03989d076386cb033fef40dd5ee4fd9de5", func := "millpond/millpondlaw16.VictimWhole", spec := "victimWhole", unfollowed := true, recurses := true, apart := false }
def VictimWholeSaid : Prop := victimWholeRow.holds Try.pinned (OpenSpec.ofChange victimWholeSpec)

/-- ITS FALSE NEIGHBOUR: 'it returns false'. Refute it at one input. -/
def victimWholeWrong : ChangeSpec := { name := "victimWhole", fn := fun _ => fun
  | [d1, d2, d3, d4] => { results := [.lit (.bool false)], args := [d1, d2, d3, d4] }
  | _ => none }
def VictimWholeWrongFalsely : Prop := victimWholeRow.holds Try.pinned (OpenSpec.ofChange victimWholeWrong)

/-- 'millpondlaw16.VictimMore': WHATEVER THE INPUT: true; the input reads as it did. -/
def victimMoreSpec : ChangeSpec := { name := "victimMore", fn := fun _ => fun
  | [d1, d2, d3] => { results := [.lit (.bool true)], args := [d1, d2, d3] }
  | _ => none }
def victimMoreRow : OpenClaim := { program := "ytjmcfodlhhndoaa", sum := "deee475c587dd8a4ac53ccab4a340a03989d076386cb033fef40dd5ee4fd9de5", func := "millpond/millpondlaw16.VictimMore", spec := "victimMore", unfollowed := true, recurses := true, apart := false }
def VictimMoreSaid : Prop := victimMoreRow.holds Try.pinned (OpenSpec.ofChange victimMoreSpec)

/-- ITS FALSE NEIGHBOUR: 'it returns false'. Refute it at one input. -/
def victimMoreWrong : ChangeSpec := { name := "victimMore", fn := fun _ => fun
  | [d1, d2, d3] => { results := [.lit (.bool false)], args := [d1, d2, d3] }
  | _ => none }
def VictimMoreWrongFalsely : Prop := victimMoreRow.holds Try.pinned (OpenSpec.ofChange victimMoreWrong)

/-- 'millpondlaw16.VictimNobody': WHATEVER THE INPUT: true; the input reads as it did. -/
def victimNobodySpec : ChangeSpec := { name := "victimNobody", fn := fun _ => fun
  | [d1, d2, d3, d4] => { results := [.lit (.bool true)], args := [d1, d2, d3, d4] }
  | _ => none }
def victimNobodyRow : OpenClaim := { program := "ytjmcfodlhhndoaa", sum := "deee475c587dd8a4ac53ccab4a340a03989d076386cb033fef40dd5ee4fd9de5", func := "millpond/millpondlaw16.VictimNobody", spec := "victimNobody", unfollowed := true, recurses := true, apart := false }
def VictimNobodySaid : Prop := victimNobodyRow.holds Try.pinned (OpenSpec.ofChange victimNobodySpec)

/-- ITS FALSE NEIGHBOUR: 'it returns false'. Refute it at one input. -/
def victimNobodyWrong : ChangeSpec := { name := "victimNobody", fn := fun _ => fun
  | [d1, d2, d3, d4] => { results := [.lit (.bool false)], args := [d1, d2, d3, d4] }
  | _ => none }
def VictimNobodyWrongFalsely : Prop := victimNobodyRow.holds Try.pinned (OpenSpec.ofChange victimNobodyWrong)

/- THE SECOND FORM. 'bulk': how many values and letters a reading holds, each counted each time it is reached (what is shared counts as often as it is met; a slice's spare places count too). A statement '..UptoSaid' is the law's where the arguments, and the package variables that the reading takes, are together of bulk at most 1048576: NARROWER than '..Said'. Prove '..Said' where nothing that the law and all that it calls make is longer than what came in: it says more and counts as full. Else prove '..UptoSaid'. A law counts once. -/
mutual
def uptoBulk {H : Type} : DataW H → Nat
  | .lit (.string bytes) => bytes.length + 1
  | .lit _ => 1
  | .nil => 1
  | .ptr d => uptoBulk d + 1
  | .slice elems spare => uptoBulkAll elems + uptoBulkAll spare + 1
  | .agg parts => uptoBulkAll parts + 1
  | .iface _ d => uptoBulk d + 1
  | .map entries => uptoBulkEntries entries + 1
  | .held _ => 1
def uptoBulkAll {H : Type} : List (DataW H) → Nat
  | [] => 0
  | d :: r => uptoBulk d + uptoBulkAll r
def uptoBulkEntries {H : Type} : List (Lit × DataW H) → Nat
  | [] => 0
  | x :: r => uptoBulkEntry x + uptoBulkEntries r
def uptoBulkEntry {H : Type} : Lit × DataW H → Nat
  | (.string bytes, d) => bytes.length + uptoBulk d + 1
  | (_, d) => uptoBulk d + 1
 end
def uptoSmall : (H : Type) → List (DataW H) → Bool := fun _ ds => decide (uptoBulkAll ds ≤ 1048576)
def OpenSpec.upto (s : _root_.Go.ChangeSpec) : _root_.Go.OpenSpec := { _root_.Go.OpenSpec.ofChange s with cond := some uptoSmall }

/-- 'millpondlaw16.VictimPicks', WHERE WHAT IT READS IS OF BULK AT MOST 1048576: true; the input reads as it did. -/
def victimPicksUptoRow : OpenClaim := { program := "ytjmcfodlhhndoaa", sum := "deee475c587dd8a4ac53ccab4a340a03989d076386cb033fef40dd5ee4fd9de5", func := "millpond/millpondlaw16.VictimPicks", spec := "victimPicks", unfollowed := true, recurses := true, apart := false, narrowed := true }
def VictimPicksUptoSaid : Prop := victimPicksUptoRow.holds Try.pinned (OpenSpec.upto victimPicksSpec)

/-- 'millpondlaw16.VictimBelow', WHERE WHAT IT READS IS OF BULK AT MOST 1048576: true; the input reads as it did. -/
def victimBelowUptoRow : OpenClaim := { program := "ytjmcfodlhhndoaa", sum := "deee475c587dd8a4ac53ccab4a340a03989d076386cb033fef40dd5ee4fd9de5", func := "millpond/millpondlaw16.VictimBelow", spec := "victimBelow", unfollowed := true, recurses := true, apart := false, narrowed := true }
def VictimBelowUptoSaid : Prop := victimBelowUptoRow.holds Try.pinned (OpenSpec.upto victimBelowSpec)

/-- 'millpondlaw16.VictimWhole', WHERE WHAT IT READS IS OF BULK AT MOST 1048576: true; the input reads as it did. -/
def victimWholeUptoRow : OpenClaim := { program := "ytjmcfodlhhndoaa", sum := "deee475c587dd8a4ac53ccab4a340a03989d076386cb033fef40dd5ee4fd9de5", func := "millpond/millpondlaw16.VictimWhole", spec := "victimWhole", unfollowed := true, recurses := true, apart := false, narrowed := true }
def VictimWholeUptoSaid : Prop := victimWholeUptoRow.holds Try.pinned (OpenSpec.upto victimWholeSpec)

/-- 'millpondlaw16.VictimMore', WHERE WHAT IT READS IS OF BULK AT MOST 1048576: true; the input reads as it did. -/
def victimMoreUptoRow : OpenClaim := { program := "ytjmcfodlhhndoaa", sum := "deee475c587dd8a4ac53ccab4a340a03989d076386cb033fef40dd5ee4fd9de5", func := "millpond/millpondlaw16.VictimMore", spec := "victimMore", unfollowed := true, recurses := true, apart := false, narrowed := true }
def VictimMoreUptoSaid : Prop := victimMoreUptoRow.holds Try.pinned (OpenSpec.upto victimMoreSpec)

/-- 'millpondlaw16.VictimNobody', WHERE WHAT IT READS IS OF BULK AT MOST 1048576: true; the input reads as it did. -/
def victimNobodyUptoRow : OpenClaim := { program := "ytjmcfodlhhndoaa", sum := "deee475c587dd8a4ac53ccab4a340a03989d076386cb033fef40dd5ee4fd9de5", func := "millpond/millpondlaw16.VictimNobody", spec := "victimNobody", unfollowed := true, recurses := true, apart := false, narrowed := true }
def VictimNobodyUptoSaid : Prop := victimNobodyUptoRow.holds Try.pinned (OpenSpec.upto victimNobodySpec)

end Rows
end Go.Proofs.Ytjmcfodlhhndoaa
