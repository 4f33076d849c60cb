/-
  No cell of these rows narrows 'for every input' (looked for: loops, veiled, ifaces, maps, wideKeys, modest, calm, conditions, laid).
  DERIVED. THE GIVEN ROWS OF THIS SEAT. 4 by the template 'for every input the law returns true; each argument reads behind the call as it read before'; 0 by the template 'total and deterministic' (their statements: YtdpjlkkpjnmdnaaTotals.lean).
  GIVEN WITH THE SEED: the statements are not yours to turn. If you find one false, say at which input.
  Laid BY PROGRAM, IN A SANDBOX (cutbox-rows.mjs): the forced cells as the released guide's own fill.sh prints them over the translation 633fd77ab6ea8c00… (all of the seat's roots in one cut). By AI agents, Wed Nov 11 2026. No macro, syntax, notation, axiom, sorry.
-/
import Derived.Test.YtdpjlkkpjnmdnaaChecked
import GoSem.Claim
import GoSem.ClaimJoined
import GoSem.ClaimMapViews
import Derived.JoinedTies
import Derived.KernelRfl
namespace Go.Proofs.Ytdpjlkkpjnmdnaa
/- THE CELL 'sum', in the pinned program and in every row, IS THE sha256 OF THE DUMP (.gsa) THAT YtdpjlkkpjnmdnaaProg.lean LOADS. Nothing in Lean hashes anything: it is a label: what it is worth is what the hold of that sum in a sandbox is worth. -/
noncomputable def Try.pinned : Pinned := { name := "ytdpjlkkpjnmdnaa", sum := "633fd77ab6ea8c00cd6c3c117486354ff3a88e69cdd6950fab184addf4866c59", checked := Try.checked }
namespace Rows
def none {H : Type} : Left H := { results := [], args := [] }

/-- 'millpondlaw04.FilesDoes': WHATEVER THE INPUT: true; the input reads as it did. -/
def filesDoesSpec : ChangeSpec := { name := "filesDoes", fn := fun _ => fun
  | [d1, d2, d3] => { results := [.lit (.bool true)], args := [d1, d2, d3] }
  | _ => none }
def filesDoesRow : OpenClaim := { program := "ytdpjlkkpjnmdnaa", sum := "633fd77ab6ea8c00cd6c3c117486354ff3a88e69cdd6950fab184addf4866c59", func := "millpond/millpondlaw04.FilesDoes", spec := "filesDoes", plainKeys := false, apart := false }
def FilesDoesSaid : Prop := filesDoesRow.holds Try.pinned (OpenSpec.ofChange filesDoesSpec)

/-- ITS FALSE NEIGHBOUR: 'it returns false'. Refute it at one input. -/
def filesDoesWrong : ChangeSpec := { name := "filesDoes", fn := fun _ => fun
  | [d1, d2, d3] => { results := [.lit (.bool false)], args := [d1, d2, d3] }
  | _ => none }
def FilesDoesWrongFalsely : Prop := filesDoesRow.holds Try.pinned (OpenSpec.ofChange filesDoesWrong)

/-- 'millpondlaw04.FilesLast': WHATEVER THE INPUT: true; the input reads as it did. -/
def filesLastSpec : ChangeSpec := { name := "filesLast", fn := fun _ => fun
  | [d1, d2, d3, d4, d5] => { results := [.lit (.bool true)], args := [d1, d2, d3, d4, d5] }
  | _ => none }
def filesLastRow : OpenClaim := { program := "ytdpjlkkpjnmdnaa", sum := "633fd77ab6ea8c00cd6c3c117486354ff3a88e69cdd6950fab184addf4866c59", func := "millpond/millpondlaw04.FilesLast", spec := "filesLast", plainKeys := false, apart := false }
def FilesLastSaid : Prop := filesLastRow.holds Try.pinned (OpenSpec.ofChange filesLastSpec)

/-- ITS FALSE NEIGHBOUR: 'it returns false'. Refute it at one input. -/
def filesLastWrong : ChangeSpec := { name := "filesLast", fn := fun _ => fun
  | [d1, d2, d3, d4, d5] => { results := [.lit (.bool false)], args := [d1, d2, d3, d4, d5] }
  | _ => none }
def FilesLastWrongFalsely : Prop := filesLastRow.holds Try.pinned (OpenSpec.ofChange filesLastWrong)

/-- 'millpondlaw04.FilesFirst': WHATEVER THE INPUT: true; the input reads as it did. -/
def filesFirstSpec : ChangeSpec := { name := "filesFirst", fn := fun _ => fun
  | [d] => { results := [.lit (.bool true)], args := [d] }
  | _ => none }
def filesFirstRow : OpenClaim := { program := "ytdpjlkkpjnmdnaa", sum := "633fd77ab6ea8c00cd6c3c117486354ff3a88e69cdd6950fab184addf4866c59", func := "millpond/millpondlaw04.FilesFirst", spec := "filesFirst", plainKeys := false, apart := false }
def FilesFirstSaid : Prop := filesFirstRow.holds Try.pinned (OpenSpec.ofChange filesFirstSpec)

/-- ITS FALSE NEIGHBOUR: 'it returns false'. Refute it at one input. -/
def filesFirstWrong : ChangeSpec := { name := "filesFirst", fn := fun _ => fun
  | [d] => { results := [.lit (.bool false)], args := [d] }
  | _ => none }
def FilesFirstWrongFalsely : Prop := filesFirstRow.holds Try.pinned (OpenSpec.ofChange filesFirstWrong)

/-- 'millpondlaw04.FilesSizes': WHATEVER THE INPUT: true; the input reads as it did. -/
def filesSizesSpec : ChangeSpec := { name := "filesSizes", fn := fun _ => fun
  | [d1, d2, d3] => { results := [.lit (.bool true)], args := [d1, d2, d3] }
  | _ => none }
def filesSizesRow : OpenClaim := { program := "ytdpjlkkpjnmdnaa", sum := "633fd77ab6ea8c00cd6c3c117486354ff3a88e69cdd6950fab184addf4866c59", func := "millpond/millpondlaw04.FilesSizes", spec := "filesSizes", plainKeys := false, apart := false }
def FilesSizesSaid : Prop := filesSizesRow.holds Try.pinned (OpenSpec.ofChange filesSizesSpec)

/-- ITS FALSE NEIGHBOUR: 'it returns false'. Refute it at one input. -/
def filesSizesWrong : ChangeSpec := { name := "filesSizes", fn := fun _ => fun
  | [d1, d2, d3] => { results := [.lit (.bool false)], args := [d1, d2, d3] }
  | _ => none }
def FilesSizesWrongFalsely : Prop := filesSizesRow.holds Try.pinned (OpenSpec.ofChange filesSizesWrong)

/- THE SECOND FORM. 'bulk': how many values and letters a reading holds, each counted each time it is reached (what is shared counts as often as it is met; a slice's spare places count too). A statement '..UptoSaid' is the law's where the arguments, and the package variables that the reading takes, are together of bulk at most 1048576: NARROWER than '..Said'. Prove '..Said' where nothing that the law and all that it calls make is longer than what came in: it says more and counts as full. Else prove '..UptoSaid'. A law counts once. -/
mutual
def uptoBulk {H : Type} : DataW H → Nat
  | .lit (.string bytes) => bytes.length + 1
  | .lit _ => 1
  | .nil => 1
  | .ptr d => uptoBulk d + 1
  | .slice elems spare => uptoBulkAll elems + uptoBulkAll spare + 1
  | .agg parts => uptoBulkAll parts + 1
  | .iface _ d => uptoBulk d + 1
  | .map entries => uptoBulkEntries entries + 1
  | .held _ => 1
def uptoBulkAll {H : Type} : List (DataW H) → Nat
  | [] => 0
  | d :: r => uptoBulk d + uptoBulkAll r
def uptoBulkEntries {H : Type} : List (Lit × DataW H) → Nat
  | [] => 0
  | x :: r => uptoBulkEntry x + uptoBulkEntries r
def uptoBulkEntry {H : Type} : Lit × DataW H → Nat
  | (.string bytes, d) => bytes.length + uptoBulk d + 1
  | (_, d) => uptoBulk d + 1
 end
def uptoSmall : (H : Type) → List (DataW H) → Bool := fun _ ds => decide (uptoBulkAll ds ≤ 1048576)
def OpenSpec.upto (s : _root_.Go.ChangeSpec) : _root_.Go.OpenSpec := { _root_.Go.OpenSpec.ofChange s with cond := some uptoSmall }

/-- 'millpondlaw04.FilesDoes', WHERE WHAT IT READS IS OF BULK AT MOST 1048576: true; the input reads as it did. -/
def filesDoesUptoRow : OpenClaim := { program := "ytdpjlkkpjnmdnaa", sum := "633fd77ab6ea8c00cd6c3c117486354ff3a88e69cdd6950fab184addf4866c59", func := "millpond/millpondlaw04.FilesDoes", spec := "filesDoes", plainKeys := false, apart := false, narrowed := true }
def FilesDoesUptoSaid : Prop := filesDoesUptoRow.holds Try.pinned (OpenSpec.upto filesDoesSpec)

/-- 'millpondlaw04.FilesLast', WHERE WHAT IT READS IS OF BULK AT MOST 1048576: true; the input reads as it did. -/
def filesLastUptoRow : OpenClaim := { program := "ytdpjlkkpjnmdnaa", sum := "633fd77ab6ea8c00cd6c3c117486354ff3a88e69cdd6950fab184addf4866c59", func := "millpond/millpondlaw04.FilesLast", spec := "filesLast", plainKeys := false, apart := false, narrowed := true }
def FilesLastUptoSaid : Prop := filesLastUptoRow.holds Try.pinned (OpenSpec.upto filesLastSpec)

/-- 'millpondlaw04.FilesFirst', WHERE WHAT IT READS IS OF BULK AT MOST 1048576: true; the input reads as it did. -/
def filesFirstUptoRow : OpenClaim := { program := "ytdpjlkkpjnmdnaa", sum := "633fd77ab6ea8c00cd6c3c117486354ff3a88e69cdd6950fab184addf4866c59", func := "millpond/millpondlaw04.FilesFirst", spec := "filesFirst", plainKeys := false, apart := false, narrowed := true }
def FilesFirstUptoSaid : Prop := filesFirstUptoRow.holds Try.pinned (OpenSpec.upto filesFirstSpec)

/-- 'millpondlaw04.FilesSizes', WHERE WHAT IT READS IS OF BULK AT MOST 1048576: true; the input reads as it did. -/
def filesSizesUptoRow : OpenClaim := { program := "ytdpjlkkpjnmdnaa", sum := "633fd77ab6ea8c00cd6c3c117486354ff3a88e69cdd6950fab184addf4866c59", func := "millpond/millpondlaw04.FilesSizes", spec := "filesSizes", plainKeys := false, apart := false, narrowed := true }
def FilesSizesUptoSaid : Prop := filesSizesUptoRow.holds Try.pinned (OpenSpec.upto filesSizesSpec)

end Rows
end Go.Proofs.Ytdpjlkkpjnmdnaa
