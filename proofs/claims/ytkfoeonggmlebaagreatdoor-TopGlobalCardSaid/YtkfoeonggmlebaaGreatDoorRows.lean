/-
  NARROWER THAN 'FOR EVERY INPUT', by the rows' own cells (each row's printed sentence says how): TopOom: laid · TopFork: laid · TopFiles: laid · TopTicks: laid · TopReplays: laid · TopGlobal: laid · TopFilesOnly: laid.
  DERIVED. THE GIVEN ROWS OF THIS SEAT. 7 by the template 'for every input the law returns true; each argument reads behind the call as it read before'; 0 by the template 'total and deterministic' (their statements: YtkfoeonggmlebaaGreatDoorTotals.lean).
  GIVEN WITH THE SEED: the statements are not yours to turn. If you find one false, say at which input.
  Laid BY PROGRAM, IN A SANDBOX (cutbox-rows.mjs): the forced cells as the released guide's own fill.sh prints them over the translation 1bee5011dab85b3b… (all of the seat's roots in one cut). By AI agents, Wed Nov 11 2026. No macro, syntax, notation, axiom, sorry.
-/
import Derived.Test.YtkfoeonggmlebaaGreatDoorChecked
import GoSem.Claim
import GoSem.ClaimJoined
import GoSem.ClaimMapViews
import Derived.JoinedTies
import Derived.KernelRfl
namespace Go.Proofs.YtkfoeonggmlebaaGreatDoor
/- THE CELL 'sum', in the pinned program and in every row, IS THE sha256 OF THE DUMP (.gsa) THAT YtkfoeonggmlebaaGreatDoorProg.lean LOADS. Nothing in Lean hashes anything: it is a label: what it is worth is what the hold of that sum in a sandbox is worth. -/
noncomputable def Tryz.pinned : Pinned := { name := "ytkfoeonggmlebaagreatdoor", sum := "1bee5011dab85b3b79398605309a64a3ffc7cb80688d73f72bc6437856a704af", checked := Tryz.checked }
namespace Rows
def none {H : Type} : Left H := { results := [], args := [] }

/- WHAT THE LISTED PACKAGE-LEVEL VARIABLES READ AS WHEN THE CALL BEGINS. Each datum BY PROGRAM (the guide's laid-datum.mjs) off the statement by which the dump's own 'gosem.cut.vars' lays the variable. In a bare row this is a premise. The card (YtkfoeonggmlebaaGreatDoorCards.lean) ties it to the program's text. -/
def laid_math_bits_deBruijn64tab {H : Type} : DataW H := .agg [.lit (.int .u8 0), .lit (.int .u8 1), .lit (.int .u8 56), .lit (.int .u8 2), .lit (.int .u8 57), .lit (.int .u8 49), .lit (.int .u8 28), .lit (.int .u8 3), .lit (.int .u8 61), .lit (.int .u8 58), .lit (.int .u8 42), .lit (.int .u8 50), .lit (.int .u8 38), .lit (.int .u8 29), .lit (.int .u8 17), .lit (.int .u8 4), .lit (.int .u8 62), .lit (.int .u8 47), .lit (.int .u8 59), .lit (.int .u8 36), .lit (.int .u8 45), .lit (.int .u8 43), .lit (.int .u8 51), .lit (.int .u8 22), .lit (.int .u8 53), .lit (.int .u8 39), .lit (.int .u8 33), .lit (.int .u8 30), .lit (.int .u8 24), .lit (.int .u8 18), .lit (.int .u8 12), .lit (.int .u8 5), .lit (.int .u8 63), .lit (.int .u8 55), .lit (.int .u8 48), .lit (.int .u8 27), .lit (.int .u8 60), .lit (.int .u8 41), .lit (.int .u8 37), .lit (.int .u8 16), .lit (.int .u8 46), .lit (.int .u8 35), .lit (.int .u8 44), .lit (.int .u8 21), .lit (.int .u8 52), .lit (.int .u8 32), .lit (.int .u8 23), .lit (.int .u8 11), .lit (.int .u8 54), .lit (.int .u8 26), .lit (.int .u8 40), .lit (.int .u8 15), .lit (.int .u8 34), .lit (.int .u8 20), .lit (.int .u8 31), .lit (.int .u8 10), .lit (.int .u8 25), .lit (.int .u8 14), .lit (.int .u8 19), .lit (.int .u8 9), .lit (.int .u8 13), .lit (.int .u8 8), .lit (.int .u8 7), .lit (.int .u8 6)]

/-- 'millpondtop.TopOom': WHATEVER THE INPUT: true; the input reads as it did. -/
def topOomSpec : ChangeSpec := { name := "topOom", fn := fun _ => fun
  | [d1, d2, d3] => { results := [.lit (.bool true)], args := [d1, d2, d3] }
  | _ => none }
def topOomRow : OpenClaim := { program := "ytkfoeonggmlebaagreatdoor", sum := "1bee5011dab85b3b79398605309a64a3ffc7cb80688d73f72bc6437856a704af", func := "millpond/millpondtop.TopOom", spec := "topOom", unfollowed := true, recurses := true, named := ["math/bits.divideError", "math/bits.overflowError", "math/bits.deBruijn64tab"], plainKeys := false, apart := false, laid := [("math/bits.deBruijn64tab", laid_math_bits_deBruijn64tab)] }
def TopOomSaid : Prop := topOomRow.holds Tryz.pinned (OpenSpec.ofChange topOomSpec)

/-- ITS FALSE NEIGHBOUR: 'it returns false'. Refute it at one input. -/
def topOomWrong : ChangeSpec := { name := "topOom", fn := fun _ => fun
  | [d1, d2, d3] => { results := [.lit (.bool false)], args := [d1, d2, d3] }
  | _ => none }
def TopOomWrongFalsely : Prop := topOomRow.holds Tryz.pinned (OpenSpec.ofChange topOomWrong)

/-- 'millpondtop.TopFork': WHATEVER THE INPUT: true; the input reads as it did. -/
def topForkSpec : ChangeSpec := { name := "topFork", fn := fun _ => fun
  | [d1, d2, d3] => { results := [.lit (.bool true)], args := [d1, d2, d3] }
  | _ => none }
def topForkRow : OpenClaim := { program := "ytkfoeonggmlebaagreatdoor", sum := "1bee5011dab85b3b79398605309a64a3ffc7cb80688d73f72bc6437856a704af", func := "millpond/millpondtop.TopFork", spec := "topFork", unfollowed := true, recurses := true, named := ["math/bits.divideError", "math/bits.overflowError", "math/bits.deBruijn64tab"], plainKeys := false, apart := false, laid := [("math/bits.deBruijn64tab", laid_math_bits_deBruijn64tab)] }
def TopForkSaid : Prop := topForkRow.holds Tryz.pinned (OpenSpec.ofChange topForkSpec)

/-- ITS FALSE NEIGHBOUR: 'it returns false'. Refute it at one input. -/
def topForkWrong : ChangeSpec := { name := "topFork", fn := fun _ => fun
  | [d1, d2, d3] => { results := [.lit (.bool false)], args := [d1, d2, d3] }
  | _ => none }
def TopForkWrongFalsely : Prop := topForkRow.holds Tryz.pinned (OpenSpec.ofChange topForkWrong)

/-- 'millpondtop.TopFiles': WHATEVER THE INPUT: true; the input reads as it did. -/
def topFilesSpec : ChangeSpec := { name := "topFiles", fn := fun _ => fun
  | [d1, d2, d3, d4] => { results := [.lit (.bool true)], args := [d1, d2, d3, d4] }
  | _ => none }
def topFilesRow : OpenClaim := { program := "ytkfoeonggmlebaagreatdoor", sum := "1bee5011dab85b3b79398605309a64a3ffc7cb80688d73f72bc6437856a704af", func := "millpond/millpondtop.TopFiles", spec := "topFiles", unfollowed := true, recurses := true, named := ["math/bits.divideError", "math/bits.overflowError", "math/bits.deBruijn64tab"], plainKeys := false, apart := false, laid := [("math/bits.deBruijn64tab", laid_math_bits_deBruijn64tab)] }
def TopFilesSaid : Prop := topFilesRow.holds Tryz.pinned (OpenSpec.ofChange topFilesSpec)

/-- ITS FALSE NEIGHBOUR: 'it returns false'. Refute it at one input. -/
def topFilesWrong : ChangeSpec := { name := "topFiles", fn := fun _ => fun
  | [d1, d2, d3, d4] => { results := [.lit (.bool false)], args := [d1, d2, d3, d4] }
  | _ => none }
def TopFilesWrongFalsely : Prop := topFilesRow.holds Tryz.pinned (OpenSpec.ofChange topFilesWrong)

/-- 'millpondtop.TopTicks': WHATEVER THE INPUT: true; the input reads as it did. -/
def topTicksSpec : ChangeSpec := { name := "topTicks", fn := fun _ => fun
  | [d1, d2, d3, d4] => { results := [.lit (.bool true)], args := [d1, d2, d3, d4] }
  | _ => none }
def topTicksRow : OpenClaim := { program := "ytkfoeonggmlebaagreatdoor", sum := "1bee5011dab85b3b79398605309a64a3ffc7cb80688d73f72bc6437856a704af", func := "millpond/millpondtop.TopTicks", spec := "topTicks", unfollowed := true, recurses := true, named := ["math/bits.divideError", "math/bits.overflowError", "math/bits.deBruijn64tab"], plainKeys := false, apart := false, laid := [("math/bits.deBruijn64tab", laid_math_bits_deBruijn64tab)] }
def TopTicksSaid : Prop := topTicksRow.holds Tryz.pinned (OpenSpec.ofChange topTicksSpec)

/-- ITS FALSE NEIGHBOUR: 'it returns false'. Refute it at one input. -/
def topTicksWrong : ChangeSpec := { name := "topTicks", fn := fun _ => fun
  | [d1, d2, d3, d4] => { results := [.lit (.bool false)], args := [d1, d2, d3, d4] }
  | _ => none }
def TopTicksWrongFalsely : Prop := topTicksRow.holds Tryz.pinned (OpenSpec.ofChange topTicksWrong)

/-- 'millpondtop.TopReplays': WHATEVER THE INPUT: true; the input reads as it did. -/
def topReplaysSpec : ChangeSpec := { name := "topReplays", fn := fun _ => fun
  | [d1, d2, d3, d4] => { results := [.lit (.bool true)], args := [d1, d2, d3, d4] }
  | _ => none }
def topReplaysRow : OpenClaim := { program := "ytkfoeonggmlebaagreatdoor", sum := "1bee5011dab85b3b79398605309a64a3ffc7cb80688d73f72bc6437856a704af", func := "millpond/millpondtop.TopReplays", spec := "topReplays", unfollowed := true, recurses := true, named := ["math/bits.divideError", "math/bits.overflowError", "math/bits.deBruijn64tab"], plainKeys := false, apart := false, laid := [("math/bits.deBruijn64tab", laid_math_bits_deBruijn64tab)] }
def TopReplaysSaid : Prop := topReplaysRow.holds Tryz.pinned (OpenSpec.ofChange topReplaysSpec)

/-- ITS FALSE NEIGHBOUR: 'it returns false'. Refute it at one input. -/
def topReplaysWrong : ChangeSpec := { name := "topReplays", fn := fun _ => fun
  | [d1, d2, d3, d4] => { results := [.lit (.bool false)], args := [d1, d2, d3, d4] }
  | _ => none }
def TopReplaysWrongFalsely : Prop := topReplaysRow.holds Tryz.pinned (OpenSpec.ofChange topReplaysWrong)

/-- 'millpondtop.TopGlobal': WHATEVER THE INPUT: true; the input reads as it did. -/
def topGlobalSpec : ChangeSpec := { name := "topGlobal", fn := fun _ => fun
  | [d1, d2] => { results := [.lit (.bool true)], args := [d1, d2] }
  | _ => none }
def topGlobalRow : OpenClaim := { program := "ytkfoeonggmlebaagreatdoor", sum := "1bee5011dab85b3b79398605309a64a3ffc7cb80688d73f72bc6437856a704af", func := "millpond/millpondtop.TopGlobal", spec := "topGlobal", unfollowed := true, recurses := true, named := ["math/bits.divideError", "math/bits.overflowError", "math/bits.deBruijn64tab"], plainKeys := false, apart := false, laid := [("math/bits.deBruijn64tab", laid_math_bits_deBruijn64tab)] }
def TopGlobalSaid : Prop := topGlobalRow.holds Tryz.pinned (OpenSpec.ofChange topGlobalSpec)

/-- ITS FALSE NEIGHBOUR: 'it returns false'. Refute it at one input. -/
def topGlobalWrong : ChangeSpec := { name := "topGlobal", fn := fun _ => fun
  | [d1, d2] => { results := [.lit (.bool false)], args := [d1, d2] }
  | _ => none }
def TopGlobalWrongFalsely : Prop := topGlobalRow.holds Tryz.pinned (OpenSpec.ofChange topGlobalWrong)

/-- 'millpondtop.TopFilesOnly': WHATEVER THE INPUT: true; the input reads as it did. -/
def topFilesOnlySpec : ChangeSpec := { name := "topFilesOnly", fn := fun _ => fun
  | [d1, d2, d3] => { results := [.lit (.bool true)], args := [d1, d2, d3] }
  | _ => none }
def topFilesOnlyRow : OpenClaim := { program := "ytkfoeonggmlebaagreatdoor", sum := "1bee5011dab85b3b79398605309a64a3ffc7cb80688d73f72bc6437856a704af", func := "millpond/millpondtop.TopFilesOnly", spec := "topFilesOnly", unfollowed := true, recurses := true, named := ["math/bits.divideError", "math/bits.overflowError", "math/bits.deBruijn64tab"], plainKeys := false, apart := false, laid := [("math/bits.deBruijn64tab", laid_math_bits_deBruijn64tab)] }
def TopFilesOnlySaid : Prop := topFilesOnlyRow.holds Tryz.pinned (OpenSpec.ofChange topFilesOnlySpec)

/-- ITS FALSE NEIGHBOUR: 'it returns false'. Refute it at one input. -/
def topFilesOnlyWrong : ChangeSpec := { name := "topFilesOnly", fn := fun _ => fun
  | [d1, d2, d3] => { results := [.lit (.bool false)], args := [d1, d2, d3] }
  | _ => none }
def TopFilesOnlyWrongFalsely : Prop := topFilesOnlyRow.holds Tryz.pinned (OpenSpec.ofChange topFilesOnlyWrong)

/- THE SECOND FORM. 'bulk': how many values and letters a reading holds, each counted each time it is reached (what is shared counts as often as it is met; a slice's spare places count too). A statement '..UptoSaid' is the law's where the arguments, and the package variables that the reading takes, are together of bulk at most 1048576: NARROWER than '..Said'. Prove '..Said' where nothing that the law and all that it calls make is longer than what came in: it says more and counts as full. Else prove '..UptoSaid'. A law counts once. -/
mutual
def uptoBulk {H : Type} : DataW H → Nat
  | .lit (.string bytes) => bytes.length + 1
  | .lit _ => 1
  | .nil => 1
  | .ptr d => uptoBulk d + 1
  | .slice elems spare => uptoBulkAll elems + uptoBulkAll spare + 1
  | .agg parts => uptoBulkAll parts + 1
  | .iface _ d => uptoBulk d + 1
  | .map entries => uptoBulkEntries entries + 1
  | .held _ => 1
def uptoBulkAll {H : Type} : List (DataW H) → Nat
  | [] => 0
  | d :: r => uptoBulk d + uptoBulkAll r
def uptoBulkEntries {H : Type} : List (Lit × DataW H) → Nat
  | [] => 0
  | x :: r => uptoBulkEntry x + uptoBulkEntries r
def uptoBulkEntry {H : Type} : Lit × DataW H → Nat
  | (.string bytes, d) => bytes.length + uptoBulk d + 1
  | (_, d) => uptoBulk d + 1
 end
def uptoSmall : (H : Type) → List (DataW H) → Bool := fun _ ds => decide (uptoBulkAll ds ≤ 1048576)
def OpenSpec.upto (s : _root_.Go.ChangeSpec) : _root_.Go.OpenSpec := { _root_.Go.OpenSpec.ofChange s with cond := some uptoSmall }

/-- 'millpondtop.TopOom', WHERE WHAT IT READS IS OF BULK AT MOST 1048576: true; the input reads as it did. -/
def topOomUptoRow : OpenClaim := { program := "ytkfoeonggmlebaagreatdoor", sum := "1bee5011dab85b3b79398605309a64a3ffc7cb80688d73f72bc6437856a704af", func := "millpond/millpondtop.TopOom", spec := "topOom", unfollowed := true, recurses := true, named := ["math/bits.divideError", "math/bits.overflowError", "math/bits.deBruijn64tab"], plainKeys := false, apart := false, laid := [("math/bits.deBruijn64tab", laid_math_bits_deBruijn64tab)], narrowed := true }
def TopOomUptoSaid : Prop := topOomUptoRow.holds Tryz.pinned (OpenSpec.upto topOomSpec)

/-- 'millpondtop.TopFork', WHERE WHAT IT READS IS OF BULK AT MOST 1048576: true; the input reads as it did. -/
def topForkUptoRow : OpenClaim := { program := "ytkfoeonggmlebaagreatdoor", sum := "1bee5011dab85b3b79398605309a64a3ffc7cb80688d73f72bc6437856a704af", func := "millpond/millpondtop.TopFork", spec := "topFork", unfollowed := true, recurses := true, named := ["math/bits.divideError", "math/bits.overflowError", "math/bits.deBruijn64tab"], plainKeys := false, apart := false, laid := [("math/bits.deBruijn64tab", laid_math_bits_deBruijn64tab)], narrowed := true }
def TopForkUptoSaid : Prop := topForkUptoRow.holds Tryz.pinned (OpenSpec.upto topForkSpec)

/-- 'millpondtop.TopFiles', WHERE WHAT IT READS IS OF BULK AT MOST 1048576: true; the input reads as it did. -/
def topFilesUptoRow : OpenClaim := { program := "ytkfoeonggmlebaagreatdoor", sum := "1bee5011dab85b3b79398605309a64a3ffc7cb80688d73f72bc6437856a704af", func := "millpond/millpondtop.TopFiles", spec := "topFiles", unfollowed := true, recurses := true, named := ["math/bits.divideError", "math/bits.overflowError", "math/bits.deBruijn64tab"], plainKeys := false, apart := false, laid := [("math/bits.deBruijn64tab", laid_math_bits_deBruijn64tab)], narrowed := true }
def TopFilesUptoSaid : Prop := topFilesUptoRow.holds Tryz.pinned (OpenSpec.upto topFilesSpec)

/-- 'millpondtop.TopTicks', WHERE WHAT IT READS IS OF BULK AT MOST 1048576: true; the input reads as it did. -/
def topTicksUptoRow : OpenClaim := { program := "ytkfoeonggmlebaagreatdoor", sum := "1bee5011dab85b3b79398605309a64a3ffc7cb80688d73f72bc6437856a704af", func := "millpond/millpondtop.TopTicks", spec := "topTicks", unfollowed := true, recurses := true, named := ["math/bits.divideError", "math/bits.overflowError", "math/bits.deBruijn64tab"], plainKeys := false, apart := false, laid := [("math/bits.deBruijn64tab", laid_math_bits_deBruijn64tab)], narrowed := true }
def TopTicksUptoSaid : Prop := topTicksUptoRow.holds Tryz.pinned (OpenSpec.upto topTicksSpec)

/-- 'millpondtop.TopReplays', WHERE WHAT IT READS IS OF BULK AT MOST 1048576: true; the input reads as it did. -/
def topReplaysUptoRow : OpenClaim := { program := "ytkfoeonggmlebaagreatdoor", sum := "1bee5011dab85b3b79398605309a64a3ffc7cb80688d73f72bc6437856a704af", func := "millpond/millpondtop.TopReplays", spec := "topReplays", unfollowed := true, recurses := true, named := ["math/bits.divideError", "math/bits.overflowError", "math/bits.deBruijn64tab"], plainKeys := false, apart := false, laid := [("math/bits.deBruijn64tab", laid_math_bits_deBruijn64tab)], narrowed := true }
def TopReplaysUptoSaid : Prop := topReplaysUptoRow.holds Tryz.pinned (OpenSpec.upto topReplaysSpec)

/-- 'millpondtop.TopGlobal', WHERE WHAT IT READS IS OF BULK AT MOST 1048576: true; the input reads as it did. -/
def topGlobalUptoRow : OpenClaim := { program := "ytkfoeonggmlebaagreatdoor", sum := "1bee5011dab85b3b79398605309a64a3ffc7cb80688d73f72bc6437856a704af", func := "millpond/millpondtop.TopGlobal", spec := "topGlobal", unfollowed := true, recurses := true, named := ["math/bits.divideError", "math/bits.overflowError", "math/bits.deBruijn64tab"], plainKeys := false, apart := false, laid := [("math/bits.deBruijn64tab", laid_math_bits_deBruijn64tab)], narrowed := true }
def TopGlobalUptoSaid : Prop := topGlobalUptoRow.holds Tryz.pinned (OpenSpec.upto topGlobalSpec)

/-- 'millpondtop.TopFilesOnly', WHERE WHAT IT READS IS OF BULK AT MOST 1048576: true; the input reads as it did. -/
def topFilesOnlyUptoRow : OpenClaim := { program := "ytkfoeonggmlebaagreatdoor", sum := "1bee5011dab85b3b79398605309a64a3ffc7cb80688d73f72bc6437856a704af", func := "millpond/millpondtop.TopFilesOnly", spec := "topFilesOnly", unfollowed := true, recurses := true, named := ["math/bits.divideError", "math/bits.overflowError", "math/bits.deBruijn64tab"], plainKeys := false, apart := false, laid := [("math/bits.deBruijn64tab", laid_math_bits_deBruijn64tab)], narrowed := true }
def TopFilesOnlyUptoSaid : Prop := topFilesOnlyUptoRow.holds Tryz.pinned (OpenSpec.upto topFilesOnlySpec)

end Rows
end Go.Proofs.YtkfoeonggmlebaaGreatDoor
