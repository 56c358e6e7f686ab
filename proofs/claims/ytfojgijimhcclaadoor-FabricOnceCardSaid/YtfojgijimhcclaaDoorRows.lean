/-
  NARROWER THAN 'FOR EVERY INPUT', by the rows' own cells (each row's printed sentence says how): FabricOnce: laid · FabricCopies: laid · NotePrints: laid · NoteMore: laid · NoteChecks: laid · NoteOne: laid.
  DERIVED. THE GIVEN ROWS OF THIS SEAT. 6 by the template 'for every input the law returns true; each argument reads behind the call as it read before'; 0 by the template 'total and deterministic' (their statements: YtfojgijimhcclaaDoorTotals.lean).
  GIVEN WITH THE SEED: the statements are not yours to turn. If you find one false, say at which input.
  Laid BY PROGRAM, IN A SANDBOX (cutbox-rows.mjs): the forced cells as the released guide's own fill.sh prints them over the translation bb86420af8c40104… (all of the seat's roots in one cut). By AI agents, Wed Nov 11 2026. No macro, syntax, notation, axiom, sorry.
-/
import Derived.Test.YtfojgijimhcclaaDoorChecked
import GoSem.Claim
import GoSem.ClaimJoined
import GoSem.ClaimMapViews
import Derived.JoinedTies
import Derived.KernelRfl
namespace Go.Proofs.YtfojgijimhcclaaDoor
/- THE CELL 'sum', in the pinned program and in every row, IS THE sha256 OF THE DUMP (.gsa) THAT YtfojgijimhcclaaDoorProg.lean LOADS. Nothing in Lean hashes anything: it is a label: what it is worth is what the hold of that sum in a sandbox is worth. -/
noncomputable def Tryd.pinned : Pinned := { name := "ytfojgijimhcclaadoor", sum := "bb86420af8c401045fed81111ea404464df6b73df440bb52e237ed22e67fe2fd", checked := Tryd.checked }
namespace Rows
def none {H : Type} : Left H := { results := [], args := [] }

/- WHAT THE LISTED PACKAGE-LEVEL VARIABLES READ AS WHEN THE CALL BEGINS. Each datum BY PROGRAM (the guide's laid-datum.mjs) off the statement by which the dump's own 'gosem.cut.vars' lays the variable. In a bare row this is a premise. The card (YtfojgijimhcclaaDoorCards.lean) ties it to the program's text. -/
def laid_donjon_note_shapes {H : Type} : DataW H := .agg [.agg [.lit (.string []), .lit (.int .i64 0), .lit (.string [])], .agg [.lit (.string [103, 101, 116, 115]), .lit (.int .i64 0), .lit (.string [99, 108, 119])], .agg [.lit (.string [103, 101, 116, 109]), .lit (.int .i64 0), .lit (.string [99, 108, 119])], .agg [.lit (.string [112, 117, 116]), .lit (.int .i64 0), .lit (.string [99, 108, 116, 100, 101, 120])], .agg [.lit (.string [100, 111, 110, 101]), .lit (.int .i64 1), .lit (.string [99, 108])], .agg [.lit (.string [114, 101, 112, 108, 121]), .lit (.int .i64 1), .lit (.string [99, 108, 115, 100, 101, 120, 98])], .agg [.lit (.string [119, 97, 108, 107]), .lit (.int .i64 0), .lit (.string [99, 112])], .agg [.lit (.string [100, 114, 111, 112, 112, 101, 100]), .lit (.int .i64 1), .lit (.string [99, 110])], .agg [.lit (.string [103, 114, 97, 110, 116]), .lit (.int .i64 2), .lit (.string [99, 108, 116, 103, 100, 101])], .agg [.lit (.string [110, 97, 99, 107]), .lit (.int .i64 2), .lit (.string [99, 108, 98])], .agg [.lit (.string [112, 117, 116, 97, 99, 107]), .lit (.int .i64 2), .lit (.string [99, 108])], .agg [.lit (.string [112, 114, 111, 98, 101]), .lit (.int .i64 3), .lit (.string [99, 108, 111])], .agg [.lit (.string [119, 97, 108, 107, 101, 100]), .lit (.int .i64 2), .lit (.string [99, 100, 101, 112])], .agg [.lit (.string [100, 114, 111, 112]), .lit (.int .i64 3), .lit (.string [99, 110])]]
def laid_math_bits_deBruijn32tab {H : Type} : DataW H := .agg [.lit (.int .u8 0), .lit (.int .u8 1), .lit (.int .u8 28), .lit (.int .u8 2), .lit (.int .u8 29), .lit (.int .u8 14), .lit (.int .u8 24), .lit (.int .u8 3), .lit (.int .u8 30), .lit (.int .u8 22), .lit (.int .u8 20), .lit (.int .u8 15), .lit (.int .u8 25), .lit (.int .u8 17), .lit (.int .u8 4), .lit (.int .u8 8), .lit (.int .u8 31), .lit (.int .u8 27), .lit (.int .u8 13), .lit (.int .u8 23), .lit (.int .u8 21), .lit (.int .u8 19), .lit (.int .u8 16), .lit (.int .u8 7), .lit (.int .u8 26), .lit (.int .u8 12), .lit (.int .u8 18), .lit (.int .u8 6), .lit (.int .u8 11), .lit (.int .u8 5), .lit (.int .u8 10), .lit (.int .u8 9)]
def laid_math_bits_deBruijn64tab {H : Type} : DataW H := .agg [.lit (.int .u8 0), .lit (.int .u8 1), .lit (.int .u8 56), .lit (.int .u8 2), .lit (.int .u8 57), .lit (.int .u8 49), .lit (.int .u8 28), .lit (.int .u8 3), .lit (.int .u8 61), .lit (.int .u8 58), .lit (.int .u8 42), .lit (.int .u8 50), .lit (.int .u8 38), .lit (.int .u8 29), .lit (.int .u8 17), .lit (.int .u8 4), .lit (.int .u8 62), .lit (.int .u8 47), .lit (.int .u8 59), .lit (.int .u8 36), .lit (.int .u8 45), .lit (.int .u8 43), .lit (.int .u8 51), .lit (.int .u8 22), .lit (.int .u8 53), .lit (.int .u8 39), .lit (.int .u8 33), .lit (.int .u8 30), .lit (.int .u8 24), .lit (.int .u8 18), .lit (.int .u8 12), .lit (.int .u8 5), .lit (.int .u8 63), .lit (.int .u8 55), .lit (.int .u8 48), .lit (.int .u8 27), .lit (.int .u8 60), .lit (.int .u8 41), .lit (.int .u8 37), .lit (.int .u8 16), .lit (.int .u8 46), .lit (.int .u8 35), .lit (.int .u8 44), .lit (.int .u8 21), .lit (.int .u8 52), .lit (.int .u8 32), .lit (.int .u8 23), .lit (.int .u8 11), .lit (.int .u8 54), .lit (.int .u8 26), .lit (.int .u8 40), .lit (.int .u8 15), .lit (.int .u8 34), .lit (.int .u8 20), .lit (.int .u8 31), .lit (.int .u8 10), .lit (.int .u8 25), .lit (.int .u8 14), .lit (.int .u8 19), .lit (.int .u8 9), .lit (.int .u8 13), .lit (.int .u8 8), .lit (.int .u8 7), .lit (.int .u8 6)]
def laid_internal_strconv_uint64pow10 {H : Type} : DataW H := .agg [.lit (.int .u64 1), .lit (.int .u64 10), .lit (.int .u64 100), .lit (.int .u64 1000), .lit (.int .u64 10000), .lit (.int .u64 100000), .lit (.int .u64 1000000), .lit (.int .u64 10000000), .lit (.int .u64 100000000), .lit (.int .u64 1000000000), .lit (.int .u64 10000000000), .lit (.int .u64 100000000000), .lit (.int .u64 1000000000000), .lit (.int .u64 10000000000000), .lit (.int .u64 100000000000000), .lit (.int .u64 1000000000000000), .lit (.int .u64 10000000000000000), .lit (.int .u64 100000000000000000), .lit (.int .u64 1000000000000000000), .lit (.int .u64 10000000000000000000)]

/-- 'donjonlaw05.FabricOnce': WHATEVER THE INPUT: true; the input reads as it did. -/
def fabricOnceSpec : ChangeSpec := { name := "fabricOnce", fn := fun _ => fun
  | [d1, d2] => { results := [.lit (.bool true)], args := [d1, d2] }
  | _ => none }
def fabricOnceRow : OpenClaim := { program := "ytfojgijimhcclaadoor", sum := "bb86420af8c401045fed81111ea404464df6b73df440bb52e237ed22e67fe2fd", func := "donjon/donjonlaw05.FabricOnce", spec := "fabricOnce", unfollowed := true, recurses := true, named := ["donjon/note.shapes"], apart := false, laid := [("donjon/note.shapes", laid_donjon_note_shapes)] }
def FabricOnceSaid : Prop := fabricOnceRow.holds Tryd.pinned (OpenSpec.ofChange fabricOnceSpec)

/-- ITS FALSE NEIGHBOUR: 'it returns false'. Refute it at one input. -/
def fabricOnceWrong : ChangeSpec := { name := "fabricOnce", fn := fun _ => fun
  | [d1, d2] => { results := [.lit (.bool false)], args := [d1, d2] }
  | _ => none }
def FabricOnceWrongFalsely : Prop := fabricOnceRow.holds Tryd.pinned (OpenSpec.ofChange fabricOnceWrong)

/-- 'donjonlaw05.FabricCopies': WHATEVER THE INPUT: true; the input reads as it did. -/
def fabricCopiesSpec : ChangeSpec := { name := "fabricCopies", fn := fun _ => fun
  | [d1, d2, d3] => { results := [.lit (.bool true)], args := [d1, d2, d3] }
  | _ => none }
def fabricCopiesRow : OpenClaim := { program := "ytfojgijimhcclaadoor", sum := "bb86420af8c401045fed81111ea404464df6b73df440bb52e237ed22e67fe2fd", func := "donjon/donjonlaw05.FabricCopies", spec := "fabricCopies", unfollowed := true, recurses := true, named := ["donjon/note.shapes"], apart := false, laid := [("donjon/note.shapes", laid_donjon_note_shapes)] }
def FabricCopiesSaid : Prop := fabricCopiesRow.holds Tryd.pinned (OpenSpec.ofChange fabricCopiesSpec)

/-- ITS FALSE NEIGHBOUR: 'it returns false'. Refute it at one input. -/
def fabricCopiesWrong : ChangeSpec := { name := "fabricCopies", fn := fun _ => fun
  | [d1, d2, d3] => { results := [.lit (.bool false)], args := [d1, d2, d3] }
  | _ => none }
def FabricCopiesWrongFalsely : Prop := fabricCopiesRow.holds Tryd.pinned (OpenSpec.ofChange fabricCopiesWrong)

/-- 'donjonlaw03.NotePrints': WHATEVER THE INPUT: true; the input reads as it did. -/
def notePrintsSpec : ChangeSpec := { name := "notePrints", fn := fun _ => fun
  | [d1, d2] => { results := [.lit (.bool true)], args := [d1, d2] }
  | _ => none }
def notePrintsRow : OpenClaim := { program := "ytfojgijimhcclaadoor", sum := "bb86420af8c401045fed81111ea404464df6b73df440bb52e237ed22e67fe2fd", func := "donjon/donjonlaw03.NotePrints", spec := "notePrints", inPlace := ["internal/abi.NoEscape", "internal/bytealg.MakeNoZero"], unfollowed := true, recurses := true, named := ["donjon/note.shapes", "internal/strconv.uint64pow10", "math/bits.deBruijn32tab", "math/bits.deBruijn64tab"], apart := false, laid := [("math/bits.deBruijn32tab", laid_math_bits_deBruijn32tab), ("math/bits.deBruijn64tab", laid_math_bits_deBruijn64tab), ("internal/strconv.uint64pow10", laid_internal_strconv_uint64pow10), ("donjon/note.shapes", laid_donjon_note_shapes)] }
def NotePrintsSaid : Prop := notePrintsRow.holds Tryd.pinned (OpenSpec.ofChange notePrintsSpec)

/-- ITS FALSE NEIGHBOUR: 'it returns false'. Refute it at one input. -/
def notePrintsWrong : ChangeSpec := { name := "notePrints", fn := fun _ => fun
  | [d1, d2] => { results := [.lit (.bool false)], args := [d1, d2] }
  | _ => none }
def NotePrintsWrongFalsely : Prop := notePrintsRow.holds Tryd.pinned (OpenSpec.ofChange notePrintsWrong)

/-- 'donjonlaw03.NoteMore': WHATEVER THE INPUT: true; the input reads as it did. -/
def noteMoreSpec : ChangeSpec := { name := "noteMore", fn := fun _ => fun
  | [d1, d2, d3] => { results := [.lit (.bool true)], args := [d1, d2, d3] }
  | _ => none }
def noteMoreRow : OpenClaim := { program := "ytfojgijimhcclaadoor", sum := "bb86420af8c401045fed81111ea404464df6b73df440bb52e237ed22e67fe2fd", func := "donjon/donjonlaw03.NoteMore", spec := "noteMore", inPlace := ["internal/abi.NoEscape", "internal/bytealg.MakeNoZero"], unfollowed := true, recurses := true, named := ["donjon/note.shapes", "internal/strconv.uint64pow10", "math/bits.deBruijn32tab", "math/bits.deBruijn64tab"], apart := false, laid := [("math/bits.deBruijn32tab", laid_math_bits_deBruijn32tab), ("math/bits.deBruijn64tab", laid_math_bits_deBruijn64tab), ("internal/strconv.uint64pow10", laid_internal_strconv_uint64pow10), ("donjon/note.shapes", laid_donjon_note_shapes)] }
def NoteMoreSaid : Prop := noteMoreRow.holds Tryd.pinned (OpenSpec.ofChange noteMoreSpec)

/-- ITS FALSE NEIGHBOUR: 'it returns false'. Refute it at one input. -/
def noteMoreWrong : ChangeSpec := { name := "noteMore", fn := fun _ => fun
  | [d1, d2, d3] => { results := [.lit (.bool false)], args := [d1, d2, d3] }
  | _ => none }
def NoteMoreWrongFalsely : Prop := noteMoreRow.holds Tryd.pinned (OpenSpec.ofChange noteMoreWrong)

/-- 'donjonlaw03.NoteChecks': WHATEVER THE INPUT: true; the input reads as it did. -/
def noteChecksSpec : ChangeSpec := { name := "noteChecks", fn := fun _ => fun
  | [d1, d2, d3] => { results := [.lit (.bool true)], args := [d1, d2, d3] }
  | _ => none }
def noteChecksRow : OpenClaim := { program := "ytfojgijimhcclaadoor", sum := "bb86420af8c401045fed81111ea404464df6b73df440bb52e237ed22e67fe2fd", func := "donjon/donjonlaw03.NoteChecks", spec := "noteChecks", inPlace := ["internal/abi.NoEscape", "internal/bytealg.MakeNoZero"], unfollowed := true, recurses := true, named := ["donjon/note.shapes", "internal/strconv.uint64pow10", "math/bits.deBruijn32tab", "math/bits.deBruijn64tab"], apart := false, laid := [("math/bits.deBruijn32tab", laid_math_bits_deBruijn32tab), ("math/bits.deBruijn64tab", laid_math_bits_deBruijn64tab), ("internal/strconv.uint64pow10", laid_internal_strconv_uint64pow10), ("donjon/note.shapes", laid_donjon_note_shapes)] }
def NoteChecksSaid : Prop := noteChecksRow.holds Tryd.pinned (OpenSpec.ofChange noteChecksSpec)

/-- ITS FALSE NEIGHBOUR: 'it returns false'. Refute it at one input. -/
def noteChecksWrong : ChangeSpec := { name := "noteChecks", fn := fun _ => fun
  | [d1, d2, d3] => { results := [.lit (.bool false)], args := [d1, d2, d3] }
  | _ => none }
def NoteChecksWrongFalsely : Prop := noteChecksRow.holds Tryd.pinned (OpenSpec.ofChange noteChecksWrong)

/-- 'donjonlaw03.NoteOne': WHATEVER THE INPUT: true; the input reads as it did. -/
def noteOneSpec : ChangeSpec := { name := "noteOne", fn := fun _ => fun
  | [d1, d2, d3] => { results := [.lit (.bool true)], args := [d1, d2, d3] }
  | _ => none }
def noteOneRow : OpenClaim := { program := "ytfojgijimhcclaadoor", sum := "bb86420af8c401045fed81111ea404464df6b73df440bb52e237ed22e67fe2fd", func := "donjon/donjonlaw03.NoteOne", spec := "noteOne", inPlace := ["internal/abi.NoEscape", "internal/bytealg.MakeNoZero"], unfollowed := true, recurses := true, named := ["donjon/note.shapes", "internal/strconv.uint64pow10", "math/bits.deBruijn32tab", "math/bits.deBruijn64tab"], apart := false, laid := [("math/bits.deBruijn32tab", laid_math_bits_deBruijn32tab), ("math/bits.deBruijn64tab", laid_math_bits_deBruijn64tab), ("internal/strconv.uint64pow10", laid_internal_strconv_uint64pow10), ("donjon/note.shapes", laid_donjon_note_shapes)] }
def NoteOneSaid : Prop := noteOneRow.holds Tryd.pinned (OpenSpec.ofChange noteOneSpec)

/-- ITS FALSE NEIGHBOUR: 'it returns false'. Refute it at one input. -/
def noteOneWrong : ChangeSpec := { name := "noteOne", fn := fun _ => fun
  | [d1, d2, d3] => { results := [.lit (.bool false)], args := [d1, d2, d3] }
  | _ => none }
def NoteOneWrongFalsely : Prop := noteOneRow.holds Tryd.pinned (OpenSpec.ofChange noteOneWrong)

/- THE SECOND FORM. 'bulk': how many values and letters a reading holds, each counted each time it is reached (what is shared counts as often as it is met; a slice's spare places count too). A statement '..UptoSaid' is the law's where the arguments, and the package variables that the reading takes, are together of bulk at most 1048576: NARROWER than '..Said'. Prove '..Said' where nothing that the law and all that it calls make is longer than what came in: it says more and counts as full. Else prove '..UptoSaid'. A law counts once. -/
mutual
def uptoBulk {H : Type} : DataW H → Nat
  | .lit (.string bytes) => bytes.length + 1
  | .lit _ => 1
  | .nil => 1
  | .ptr d => uptoBulk d + 1
  | .slice elems spare => uptoBulkAll elems + uptoBulkAll spare + 1
  | .agg parts => uptoBulkAll parts + 1
  | .iface _ d => uptoBulk d + 1
  | .map entries => uptoBulkEntries entries + 1
  | .held _ => 1
def uptoBulkAll {H : Type} : List (DataW H) → Nat
  | [] => 0
  | d :: r => uptoBulk d + uptoBulkAll r
def uptoBulkEntries {H : Type} : List (Lit × DataW H) → Nat
  | [] => 0
  | x :: r => uptoBulkEntry x + uptoBulkEntries r
def uptoBulkEntry {H : Type} : Lit × DataW H → Nat
  | (.string bytes, d) => bytes.length + uptoBulk d + 1
  | (_, d) => uptoBulk d + 1
 end
def uptoSmall : (H : Type) → List (DataW H) → Bool := fun _ ds => decide (uptoBulkAll ds ≤ 1048576)
def OpenSpec.upto (s : _root_.Go.ChangeSpec) : _root_.Go.OpenSpec := { _root_.Go.OpenSpec.ofChange s with cond := some uptoSmall }

/-- 'donjonlaw05.FabricOnce', WHERE WHAT IT READS IS OF BULK AT MOST 1048576: true; the input reads as it did. -/
def fabricOnceUptoRow : OpenClaim := { program := "ytfojgijimhcclaadoor", sum := "bb86420af8c401045fed81111ea404464df6b73df440bb52e237ed22e67fe2fd", func := "donjon/donjonlaw05.FabricOnce", spec := "fabricOnce", unfollowed := true, recurses := true, named := ["donjon/note.shapes"], apart := false, laid := [("donjon/note.shapes", laid_donjon_note_shapes)], narrowed := true }
def FabricOnceUptoSaid : Prop := fabricOnceUptoRow.holds Tryd.pinned (OpenSpec.upto fabricOnceSpec)

/-- 'donjonlaw05.FabricCopies', WHERE WHAT IT READS IS OF BULK AT MOST 1048576: true; the input reads as it did. -/
def fabricCopiesUptoRow : OpenClaim := { program := "ytfojgijimhcclaadoor", sum := "bb86420af8c401045fed81111ea404464df6b73df440bb52e237ed22e67fe2fd", func := "donjon/donjonlaw05.FabricCopies", spec := "fabricCopies", unfollowed := true, recurses := true, named := ["donjon/note.shapes"], apart := false, laid := [("donjon/note.shapes", laid_donjon_note_shapes)], narrowed := true }
def FabricCopiesUptoSaid : Prop := fabricCopiesUptoRow.holds Tryd.pinned (OpenSpec.upto fabricCopiesSpec)

/-- 'donjonlaw03.NotePrints', WHERE WHAT IT READS IS OF BULK AT MOST 1048576: true; the input reads as it did. -/
def notePrintsUptoRow : OpenClaim := { program := "ytfojgijimhcclaadoor", sum := "bb86420af8c401045fed81111ea404464df6b73df440bb52e237ed22e67fe2fd", func := "donjon/donjonlaw03.NotePrints", spec := "notePrints", inPlace := ["internal/abi.NoEscape", "internal/bytealg.MakeNoZero"], unfollowed := true, recurses := true, named := ["donjon/note.shapes", "internal/strconv.uint64pow10", "math/bits.deBruijn32tab", "math/bits.deBruijn64tab"], apart := false, laid := [("math/bits.deBruijn32tab", laid_math_bits_deBruijn32tab), ("math/bits.deBruijn64tab", laid_math_bits_deBruijn64tab), ("internal/strconv.uint64pow10", laid_internal_strconv_uint64pow10), ("donjon/note.shapes", laid_donjon_note_shapes)], narrowed := true }
def NotePrintsUptoSaid : Prop := notePrintsUptoRow.holds Tryd.pinned (OpenSpec.upto notePrintsSpec)

/-- 'donjonlaw03.NoteMore', WHERE WHAT IT READS IS OF BULK AT MOST 1048576: true; the input reads as it did. -/
def noteMoreUptoRow : OpenClaim := { program := "ytfojgijimhcclaadoor", sum := "bb86420af8c401045fed81111ea404464df6b73df440bb52e237ed22e67fe2fd", func := "donjon/donjonlaw03.NoteMore", spec := "noteMore", inPlace := ["internal/abi.NoEscape", "internal/bytealg.MakeNoZero"], unfollowed := true, recurses := true, named := ["donjon/note.shapes", "internal/strconv.uint64pow10", "math/bits.deBruijn32tab", "math/bits.deBruijn64tab"], apart := false, laid := [("math/bits.deBruijn32tab", laid_math_bits_deBruijn32tab), ("math/bits.deBruijn64tab", laid_math_bits_deBruijn64tab), ("internal/strconv.uint64pow10", laid_internal_strconv_uint64pow10), ("donjon/note.shapes", laid_donjon_note_shapes)], narrowed := true }
def NoteMoreUptoSaid : Prop := noteMoreUptoRow.holds Tryd.pinned (OpenSpec.upto noteMoreSpec)

/-- 'donjonlaw03.NoteChecks', WHERE WHAT IT READS IS OF BULK AT MOST 1048576: true; the input reads as it did. -/
def noteChecksUptoRow : OpenClaim := { program := "ytfojgijimhcclaadoor", sum := "bb86420af8c401045fed81111ea404464df6b73df440bb52e237ed22e67fe2fd", func := "donjon/donjonlaw03.NoteChecks", spec := "noteChecks", inPlace := ["internal/abi.NoEscape", "internal/bytealg.MakeNoZero"], unfollowed := true, recurses := true, named := ["donjon/note.shapes", "internal/strconv.uint64pow10", "math/bits.deBruijn32tab", "math/bits.deBruijn64tab"], apart := false, laid := [("math/bits.deBruijn32tab", laid_math_bits_deBruijn32tab), ("math/bits.deBruijn64tab", laid_math_bits_deBruijn64tab), ("internal/strconv.uint64pow10", laid_internal_strconv_uint64pow10), ("donjon/note.shapes", laid_donjon_note_shapes)], narrowed := true }
def NoteChecksUptoSaid : Prop := noteChecksUptoRow.holds Tryd.pinned (OpenSpec.upto noteChecksSpec)

/-- 'donjonlaw03.NoteOne', WHERE WHAT IT READS IS OF BULK AT MOST 1048576: true; the input reads as it did. -/
def noteOneUptoRow : OpenClaim := { program := "ytfojgijimhcclaadoor", sum := "bb86420af8c401045fed81111ea404464df6b73df440bb52e237ed22e67fe2fd", func := "donjon/donjonlaw03.NoteOne", spec := "noteOne", inPlace := ["internal/abi.NoEscape", "internal/bytealg.MakeNoZero"], unfollowed := true, recurses := true, named := ["donjon/note.shapes", "internal/strconv.uint64pow10", "math/bits.deBruijn32tab", "math/bits.deBruijn64tab"], apart := false, laid := [("math/bits.deBruijn32tab", laid_math_bits_deBruijn32tab), ("math/bits.deBruijn64tab", laid_math_bits_deBruijn64tab), ("internal/strconv.uint64pow10", laid_internal_strconv_uint64pow10), ("donjon/note.shapes", laid_donjon_note_shapes)], narrowed := true }
def NoteOneUptoSaid : Prop := noteOneUptoRow.holds Tryd.pinned (OpenSpec.upto noteOneSpec)

end Rows
end Go.Proofs.YtfojgijimhcclaaDoor
