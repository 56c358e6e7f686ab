/-
  No cell of these rows narrows 'for every input' (looked for: loops, veiled, ifaces, maps, wideKeys, modest, calm, conditions, laid).
  DERIVED. THE GIVEN ROWS OF THIS SEAT. 10 by the template 'for every input the law returns true; each argument reads behind the call as it read before'; 0 by the template 'total and deterministic' (their statements: YtjhjepnmdgljmaaTotals.lean).
  GIVEN WITH THE SEED: the statements are not yours to turn. If you find one false, say at which input.
  Laid BY PROGRAM, IN A SANDBOX (cutbox-rows.mjs): the forced cells as the released guide's own fill.sh prints them over the translation 4b90a299a0a9334f… (all of the seat's roots in one cut). By AI agents, Wed Nov 11 2026. No macro, syntax, notation, axiom, sorry.
-/
import Derived.Test.YtjhjepnmdgljmaaChecked
import GoSem.Claim
import GoSem.ClaimJoined
import GoSem.ClaimMapViews
import Derived.JoinedTies
import Derived.KernelRfl
namespace Go.Proofs.Ytjhjepnmdgljmaa
/- THE CELL 'sum', in the pinned program and in every row, IS THE sha256 OF THE DUMP (.gsa) THAT YtjhjepnmdgljmaaProg.lean LOADS. Nothing in Lean hashes anything: it is a label: what it is worth is what the hold of that sum in a sandbox is worth. -/
noncomputable def Try.pinned : Pinned := { name := "ytjhjepnmdgljmaa", sum := "4b90a299a0a9334f61b485ed548afe352ba83b479c2d0c5d3346b45a9e33cba4", checked := Try.checked }
namespace Rows
def none {H : Type} : Left H := { results := [], args := [] }

/-- 'donjonlaw08.TableBack': WHATEVER THE INPUT: true; the input reads as it did. -/
def tableBackSpec : ChangeSpec := { name := "tableBack", fn := fun _ => fun
  | [d1, d2, d3] => { results := [.lit (.bool true)], args := [d1, d2, d3] }
  | _ => none }
def tableBackRow : OpenClaim := { program := "ytjhjepnmdgljmaa", sum := "4b90a299a0a9334f61b485ed548afe352ba83b479c2d0c5d3346b45a9e33cba4", func := "donjon/donjonlaw08.TableBack", spec := "tableBack", unfollowed := true, recurses := true, apart := false }
def TableBackSaid : Prop := tableBackRow.holds Try.pinned (OpenSpec.ofChange tableBackSpec)

/-- ITS FALSE NEIGHBOUR: 'it returns false'. Refute it at one input. -/
def tableBackWrong : ChangeSpec := { name := "tableBack", fn := fun _ => fun
  | [d1, d2, d3] => { results := [.lit (.bool false)], args := [d1, d2, d3] }
  | _ => none }
def TableBackWrongFalsely : Prop := tableBackRow.holds Try.pinned (OpenSpec.ofChange tableBackWrong)

/-- 'donjonlaw08.TableMay': WHATEVER THE INPUT: true; the input reads as it did. -/
def tableMaySpec : ChangeSpec := { name := "tableMay", fn := fun _ => fun
  | [d1, d2] => { results := [.lit (.bool true)], args := [d1, d2] }
  | _ => none }
def tableMayRow : OpenClaim := { program := "ytjhjepnmdgljmaa", sum := "4b90a299a0a9334f61b485ed548afe352ba83b479c2d0c5d3346b45a9e33cba4", func := "donjon/donjonlaw08.TableMay", spec := "tableMay", unfollowed := true, recurses := true, apart := false }
def TableMaySaid : Prop := tableMayRow.holds Try.pinned (OpenSpec.ofChange tableMaySpec)

/-- ITS FALSE NEIGHBOUR: 'it returns false'. Refute it at one input. -/
def tableMayWrong : ChangeSpec := { name := "tableMay", fn := fun _ => fun
  | [d1, d2] => { results := [.lit (.bool false)], args := [d1, d2] }
  | _ => none }
def TableMayWrongFalsely : Prop := tableMayRow.holds Try.pinned (OpenSpec.ofChange tableMayWrong)

/-- 'donjonlaw08.TableWalks': WHATEVER THE INPUT: true; the input reads as it did. -/
def tableWalksSpec : ChangeSpec := { name := "tableWalks", fn := fun _ => fun
  | [d1, d2] => { results := [.lit (.bool true)], args := [d1, d2] }
  | _ => none }
def tableWalksRow : OpenClaim := { program := "ytjhjepnmdgljmaa", sum := "4b90a299a0a9334f61b485ed548afe352ba83b479c2d0c5d3346b45a9e33cba4", func := "donjon/donjonlaw08.TableWalks", spec := "tableWalks", unfollowed := true, recurses := true, apart := false }
def TableWalksSaid : Prop := tableWalksRow.holds Try.pinned (OpenSpec.ofChange tableWalksSpec)

/-- ITS FALSE NEIGHBOUR: 'it returns false'. Refute it at one input. -/
def tableWalksWrong : ChangeSpec := { name := "tableWalks", fn := fun _ => fun
  | [d1, d2] => { results := [.lit (.bool false)], args := [d1, d2] }
  | _ => none }
def TableWalksWrongFalsely : Prop := tableWalksRow.holds Try.pinned (OpenSpec.ofChange tableWalksWrong)

/-- 'donjonlaw08.TableWords': WHATEVER THE INPUT: true; the input reads as it did. -/
def tableWordsSpec : ChangeSpec := { name := "tableWords", fn := fun _ => fun
  | [d1, d2] => { results := [.lit (.bool true)], args := [d1, d2] }
  | _ => none }
def tableWordsRow : OpenClaim := { program := "ytjhjepnmdgljmaa", sum := "4b90a299a0a9334f61b485ed548afe352ba83b479c2d0c5d3346b45a9e33cba4", func := "donjon/donjonlaw08.TableWords", spec := "tableWords", unfollowed := true, recurses := true, apart := false }
def TableWordsSaid : Prop := tableWordsRow.holds Try.pinned (OpenSpec.ofChange tableWordsSpec)

/-- ITS FALSE NEIGHBOUR: 'it returns false'. Refute it at one input. -/
def tableWordsWrong : ChangeSpec := { name := "tableWords", fn := fun _ => fun
  | [d1, d2] => { results := [.lit (.bool false)], args := [d1, d2] }
  | _ => none }
def TableWordsWrongFalsely : Prop := tableWordsRow.holds Try.pinned (OpenSpec.ofChange tableWordsWrong)

/-- 'donjonlaw08.TableNil': WHATEVER THE INPUT: true; the input reads as it did. -/
def tableNilSpec : ChangeSpec := { name := "tableNil", fn := fun _ => fun
  | [d1, d2] => { results := [.lit (.bool true)], args := [d1, d2] }
  | _ => none }
def tableNilRow : OpenClaim := { program := "ytjhjepnmdgljmaa", sum := "4b90a299a0a9334f61b485ed548afe352ba83b479c2d0c5d3346b45a9e33cba4", func := "donjon/donjonlaw08.TableNil", spec := "tableNil", unfollowed := true, recurses := true, apart := false }
def TableNilSaid : Prop := tableNilRow.holds Try.pinned (OpenSpec.ofChange tableNilSpec)

/-- ITS FALSE NEIGHBOUR: 'it returns false'. Refute it at one input. -/
def tableNilWrong : ChangeSpec := { name := "tableNil", fn := fun _ => fun
  | [d1, d2] => { results := [.lit (.bool false)], args := [d1, d2] }
  | _ => none }
def TableNilWrongFalsely : Prop := tableNilRow.holds Try.pinned (OpenSpec.ofChange tableNilWrong)

/-- 'donjonlaw08.TableApart': WHATEVER THE INPUT: true; the input reads as it did. -/
def tableApartSpec : ChangeSpec := { name := "tableApart", fn := fun _ => fun
  | [d1, d2, d3] => { results := [.lit (.bool true)], args := [d1, d2, d3] }
  | _ => none }
def tableApartRow : OpenClaim := { program := "ytjhjepnmdgljmaa", sum := "4b90a299a0a9334f61b485ed548afe352ba83b479c2d0c5d3346b45a9e33cba4", func := "donjon/donjonlaw08.TableApart", spec := "tableApart", unfollowed := true, recurses := true, apart := false }
def TableApartSaid : Prop := tableApartRow.holds Try.pinned (OpenSpec.ofChange tableApartSpec)

/-- ITS FALSE NEIGHBOUR: 'it returns false'. Refute it at one input. -/
def tableApartWrong : ChangeSpec := { name := "tableApart", fn := fun _ => fun
  | [d1, d2, d3] => { results := [.lit (.bool false)], args := [d1, d2, d3] }
  | _ => none }
def TableApartWrongFalsely : Prop := tableApartRow.holds Try.pinned (OpenSpec.ofChange tableApartWrong)

/-- 'donjonlaw09.CheckerWorlds': WHATEVER THE INPUT: true; the input reads as it did. -/
def checkerWorldsSpec : ChangeSpec := { name := "checkerWorlds", fn := fun _ => fun
  | [d1, d2, d3] => { results := [.lit (.bool true)], args := [d1, d2, d3] }
  | _ => none }
def checkerWorldsRow : OpenClaim := { program := "ytjhjepnmdgljmaa", sum := "4b90a299a0a9334f61b485ed548afe352ba83b479c2d0c5d3346b45a9e33cba4", func := "donjon/donjonlaw09.CheckerWorlds", spec := "checkerWorlds", unfollowed := true, recurses := true, apart := false }
def CheckerWorldsSaid : Prop := checkerWorldsRow.holds Try.pinned (OpenSpec.ofChange checkerWorldsSpec)

/-- ITS FALSE NEIGHBOUR: 'it returns false'. Refute it at one input. -/
def checkerWorldsWrong : ChangeSpec := { name := "checkerWorlds", fn := fun _ => fun
  | [d1, d2, d3] => { results := [.lit (.bool false)], args := [d1, d2, d3] }
  | _ => none }
def CheckerWorldsWrongFalsely : Prop := checkerWorldsRow.holds Try.pinned (OpenSpec.ofChange checkerWorldsWrong)

/-- 'donjonlaw09.CheckerNil': WHATEVER THE INPUT: true; the input reads as it did. -/
def checkerNilSpec : ChangeSpec := { name := "checkerNil", fn := fun _ => fun
  | [d] => { results := [.lit (.bool true)], args := [d] }
  | _ => none }
def checkerNilRow : OpenClaim := { program := "ytjhjepnmdgljmaa", sum := "4b90a299a0a9334f61b485ed548afe352ba83b479c2d0c5d3346b45a9e33cba4", func := "donjon/donjonlaw09.CheckerNil", spec := "checkerNil", unfollowed := true, recurses := true, apart := false }
def CheckerNilSaid : Prop := checkerNilRow.holds Try.pinned (OpenSpec.ofChange checkerNilSpec)

/-- ITS FALSE NEIGHBOUR: 'it returns false'. Refute it at one input. -/
def checkerNilWrong : ChangeSpec := { name := "checkerNil", fn := fun _ => fun
  | [d] => { results := [.lit (.bool false)], args := [d] }
  | _ => none }
def CheckerNilWrongFalsely : Prop := checkerNilRow.holds Try.pinned (OpenSpec.ofChange checkerNilWrong)

/-- 'donjonlaw09.CheckerLearns': WHATEVER THE INPUT: true; the input reads as it did. -/
def checkerLearnsSpec : ChangeSpec := { name := "checkerLearns", fn := fun _ => fun
  | [d1, d2, d3] => { results := [.lit (.bool true)], args := [d1, d2, d3] }
  | _ => none }
def checkerLearnsRow : OpenClaim := { program := "ytjhjepnmdgljmaa", sum := "4b90a299a0a9334f61b485ed548afe352ba83b479c2d0c5d3346b45a9e33cba4", func := "donjon/donjonlaw09.CheckerLearns", spec := "checkerLearns", unfollowed := true, recurses := true, apart := false }
def CheckerLearnsSaid : Prop := checkerLearnsRow.holds Try.pinned (OpenSpec.ofChange checkerLearnsSpec)

/-- ITS FALSE NEIGHBOUR: 'it returns false'. Refute it at one input. -/
def checkerLearnsWrong : ChangeSpec := { name := "checkerLearns", fn := fun _ => fun
  | [d1, d2, d3] => { results := [.lit (.bool false)], args := [d1, d2, d3] }
  | _ => none }
def CheckerLearnsWrongFalsely : Prop := checkerLearnsRow.holds Try.pinned (OpenSpec.ofChange checkerLearnsWrong)

/-- 'donjonlaw09.CheckerFresh': WHATEVER THE INPUT: true; the input reads as it did. -/
def checkerFreshSpec : ChangeSpec := { name := "checkerFresh", fn := fun _ => fun
  | [d1, d2] => { results := [.lit (.bool true)], args := [d1, d2] }
  | _ => none }
def checkerFreshRow : OpenClaim := { program := "ytjhjepnmdgljmaa", sum := "4b90a299a0a9334f61b485ed548afe352ba83b479c2d0c5d3346b45a9e33cba4", func := "donjon/donjonlaw09.CheckerFresh", spec := "checkerFresh", unfollowed := true, recurses := true, apart := false }
def CheckerFreshSaid : Prop := checkerFreshRow.holds Try.pinned (OpenSpec.ofChange checkerFreshSpec)

/-- ITS FALSE NEIGHBOUR: 'it returns false'. Refute it at one input. -/
def checkerFreshWrong : ChangeSpec := { name := "checkerFresh", fn := fun _ => fun
  | [d1, d2] => { results := [.lit (.bool false)], args := [d1, d2] }
  | _ => none }
def CheckerFreshWrongFalsely : Prop := checkerFreshRow.holds Try.pinned (OpenSpec.ofChange checkerFreshWrong)

/- THE SECOND FORM. 'bulk': how many values and letters a reading holds, each counted each time it is reached (what is shared counts as often as it is met; a slice's spare places count too). A statement '..UptoSaid' is the law's where the arguments, and the package variables that the reading takes, are together of bulk at most 1048576: NARROWER than '..Said'. Prove '..Said' where nothing that the law and all that it calls make is longer than what came in: it says more and counts as full. Else prove '..UptoSaid'. A law counts once. -/
mutual
def uptoBulk {H : Type} : DataW H → Nat
  | .lit (.string bytes) => bytes.length + 1
  | .lit _ => 1
  | .nil => 1
  | .ptr d => uptoBulk d + 1
  | .slice elems spare => uptoBulkAll elems + uptoBulkAll spare + 1
  | .agg parts => uptoBulkAll parts + 1
  | .iface _ d => uptoBulk d + 1
  | .map entries => uptoBulkEntries entries + 1
  | .held _ => 1
def uptoBulkAll {H : Type} : List (DataW H) → Nat
  | [] => 0
  | d :: r => uptoBulk d + uptoBulkAll r
def uptoBulkEntries {H : Type} : List (Lit × DataW H) → Nat
  | [] => 0
  | x :: r => uptoBulkEntry x + uptoBulkEntries r
def uptoBulkEntry {H : Type} : Lit × DataW H → Nat
  | (.string bytes, d) => bytes.length + uptoBulk d + 1
  | (_, d) => uptoBulk d + 1
 end
def uptoSmall : (H : Type) → List (DataW H) → Bool := fun _ ds => decide (uptoBulkAll ds ≤ 1048576)
def OpenSpec.upto (s : _root_.Go.ChangeSpec) : _root_.Go.OpenSpec := { _root_.Go.OpenSpec.ofChange s with cond := some uptoSmall }

/-- 'donjonlaw08.TableBack', WHERE WHAT IT READS IS OF BULK AT MOST 1048576: true; the input reads as it did. -/
def tableBackUptoRow : OpenClaim := { program := "ytjhjepnmdgljmaa", sum := "4b90a299a0a9334f61b485ed548afe352ba83b479c2d0c5d3346b45a9e33cba4", func := "donjon/donjonlaw08.TableBack", spec := "tableBack", unfollowed := true, recurses := true, apart := false, narrowed := true }
def TableBackUptoSaid : Prop := tableBackUptoRow.holds Try.pinned (OpenSpec.upto tableBackSpec)

/-- 'donjonlaw08.TableMay', WHERE WHAT IT READS IS OF BULK AT MOST 1048576: true; the input reads as it did. -/
def tableMayUptoRow : OpenClaim := { program := "ytjhjepnmdgljmaa", sum := "4b90a299a0a9334f61b485ed548afe352ba83b479c2d0c5d3346b45a9e33cba4", func := "donjon/donjonlaw08.TableMay", spec := "tableMay", unfollowed := true, recurses := true, apart := false, narrowed := true }
def TableMayUptoSaid : Prop := tableMayUptoRow.holds Try.pinned (OpenSpec.upto tableMaySpec)

/-- 'donjonlaw08.TableWalks', WHERE WHAT IT READS IS OF BULK AT MOST 1048576: true; the input reads as it did. -/
def tableWalksUptoRow : OpenClaim := { program := "ytjhjepnmdgljmaa", sum := "4b90a299a0a9334f61b485ed548afe352ba83b479c2d0c5d3346b45a9e33cba4", func := "donjon/donjonlaw08.TableWalks", spec := "tableWalks", unfollowed := true, recurses := true, apart := false, narrowed := true }
def TableWalksUptoSaid : Prop := tableWalksUptoRow.holds Try.pinned (OpenSpec.upto tableWalksSpec)

/-- 'donjonlaw08.TableWords', WHERE WHAT IT READS IS OF BULK AT MOST 1048576: true; the input reads as it did. -/
def tableWordsUptoRow : OpenClaim := { program := "ytjhjepnmdgljmaa", sum := "4b90a299a0a9334f61b485ed548afe352ba83b479c2d0c5d3346b45a9e33cba4", func := "donjon/donjonlaw08.TableWords", spec := "tableWords", unfollowed := true, recurses := true, apart := false, narrowed := true }
def TableWordsUptoSaid : Prop := tableWordsUptoRow.holds Try.pinned (OpenSpec.upto tableWordsSpec)

/-- 'donjonlaw08.TableNil', WHERE WHAT IT READS IS OF BULK AT MOST 1048576: true; the input reads as it did. -/
def tableNilUptoRow : OpenClaim := { program := "ytjhjepnmdgljmaa", sum := "4b90a299a0a9334f61b485ed548afe352ba83b479c2d0c5d3346b45a9e33cba4", func := "donjon/donjonlaw08.TableNil", spec := "tableNil", unfollowed := true, recurses := true, apart := false, narrowed := true }
def TableNilUptoSaid : Prop := tableNilUptoRow.holds Try.pinned (OpenSpec.upto tableNilSpec)

/-- 'donjonlaw08.TableApart', WHERE WHAT IT READS IS OF BULK AT MOST 1048576: true; the input reads as it did. -/
def tableApartUptoRow : OpenClaim := { program := "ytjhjepnmdgljmaa", sum := "4b90a299a0a9334f61b485ed548afe352ba83b479c2d0c5d3346b45a9e33cba4", func := "donjon/donjonlaw08.TableApart", spec := "tableApart", unfollowed := true, recurses := true, apart := false, narrowed := true }
def TableApartUptoSaid : Prop := tableApartUptoRow.holds Try.pinned (OpenSpec.upto tableApartSpec)

/-- 'donjonlaw09.CheckerWorlds', WHERE WHAT IT READS IS OF BULK AT MOST 1048576: true; the input reads as it did. -/
def checkerWorldsUptoRow : OpenClaim := { program := "ytjhjepnmdgljmaa", sum := "4b90a299a0a9334f61b485ed548afe352ba83b479c2d0c5d3346b45a9e33cba4", func := "donjon/donjonlaw09.CheckerWorlds", spec := "checkerWorlds", unfollowed := true, recurses := true, apart := false, narrowed := true }
def CheckerWorldsUptoSaid : Prop := checkerWorldsUptoRow.holds Try.pinned (OpenSpec.upto checkerWorldsSpec)

/-- 'donjonlaw09.CheckerNil', WHERE WHAT IT READS IS OF BULK AT MOST 1048576: true; the input reads as it did. -/
def checkerNilUptoRow : OpenClaim := { program := "ytjhjepnmdgljmaa", sum := "4b90a299a0a9334f61b485ed548afe352ba83b479c2d0c5d3346b45a9e33cba4", func := "donjon/donjonlaw09.CheckerNil", spec := "checkerNil", unfollowed := true, recurses := true, apart := false, narrowed := true }
def CheckerNilUptoSaid : Prop := checkerNilUptoRow.holds Try.pinned (OpenSpec.upto checkerNilSpec)

/-- 'donjonlaw09.CheckerLearns', WHERE WHAT IT READS IS OF BULK AT MOST 1048576: true; the input reads as it did. -/
def checkerLearnsUptoRow : OpenClaim := { program := "ytjhjepnmdgljmaa", sum := "4b90a299a0a9334f61b485ed548afe352ba83b479c2d0c5d3346b45a9e33cba4", func := "donjon/donjonlaw09.CheckerLearns", spec := "checkerLearns", unfollowed := true, recurses := true, apart := false, narrowed := true }
def CheckerLearnsUptoSaid : Prop := checkerLearnsUptoRow.holds Try.pinned (OpenSpec.upto checkerLearnsSpec)

/-- 'donjonlaw09.CheckerFresh', WHERE WHAT IT READS IS OF BULK AT MOST 1048576: true; the input reads as it did. -/
def checkerFreshUptoRow : OpenClaim := { program := "ytjhjepnmdgljmaa", sum := "4b90a299a0a9334f61b485ed548afe352ba83b479c2d0c5d3346b45a9e33cba4", func := "donjon/donjonlaw09.CheckerFresh", spec := "checkerFresh", unfollowed := true, recurses := true, apart := false, narrowed := true }
def CheckerFreshUptoSaid : Prop := checkerFreshUptoRow.holds Try.pinned (OpenSpec.upto checkerFreshSpec)

end Rows
end Go.Proofs.Ytjhjepnmdgljmaa
