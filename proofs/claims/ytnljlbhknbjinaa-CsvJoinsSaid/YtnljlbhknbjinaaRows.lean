/-
  No cell of these rows narrows 'for every input' (looked for: loops, veiled, ifaces, maps, wideKeys, modest, calm, conditions, laid).
  DERIVED. THE GIVEN ROWS OF THIS SEAT. 6 by the template 'for every input the law returns true; each argument reads behind the call as it read before'; 0 by the template 'total and deterministic' (their statements: YtnljlbhknbjinaaTotals.lean).
  GIVEN WITH THE SEED: the statements are not yours to turn. If you find one false, say at which input.
  Laid BY PROGRAM, IN A SANDBOX (cutbox-rows.mjs): the forced cells as the released guide's own fill.sh prints them over the translation 7b4bead28626c4ce… (all of the seat's roots in one cut). By AI agents, Wed Nov 11 2026. No macro, syntax, notation, axiom, sorry.
-/
import Derived.Test.YtnljlbhknbjinaaChecked
import GoSem.Claim
import GoSem.ClaimJoined
import GoSem.ClaimMapViews
import Derived.JoinedTies
import Derived.KernelRfl
namespace Go.Proofs.Ytnljlbhknbjinaa
/- THE CELL 'sum', in the pinned program and in every row, IS THE sha256 OF THE DUMP (.gsa) THAT YtnljlbhknbjinaaProg.lean LOADS. Nothing in Lean hashes anything: it is a label: what it is worth is what the hold of that sum in a sandbox is worth. -/
noncomputable def Try.pinned : Pinned := { name := "ytnljlbhknbjinaa", sum := "7b4bead28626c4cee0512c971a122c69c2046d313bef03fe32c51f133f12bb6d", checked := Try.checked }
namespace Rows
def none {H : Type} : Left H := { results := [], args := [] }

/-- 'douanelaw09.CsvParses': WHATEVER THE INPUT: true; the input reads as it did. -/
def csvParsesSpec : ChangeSpec := { name := "csvParses", fn := fun _ => fun
  | [d] => { results := [.lit (.bool true)], args := [d] }
  | _ => none }
def csvParsesRow : OpenClaim := { program := "ytnljlbhknbjinaa", sum := "7b4bead28626c4cee0512c971a122c69c2046d313bef03fe32c51f133f12bb6d", func := "douane/douanelaw09.CsvParses", spec := "csvParses", inPlace := ["internal/abi.NoEscape", "internal/bytealg.IndexByteString", "internal/bytealg.IndexString"], unfollowed := true, recurses := true, named := ["internal/bytealg.MaxLen"], apart := false }
def CsvParsesSaid : Prop := csvParsesRow.holds Try.pinned (OpenSpec.ofChange csvParsesSpec)

/-- ITS FALSE NEIGHBOUR: 'it returns false'. Refute it at one input. -/
def csvParsesWrong : ChangeSpec := { name := "csvParses", fn := fun _ => fun
  | [d] => { results := [.lit (.bool false)], args := [d] }
  | _ => none }
def CsvParsesWrongFalsely : Prop := csvParsesRow.holds Try.pinned (OpenSpec.ofChange csvParsesWrong)

/-- 'douanelaw09.CsvPrints': WHATEVER THE INPUT: true; the input reads as it did. -/
def csvPrintsSpec : ChangeSpec := { name := "csvPrints", fn := fun _ => fun
  | [d1, d2] => { results := [.lit (.bool true)], args := [d1, d2] }
  | _ => none }
def csvPrintsRow : OpenClaim := { program := "ytnljlbhknbjinaa", sum := "7b4bead28626c4cee0512c971a122c69c2046d313bef03fe32c51f133f12bb6d", func := "douane/douanelaw09.CsvPrints", spec := "csvPrints", inPlace := ["internal/abi.NoEscape", "internal/bytealg.IndexByteString", "internal/bytealg.IndexString"], unfollowed := true, recurses := true, named := ["internal/bytealg.MaxLen"], apart := false }
def CsvPrintsSaid : Prop := csvPrintsRow.holds Try.pinned (OpenSpec.ofChange csvPrintsSpec)

/-- ITS FALSE NEIGHBOUR: 'it returns false'. Refute it at one input. -/
def csvPrintsWrong : ChangeSpec := { name := "csvPrints", fn := fun _ => fun
  | [d1, d2] => { results := [.lit (.bool false)], args := [d1, d2] }
  | _ => none }
def CsvPrintsWrongFalsely : Prop := csvPrintsRow.holds Try.pinned (OpenSpec.ofChange csvPrintsWrong)

/-- 'douanelaw09.CsvBack': WHATEVER THE INPUT: true; the input reads as it did. -/
def csvBackSpec : ChangeSpec := { name := "csvBack", fn := fun _ => fun
  | [d1, d2] => { results := [.lit (.bool true)], args := [d1, d2] }
  | _ => none }
def csvBackRow : OpenClaim := { program := "ytnljlbhknbjinaa", sum := "7b4bead28626c4cee0512c971a122c69c2046d313bef03fe32c51f133f12bb6d", func := "douane/douanelaw09.CsvBack", spec := "csvBack", inPlace := ["internal/abi.NoEscape", "internal/bytealg.IndexByteString", "internal/bytealg.IndexString"], unfollowed := true, recurses := true, named := ["internal/bytealg.MaxLen"], apart := false }
def CsvBackSaid : Prop := csvBackRow.holds Try.pinned (OpenSpec.ofChange csvBackSpec)

/-- ITS FALSE NEIGHBOUR: 'it returns false'. Refute it at one input. -/
def csvBackWrong : ChangeSpec := { name := "csvBack", fn := fun _ => fun
  | [d1, d2] => { results := [.lit (.bool false)], args := [d1, d2] }
  | _ => none }
def CsvBackWrongFalsely : Prop := csvBackRow.holds Try.pinned (OpenSpec.ofChange csvBackWrong)

/-- 'douanelaw09.CsvJoins': WHATEVER THE INPUT: true; the input reads as it did. -/
def csvJoinsSpec : ChangeSpec := { name := "csvJoins", fn := fun _ => fun
  | [d1, d2] => { results := [.lit (.bool true)], args := [d1, d2] }
  | _ => none }
def csvJoinsRow : OpenClaim := { program := "ytnljlbhknbjinaa", sum := "7b4bead28626c4cee0512c971a122c69c2046d313bef03fe32c51f133f12bb6d", func := "douane/douanelaw09.CsvJoins", spec := "csvJoins", inPlace := ["internal/abi.NoEscape", "internal/bytealg.IndexByteString", "internal/bytealg.IndexString"], unfollowed := true, recurses := true, named := ["internal/bytealg.MaxLen"], apart := false }
def CsvJoinsSaid : Prop := csvJoinsRow.holds Try.pinned (OpenSpec.ofChange csvJoinsSpec)

/-- ITS FALSE NEIGHBOUR: 'it returns false'. Refute it at one input. -/
def csvJoinsWrong : ChangeSpec := { name := "csvJoins", fn := fun _ => fun
  | [d1, d2] => { results := [.lit (.bool false)], args := [d1, d2] }
  | _ => none }
def CsvJoinsWrongFalsely : Prop := csvJoinsRow.holds Try.pinned (OpenSpec.ofChange csvJoinsWrong)

/-- 'douanelaw09.CsvFields': WHATEVER THE INPUT: true; the input reads as it did. -/
def csvFieldsSpec : ChangeSpec := { name := "csvFields", fn := fun _ => fun
  | [d1, d2] => { results := [.lit (.bool true)], args := [d1, d2] }
  | _ => none }
def csvFieldsRow : OpenClaim := { program := "ytnljlbhknbjinaa", sum := "7b4bead28626c4cee0512c971a122c69c2046d313bef03fe32c51f133f12bb6d", func := "douane/douanelaw09.CsvFields", spec := "csvFields", inPlace := ["internal/abi.NoEscape", "internal/bytealg.IndexByteString", "internal/bytealg.IndexString"], unfollowed := true, recurses := true, named := ["internal/bytealg.MaxLen"], apart := false }
def CsvFieldsSaid : Prop := csvFieldsRow.holds Try.pinned (OpenSpec.ofChange csvFieldsSpec)

/-- ITS FALSE NEIGHBOUR: 'it returns false'. Refute it at one input. -/
def csvFieldsWrong : ChangeSpec := { name := "csvFields", fn := fun _ => fun
  | [d1, d2] => { results := [.lit (.bool false)], args := [d1, d2] }
  | _ => none }
def CsvFieldsWrongFalsely : Prop := csvFieldsRow.holds Try.pinned (OpenSpec.ofChange csvFieldsWrong)

/-- 'douanelaw09.CsvRows': WHATEVER THE INPUT: true; the input reads as it did. -/
def csvRowsSpec : ChangeSpec := { name := "csvRows", fn := fun _ => fun
  | [d] => { results := [.lit (.bool true)], args := [d] }
  | _ => none }
def csvRowsRow : OpenClaim := { program := "ytnljlbhknbjinaa", sum := "7b4bead28626c4cee0512c971a122c69c2046d313bef03fe32c51f133f12bb6d", func := "douane/douanelaw09.CsvRows", spec := "csvRows", inPlace := ["internal/abi.NoEscape", "internal/bytealg.IndexByteString", "internal/bytealg.IndexString"], unfollowed := true, recurses := true, named := ["internal/bytealg.MaxLen"], apart := false }
def CsvRowsSaid : Prop := csvRowsRow.holds Try.pinned (OpenSpec.ofChange csvRowsSpec)

/-- ITS FALSE NEIGHBOUR: 'it returns false'. Refute it at one input. -/
def csvRowsWrong : ChangeSpec := { name := "csvRows", fn := fun _ => fun
  | [d] => { results := [.lit (.bool false)], args := [d] }
  | _ => none }
def CsvRowsWrongFalsely : Prop := csvRowsRow.holds Try.pinned (OpenSpec.ofChange csvRowsWrong)

/- THE SECOND FORM. 'bulk': how many values and letters a reading holds, each counted each time it is reached (what is shared counts as often as it is met; a slice's spare places count too). A statement '..UptoSaid' is the law's where the arguments, and the package variables that the reading takes, are together of bulk at most 1048576: NARROWER than '..Said'. Prove '..Said' where nothing that the law and all that it calls make is longer than what came in: it says more and counts as full. Else prove '..UptoSaid'. A law counts once. -/
mutual
def uptoBulk {H : Type} : DataW H → Nat
  | .lit (.string bytes) => bytes.length + 1
  | .lit _ => 1
  | .nil => 1
  | .ptr d => uptoBulk d + 1
  | .slice elems spare => uptoBulkAll elems + uptoBulkAll spare + 1
  | .agg parts => uptoBulkAll parts + 1
  | .iface _ d => uptoBulk d + 1
  | .map entries => uptoBulkEntries entries + 1
  | .held _ => 1
def uptoBulkAll {H : Type} : List (DataW H) → Nat
  | [] => 0
  | d :: r => uptoBulk d + uptoBulkAll r
def uptoBulkEntries {H : Type} : List (Lit × DataW H) → Nat
  | [] => 0
  | x :: r => uptoBulkEntry x + uptoBulkEntries r
def uptoBulkEntry {H : Type} : Lit × DataW H → Nat
  | (.string bytes, d) => bytes.length + uptoBulk d + 1
  | (_, d) => uptoBulk d + 1
 end
def uptoSmall : (H : Type) → List (DataW H) → Bool := fun _ ds => decide (uptoBulkAll ds ≤ 1048576)
def OpenSpec.upto (s : _root_.Go.ChangeSpec) : _root_.Go.OpenSpec := { _root_.Go.OpenSpec.ofChange s with cond := some uptoSmall }

/-- 'douanelaw09.CsvParses', WHERE WHAT IT READS IS OF BULK AT MOST 1048576: true; the input reads as it did. -/
def csvParsesUptoRow : OpenClaim := { program := "ytnljlbhknbjinaa", sum := "7b4bead28626c4cee0512c971a122c69c2046d313bef03fe32c51f133f12bb6d", func := "douane/douanelaw09.CsvParses", spec := "csvParses", inPlace := ["internal/abi.NoEscape", "internal/bytealg.IndexByteString", "internal/bytealg.IndexString"], unfollowed := true, recurses := true, named := ["internal/bytealg.MaxLen"], apart := false, narrowed := true }
def CsvParsesUptoSaid : Prop := csvParsesUptoRow.holds Try.pinned (OpenSpec.upto csvParsesSpec)

/-- 'douanelaw09.CsvPrints', WHERE WHAT IT READS IS OF BULK AT MOST 1048576: true; the input reads as it did. -/
def csvPrintsUptoRow : OpenClaim := { program := "ytnljlbhknbjinaa", sum := "7b4bead28626c4cee0512c971a122c69c2046d313bef03fe32c51f133f12bb6d", func := "douane/douanelaw09.CsvPrints", spec := "csvPrints", inPlace := ["internal/abi.NoEscape", "internal/bytealg.IndexByteString", "internal/bytealg.IndexString"], unfollowed := true, recurses := true, named := ["internal/bytealg.MaxLen"], apart := false, narrowed := true }
def CsvPrintsUptoSaid : Prop := csvPrintsUptoRow.holds Try.pinned (OpenSpec.upto csvPrintsSpec)

/-- 'douanelaw09.CsvBack', WHERE WHAT IT READS IS OF BULK AT MOST 1048576: true; the input reads as it did. -/
def csvBackUptoRow : OpenClaim := { program := "ytnljlbhknbjinaa", sum := "7b4bead28626c4cee0512c971a122c69c2046d313bef03fe32c51f133f12bb6d", func := "douane/douanelaw09.CsvBack", spec := "csvBack", inPlace := ["internal/abi.NoEscape", "internal/bytealg.IndexByteString", "internal/bytealg.IndexString"], unfollowed := true, recurses := true, named := ["internal/bytealg.MaxLen"], apart := false, narrowed := true }
def CsvBackUptoSaid : Prop := csvBackUptoRow.holds Try.pinned (OpenSpec.upto csvBackSpec)

/-- 'douanelaw09.CsvJoins', WHERE WHAT IT READS IS OF BULK AT MOST 1048576: true; the input reads as it did. -/
def csvJoinsUptoRow : OpenClaim := { program := "ytnljlbhknbjinaa", sum := "7b4bead28626c4cee0512c971a122c69c2046d313bef03fe32c51f133f12bb6d", func := "douane/douanelaw09.CsvJoins", spec := "csvJoins", inPlace := ["internal/abi.NoEscape", "internal/bytealg.IndexByteString", "internal/bytealg.IndexString"], unfollowed := true, recurses := true, named := ["internal/bytealg.MaxLen"], apart := false, narrowed := true }
def CsvJoinsUptoSaid : Prop := csvJoinsUptoRow.holds Try.pinned (OpenSpec.upto csvJoinsSpec)

/-- 'douanelaw09.CsvFields', WHERE WHAT IT READS IS OF BULK AT MOST 1048576: true; the input reads as it did. -/
def csvFieldsUptoRow : OpenClaim := { program := "ytnljlbhknbjinaa", sum := "7b4bead28626c4cee0512c971a122c69c2046d313bef03fe32c51f133f12bb6d", func := "douane/douanelaw09.CsvFields", spec := "csvFields", inPlace := ["internal/abi.NoEscape", "internal/bytealg.IndexByteString", "internal/bytealg.IndexString"], unfollowed := true, recurses := true, named := ["internal/bytealg.MaxLen"], apart := false, narrowed := true }
def CsvFieldsUptoSaid : Prop := csvFieldsUptoRow.holds Try.pinned (OpenSpec.upto csvFieldsSpec)

/-- 'douanelaw09.CsvRows', WHERE WHAT IT READS IS OF BULK AT MOST 1048576: true; the input reads as it did. -/
def csvRowsUptoRow : OpenClaim := { program := "ytnljlbhknbjinaa", sum := "7b4bead28626c4cee0512c971a122c69c2046d313bef03fe32c51f133f12bb6d", func := "douane/douanelaw09.CsvRows", spec := "csvRows", inPlace := ["internal/abi.NoEscape", "internal/bytealg.IndexByteString", "internal/bytealg.IndexString"], unfollowed := true, recurses := true, named := ["internal/bytealg.MaxLen"], apart := false, narrowed := true }
def CsvRowsUptoSaid : Prop := csvRowsUptoRow.holds Try.pinned (OpenSpec.upto csvRowsSpec)

end Rows
end Go.Proofs.Ytnljlbhknbjinaa
