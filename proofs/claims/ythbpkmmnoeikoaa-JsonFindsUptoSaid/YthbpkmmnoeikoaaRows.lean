/-
  NARROWER THAN 'FOR EVERY INPUT', by the rows' own cells (each row's printed sentence says how): JsonFinds: loops.
  DERIVED. THE GIVEN ROWS OF THIS SEAT. 12 by the template 'for every input the law returns true; each argument reads behind the call as it read before'; 0 by the template 'total and deterministic' (their statements: YthbpkmmnoeikoaaTotals.lean).
  GIVEN WITH THE SEED: the statements are not yours to turn. If you find one false, say at which input.
  Laid BY PROGRAM, IN A SANDBOX (cutbox-rows.mjs): the forced cells as the released guide's own fill.sh prints them over the translation eacc17b40be818a9… (all of the seat's roots in one cut). By AI agents, Wed Nov 11 2026. No macro, syntax, notation, axiom, sorry.
-/
import Derived.Test.YthbpkmmnoeikoaaChecked
import GoSem.Claim
import GoSem.ClaimJoined
import GoSem.ClaimMapViews
import Derived.JoinedTies
import Derived.KernelRfl
namespace Go.Proofs.Ythbpkmmnoeikoaa
/- THE CELL 'sum', in the pinned program and in every row, IS THE sha256 OF THE DUMP (.gsa) THAT YthbpkmmnoeikoaaProg.lean LOADS. Nothing in Lean hashes anything: it is a label: what it is worth is what the hold of that sum in a sandbox is worth. -/
noncomputable def Try.pinned : Pinned := { name := "ythbpkmmnoeikoaa", sum := "eacc17b40be818a923872d7e874ca7498b3b0e3e42ae5f79d3e560f0dc2158a7", checked := Try.checked }
namespace Rows
def none {H : Type} : Left H := { results := [], args := [] }

/-- 'douanelaw02.NumPrints': WHATEVER THE INPUT: true; the input reads as it did. -/
def numPrintsSpec : ChangeSpec := { name := "numPrints", fn := fun _ => fun
  | [d1, d2] => { results := [.lit (.bool true)], args := [d1, d2] }
  | _ => none }
def numPrintsRow : OpenClaim := { program := "ythbpkmmnoeikoaa", sum := "eacc17b40be818a923872d7e874ca7498b3b0e3e42ae5f79d3e560f0dc2158a7", func := "douane/douanelaw02.NumPrints", spec := "numPrints", unfollowed := true, recurses := true, apart := false }
def NumPrintsSaid : Prop := numPrintsRow.holds Try.pinned (OpenSpec.ofChange numPrintsSpec)

/-- ITS FALSE NEIGHBOUR: 'it returns false'. Refute it at one input. -/
def numPrintsWrong : ChangeSpec := { name := "numPrints", fn := fun _ => fun
  | [d1, d2] => { results := [.lit (.bool false)], args := [d1, d2] }
  | _ => none }
def NumPrintsWrongFalsely : Prop := numPrintsRow.holds Try.pinned (OpenSpec.ofChange numPrintsWrong)

/-- 'douanelaw02.NumParses': WHATEVER THE INPUT: true; the input reads as it did. -/
def numParsesSpec : ChangeSpec := { name := "numParses", fn := fun _ => fun
  | [d1, d2] => { results := [.lit (.bool true)], args := [d1, d2] }
  | _ => none }
def numParsesRow : OpenClaim := { program := "ythbpkmmnoeikoaa", sum := "eacc17b40be818a923872d7e874ca7498b3b0e3e42ae5f79d3e560f0dc2158a7", func := "douane/douanelaw02.NumParses", spec := "numParses", unfollowed := true, recurses := true, apart := false }
def NumParsesSaid : Prop := numParsesRow.holds Try.pinned (OpenSpec.ofChange numParsesSpec)

/-- ITS FALSE NEIGHBOUR: 'it returns false'. Refute it at one input. -/
def numParsesWrong : ChangeSpec := { name := "numParses", fn := fun _ => fun
  | [d1, d2] => { results := [.lit (.bool false)], args := [d1, d2] }
  | _ => none }
def NumParsesWrongFalsely : Prop := numParsesRow.holds Try.pinned (OpenSpec.ofChange numParsesWrong)

/-- 'douanelaw02.NumBack': WHATEVER THE INPUT: true; the input reads as it did. -/
def numBackSpec : ChangeSpec := { name := "numBack", fn := fun _ => fun
  | [d1, d2] => { results := [.lit (.bool true)], args := [d1, d2] }
  | _ => none }
def numBackRow : OpenClaim := { program := "ythbpkmmnoeikoaa", sum := "eacc17b40be818a923872d7e874ca7498b3b0e3e42ae5f79d3e560f0dc2158a7", func := "douane/douanelaw02.NumBack", spec := "numBack", unfollowed := true, recurses := true, apart := false }
def NumBackSaid : Prop := numBackRow.holds Try.pinned (OpenSpec.ofChange numBackSpec)

/-- ITS FALSE NEIGHBOUR: 'it returns false'. Refute it at one input. -/
def numBackWrong : ChangeSpec := { name := "numBack", fn := fun _ => fun
  | [d1, d2] => { results := [.lit (.bool false)], args := [d1, d2] }
  | _ => none }
def NumBackWrongFalsely : Prop := numBackRow.holds Try.pinned (OpenSpec.ofChange numBackWrong)

/-- 'douanelaw02.NumAdds': WHATEVER THE INPUT: true; the input reads as it did. -/
def numAddsSpec : ChangeSpec := { name := "numAdds", fn := fun _ => fun
  | [d1, d2] => { results := [.lit (.bool true)], args := [d1, d2] }
  | _ => none }
def numAddsRow : OpenClaim := { program := "ythbpkmmnoeikoaa", sum := "eacc17b40be818a923872d7e874ca7498b3b0e3e42ae5f79d3e560f0dc2158a7", func := "douane/douanelaw02.NumAdds", spec := "numAdds", unfollowed := true, recurses := true, apart := false }
def NumAddsSaid : Prop := numAddsRow.holds Try.pinned (OpenSpec.ofChange numAddsSpec)

/-- ITS FALSE NEIGHBOUR: 'it returns false'. Refute it at one input. -/
def numAddsWrong : ChangeSpec := { name := "numAdds", fn := fun _ => fun
  | [d1, d2] => { results := [.lit (.bool false)], args := [d1, d2] }
  | _ => none }
def NumAddsWrongFalsely : Prop := numAddsRow.holds Try.pinned (OpenSpec.ofChange numAddsWrong)

/-- 'douanelaw08.JsonParses': WHATEVER THE INPUT: true; the input reads as it did. -/
def jsonParsesSpec : ChangeSpec := { name := "jsonParses", fn := fun _ => fun
  | [d1, d2] => { results := [.lit (.bool true)], args := [d1, d2] }
  | _ => none }
def jsonParsesRow : OpenClaim := { program := "ythbpkmmnoeikoaa", sum := "eacc17b40be818a923872d7e874ca7498b3b0e3e42ae5f79d3e560f0dc2158a7", func := "douane/douanelaw08.JsonParses", spec := "jsonParses", inPlace := ["internal/bytealg.IndexByteString", "internal/abi.NoEscape"], unfollowed := true, recurses := true, apart := false }
def JsonParsesSaid : Prop := jsonParsesRow.holds Try.pinned (OpenSpec.ofChange jsonParsesSpec)

/-- ITS FALSE NEIGHBOUR: 'it returns false'. Refute it at one input. -/
def jsonParsesWrong : ChangeSpec := { name := "jsonParses", fn := fun _ => fun
  | [d1, d2] => { results := [.lit (.bool false)], args := [d1, d2] }
  | _ => none }
def JsonParsesWrongFalsely : Prop := jsonParsesRow.holds Try.pinned (OpenSpec.ofChange jsonParsesWrong)

/-- 'douanelaw02.NumOrder': WHATEVER THE INPUT: true; the input reads as it did. -/
def numOrderSpec : ChangeSpec := { name := "numOrder", fn := fun _ => fun
  | [d1, d2] => { results := [.lit (.bool true)], args := [d1, d2] }
  | _ => none }
def numOrderRow : OpenClaim := { program := "ythbpkmmnoeikoaa", sum := "eacc17b40be818a923872d7e874ca7498b3b0e3e42ae5f79d3e560f0dc2158a7", func := "douane/douanelaw02.NumOrder", spec := "numOrder", unfollowed := true, recurses := true, apart := false }
def NumOrderSaid : Prop := numOrderRow.holds Try.pinned (OpenSpec.ofChange numOrderSpec)

/-- ITS FALSE NEIGHBOUR: 'it returns false'. Refute it at one input. -/
def numOrderWrong : ChangeSpec := { name := "numOrder", fn := fun _ => fun
  | [d1, d2] => { results := [.lit (.bool false)], args := [d1, d2] }
  | _ => none }
def NumOrderWrongFalsely : Prop := numOrderRow.holds Try.pinned (OpenSpec.ofChange numOrderWrong)

/-- 'douanelaw08.JsonFinds': WHATEVER THE INPUT: true; the input reads as it did. -/
def jsonFindsSpec : ChangeSpec := { name := "jsonFinds", fn := fun _ => fun
  | [d1, d2] => { results := [.lit (.bool true)], args := [d1, d2] }
  | _ => none }
def jsonFindsRow : OpenClaim := { program := "ythbpkmmnoeikoaa", sum := "eacc17b40be818a923872d7e874ca7498b3b0e3e42ae5f79d3e560f0dc2158a7", func := "douane/douanelaw08.JsonFinds", spec := "jsonFinds", inPlace := ["internal/bytealg.IndexByteString", "internal/abi.NoEscape"], unfollowed := true, recurses := true, loops := true, apart := false }
def JsonFindsSaid : Prop := jsonFindsRow.holds Try.pinned (OpenSpec.ofChange jsonFindsSpec)

/-- ITS FALSE NEIGHBOUR: 'it returns false'. Refute it at one input. -/
def jsonFindsWrong : ChangeSpec := { name := "jsonFinds", fn := fun _ => fun
  | [d1, d2] => { results := [.lit (.bool false)], args := [d1, d2] }
  | _ => none }
def JsonFindsWrongFalsely : Prop := jsonFindsRow.holds Try.pinned (OpenSpec.ofChange jsonFindsWrong)

/-- 'douanelaw07.TokenNext': WHATEVER THE INPUT: true; the input reads as it did. -/
def tokenNextSpec : ChangeSpec := { name := "tokenNext", fn := fun _ => fun
  | [d1, d2] => { results := [.lit (.bool true)], args := [d1, d2] }
  | _ => none }
def tokenNextRow : OpenClaim := { program := "ythbpkmmnoeikoaa", sum := "eacc17b40be818a923872d7e874ca7498b3b0e3e42ae5f79d3e560f0dc2158a7", func := "douane/douanelaw07.TokenNext", spec := "tokenNext", inPlace := ["internal/bytealg.IndexByteString", "internal/abi.NoEscape"], unfollowed := true, recurses := true, apart := false }
def TokenNextSaid : Prop := tokenNextRow.holds Try.pinned (OpenSpec.ofChange tokenNextSpec)

/-- ITS FALSE NEIGHBOUR: 'it returns false'. Refute it at one input. -/
def tokenNextWrong : ChangeSpec := { name := "tokenNext", fn := fun _ => fun
  | [d1, d2] => { results := [.lit (.bool false)], args := [d1, d2] }
  | _ => none }
def TokenNextWrongFalsely : Prop := tokenNextRow.holds Try.pinned (OpenSpec.ofChange tokenNextWrong)

/-- 'douanelaw07.TokenAll': WHATEVER THE INPUT: true; the input reads as it did. -/
def tokenAllSpec : ChangeSpec := { name := "tokenAll", fn := fun _ => fun
  | [d] => { results := [.lit (.bool true)], args := [d] }
  | _ => none }
def tokenAllRow : OpenClaim := { program := "ythbpkmmnoeikoaa", sum := "eacc17b40be818a923872d7e874ca7498b3b0e3e42ae5f79d3e560f0dc2158a7", func := "douane/douanelaw07.TokenAll", spec := "tokenAll", inPlace := ["internal/bytealg.IndexByteString", "internal/abi.NoEscape"], unfollowed := true, recurses := true, apart := false }
def TokenAllSaid : Prop := tokenAllRow.holds Try.pinned (OpenSpec.ofChange tokenAllSpec)

/-- ITS FALSE NEIGHBOUR: 'it returns false'. Refute it at one input. -/
def tokenAllWrong : ChangeSpec := { name := "tokenAll", fn := fun _ => fun
  | [d] => { results := [.lit (.bool false)], args := [d] }
  | _ => none }
def TokenAllWrongFalsely : Prop := tokenAllRow.holds Try.pinned (OpenSpec.ofChange tokenAllWrong)

/-- 'douanelaw07.TokenQuotes': WHATEVER THE INPUT: true; the input reads as it did. -/
def tokenQuotesSpec : ChangeSpec := { name := "tokenQuotes", fn := fun _ => fun
  | [d1, d2] => { results := [.lit (.bool true)], args := [d1, d2] }
  | _ => none }
def tokenQuotesRow : OpenClaim := { program := "ythbpkmmnoeikoaa", sum := "eacc17b40be818a923872d7e874ca7498b3b0e3e42ae5f79d3e560f0dc2158a7", func := "douane/douanelaw07.TokenQuotes", spec := "tokenQuotes", inPlace := ["internal/bytealg.IndexByteString", "internal/abi.NoEscape"], unfollowed := true, recurses := true, apart := false }
def TokenQuotesSaid : Prop := tokenQuotesRow.holds Try.pinned (OpenSpec.ofChange tokenQuotesSpec)

/-- ITS FALSE NEIGHBOUR: 'it returns false'. Refute it at one input. -/
def tokenQuotesWrong : ChangeSpec := { name := "tokenQuotes", fn := fun _ => fun
  | [d1, d2] => { results := [.lit (.bool false)], args := [d1, d2] }
  | _ => none }
def TokenQuotesWrongFalsely : Prop := tokenQuotesRow.holds Try.pinned (OpenSpec.ofChange tokenQuotesWrong)

/-- 'douanelaw07.TokenOrder': WHATEVER THE INPUT: true; the input reads as it did. -/
def tokenOrderSpec : ChangeSpec := { name := "tokenOrder", fn := fun _ => fun
  | [d] => { results := [.lit (.bool true)], args := [d] }
  | _ => none }
def tokenOrderRow : OpenClaim := { program := "ythbpkmmnoeikoaa", sum := "eacc17b40be818a923872d7e874ca7498b3b0e3e42ae5f79d3e560f0dc2158a7", func := "douane/douanelaw07.TokenOrder", spec := "tokenOrder", inPlace := ["internal/bytealg.IndexByteString", "internal/abi.NoEscape"], unfollowed := true, recurses := true, apart := false }
def TokenOrderSaid : Prop := tokenOrderRow.holds Try.pinned (OpenSpec.ofChange tokenOrderSpec)

/-- ITS FALSE NEIGHBOUR: 'it returns false'. Refute it at one input. -/
def tokenOrderWrong : ChangeSpec := { name := "tokenOrder", fn := fun _ => fun
  | [d] => { results := [.lit (.bool false)], args := [d] }
  | _ => none }
def TokenOrderWrongFalsely : Prop := tokenOrderRow.holds Try.pinned (OpenSpec.ofChange tokenOrderWrong)

/-- 'douanelaw07.TokenBlanks': WHATEVER THE INPUT: true; the input reads as it did. -/
def tokenBlanksSpec : ChangeSpec := { name := "tokenBlanks", fn := fun _ => fun
  | [d1, d2] => { results := [.lit (.bool true)], args := [d1, d2] }
  | _ => none }
def tokenBlanksRow : OpenClaim := { program := "ythbpkmmnoeikoaa", sum := "eacc17b40be818a923872d7e874ca7498b3b0e3e42ae5f79d3e560f0dc2158a7", func := "douane/douanelaw07.TokenBlanks", spec := "tokenBlanks", inPlace := ["internal/bytealg.IndexByteString", "internal/abi.NoEscape"], unfollowed := true, recurses := true, apart := false }
def TokenBlanksSaid : Prop := tokenBlanksRow.holds Try.pinned (OpenSpec.ofChange tokenBlanksSpec)

/-- ITS FALSE NEIGHBOUR: 'it returns false'. Refute it at one input. -/
def tokenBlanksWrong : ChangeSpec := { name := "tokenBlanks", fn := fun _ => fun
  | [d1, d2] => { results := [.lit (.bool false)], args := [d1, d2] }
  | _ => none }
def TokenBlanksWrongFalsely : Prop := tokenBlanksRow.holds Try.pinned (OpenSpec.ofChange tokenBlanksWrong)

/- THE SECOND FORM. 'bulk': how many values and letters a reading holds, each counted each time it is reached (what is shared counts as often as it is met; a slice's spare places count too). A statement '..UptoSaid' is the law's where the arguments, and the package variables that the reading takes, are together of bulk at most 1048576: NARROWER than '..Said'. Prove '..Said' where nothing that the law and all that it calls make is longer than what came in: it says more and counts as full. Else prove '..UptoSaid'. A law counts once. -/
mutual
def uptoBulk {H : Type} : DataW H → Nat
  | .lit (.string bytes) => bytes.length + 1
  | .lit _ => 1
  | .nil => 1
  | .ptr d => uptoBulk d + 1
  | .slice elems spare => uptoBulkAll elems + uptoBulkAll spare + 1
  | .agg parts => uptoBulkAll parts + 1
  | .iface _ d => uptoBulk d + 1
  | .map entries => uptoBulkEntries entries + 1
  | .held _ => 1
def uptoBulkAll {H : Type} : List (DataW H) → Nat
  | [] => 0
  | d :: r => uptoBulk d + uptoBulkAll r
def uptoBulkEntries {H : Type} : List (Lit × DataW H) → Nat
  | [] => 0
  | x :: r => uptoBulkEntry x + uptoBulkEntries r
def uptoBulkEntry {H : Type} : Lit × DataW H → Nat
  | (.string bytes, d) => bytes.length + uptoBulk d + 1
  | (_, d) => uptoBulk d + 1
 end
def uptoSmall : (H : Type) → List (DataW H) → Bool := fun _ ds => decide (uptoBulkAll ds ≤ 1048576)
def OpenSpec.upto (s : _root_.Go.ChangeSpec) : _root_.Go.OpenSpec := { _root_.Go.OpenSpec.ofChange s with cond := some uptoSmall }

/-- 'douanelaw02.NumPrints', WHERE WHAT IT READS IS OF BULK AT MOST 1048576: true; the input reads as it did. -/
def numPrintsUptoRow : OpenClaim := { program := "ythbpkmmnoeikoaa", sum := "eacc17b40be818a923872d7e874ca7498b3b0e3e42ae5f79d3e560f0dc2158a7", func := "douane/douanelaw02.NumPrints", spec := "numPrints", unfollowed := true, recurses := true, apart := false, narrowed := true }
def NumPrintsUptoSaid : Prop := numPrintsUptoRow.holds Try.pinned (OpenSpec.upto numPrintsSpec)

/-- 'douanelaw02.NumParses', WHERE WHAT IT READS IS OF BULK AT MOST 1048576: true; the input reads as it did. -/
def numParsesUptoRow : OpenClaim := { program := "ythbpkmmnoeikoaa", sum := "eacc17b40be818a923872d7e874ca7498b3b0e3e42ae5f79d3e560f0dc2158a7", func := "douane/douanelaw02.NumParses", spec := "numParses", unfollowed := true, recurses := true, apart := false, narrowed := true }
def NumParsesUptoSaid : Prop := numParsesUptoRow.holds Try.pinned (OpenSpec.upto numParsesSpec)

/-- 'douanelaw02.NumBack', WHERE WHAT IT READS IS OF BULK AT MOST 1048576: true; the input reads as it did. -/
def numBackUptoRow : OpenClaim := { program := "ythbpkmmnoeikoaa", sum := "eacc17b40be818a923872d7e874ca7498b3b0e3e42ae5f79d3e560f0dc2158a7", func := "douane/douanelaw02.NumBack", spec := "numBack", unfollowed := true, recurses := true, apart := false, narrowed := true }
def NumBackUptoSaid : Prop := numBackUptoRow.holds Try.pinned (OpenSpec.upto numBackSpec)

/-- 'douanelaw02.NumAdds', WHERE WHAT IT READS IS OF BULK AT MOST 1048576: true; the input reads as it did. -/
def numAddsUptoRow : OpenClaim := { program := "ythbpkmmnoeikoaa", sum := "eacc17b40be818a923872d7e874ca7498b3b0e3e42ae5f79d3e560f0dc2158a7", func := "douane/douanelaw02.NumAdds", spec := "numAdds", unfollowed := true, recurses := true, apart := false, narrowed := true }
def NumAddsUptoSaid : Prop := numAddsUptoRow.holds Try.pinned (OpenSpec.upto numAddsSpec)

/-- 'douanelaw08.JsonParses', WHERE WHAT IT READS IS OF BULK AT MOST 1048576: true; the input reads as it did. -/
def jsonParsesUptoRow : OpenClaim := { program := "ythbpkmmnoeikoaa", sum := "eacc17b40be818a923872d7e874ca7498b3b0e3e42ae5f79d3e560f0dc2158a7", func := "douane/douanelaw08.JsonParses", spec := "jsonParses", inPlace := ["internal/bytealg.IndexByteString", "internal/abi.NoEscape"], unfollowed := true, recurses := true, apart := false, narrowed := true }
def JsonParsesUptoSaid : Prop := jsonParsesUptoRow.holds Try.pinned (OpenSpec.upto jsonParsesSpec)

/-- 'douanelaw02.NumOrder', WHERE WHAT IT READS IS OF BULK AT MOST 1048576: true; the input reads as it did. -/
def numOrderUptoRow : OpenClaim := { program := "ythbpkmmnoeikoaa", sum := "eacc17b40be818a923872d7e874ca7498b3b0e3e42ae5f79d3e560f0dc2158a7", func := "douane/douanelaw02.NumOrder", spec := "numOrder", unfollowed := true, recurses := true, apart := false, narrowed := true }
def NumOrderUptoSaid : Prop := numOrderUptoRow.holds Try.pinned (OpenSpec.upto numOrderSpec)

/-- 'douanelaw08.JsonFinds', WHERE WHAT IT READS IS OF BULK AT MOST 1048576: true; the input reads as it did. -/
def jsonFindsUptoRow : OpenClaim := { program := "ythbpkmmnoeikoaa", sum := "eacc17b40be818a923872d7e874ca7498b3b0e3e42ae5f79d3e560f0dc2158a7", func := "douane/douanelaw08.JsonFinds", spec := "jsonFinds", inPlace := ["internal/bytealg.IndexByteString", "internal/abi.NoEscape"], unfollowed := true, recurses := true, loops := true, apart := false, narrowed := true }
def JsonFindsUptoSaid : Prop := jsonFindsUptoRow.holds Try.pinned (OpenSpec.upto jsonFindsSpec)

/-- 'douanelaw07.TokenNext', WHERE WHAT IT READS IS OF BULK AT MOST 1048576: true; the input reads as it did. -/
def tokenNextUptoRow : OpenClaim := { program := "ythbpkmmnoeikoaa", sum := "eacc17b40be818a923872d7e874ca7498b3b0e3e42ae5f79d3e560f0dc2158a7", func := "douane/douanelaw07.TokenNext", spec := "tokenNext", inPlace := ["internal/bytealg.IndexByteString", "internal/abi.NoEscape"], unfollowed := true, recurses := true, apart := false, narrowed := true }
def TokenNextUptoSaid : Prop := tokenNextUptoRow.holds Try.pinned (OpenSpec.upto tokenNextSpec)

/-- 'douanelaw07.TokenAll', WHERE WHAT IT READS IS OF BULK AT MOST 1048576: true; the input reads as it did. -/
def tokenAllUptoRow : OpenClaim := { program := "ythbpkmmnoeikoaa", sum := "eacc17b40be818a923872d7e874ca7498b3b0e3e42ae5f79d3e560f0dc2158a7", func := "douane/douanelaw07.TokenAll", spec := "tokenAll", inPlace := ["internal/bytealg.IndexByteString", "internal/abi.NoEscape"], unfollowed := true, recurses := true, apart := false, narrowed := true }
def TokenAllUptoSaid : Prop := tokenAllUptoRow.holds Try.pinned (OpenSpec.upto tokenAllSpec)

/-- 'douanelaw07.TokenQuotes', WHERE WHAT IT READS IS OF BULK AT MOST 1048576: true; the input reads as it did. -/
def tokenQuotesUptoRow : OpenClaim := { program := "ythbpkmmnoeikoaa", sum := "eacc17b40be818a923872d7e874ca7498b3b0e3e42ae5f79d3e560f0dc2158a7", func := "douane/douanelaw07.TokenQuotes", spec := "tokenQuotes", inPlace := ["internal/bytealg.IndexByteString", "internal/abi.NoEscape"], unfollowed := true, recurses := true, apart := false, narrowed := true }
def TokenQuotesUptoSaid : Prop := tokenQuotesUptoRow.holds Try.pinned (OpenSpec.upto tokenQuotesSpec)

/-- 'douanelaw07.TokenOrder', WHERE WHAT IT READS IS OF BULK AT MOST 1048576: true; the input reads as it did. -/
def tokenOrderUptoRow : OpenClaim := { program := "ythbpkmmnoeikoaa", sum := "eacc17b40be818a923872d7e874ca7498b3b0e3e42ae5f79d3e560f0dc2158a7", func := "douane/douanelaw07.TokenOrder", spec := "tokenOrder", inPlace := ["internal/bytealg.IndexByteString", "internal/abi.NoEscape"], unfollowed := true, recurses := true, apart := false, narrowed := true }
def TokenOrderUptoSaid : Prop := tokenOrderUptoRow.holds Try.pinned (OpenSpec.upto tokenOrderSpec)

/-- 'douanelaw07.TokenBlanks', WHERE WHAT IT READS IS OF BULK AT MOST 1048576: true; the input reads as it did. -/
def tokenBlanksUptoRow : OpenClaim := { program := "ythbpkmmnoeikoaa", sum := "eacc17b40be818a923872d7e874ca7498b3b0e3e42ae5f79d3e560f0dc2158a7", func := "douane/douanelaw07.TokenBlanks", spec := "tokenBlanks", inPlace := ["internal/bytealg.IndexByteString", "internal/abi.NoEscape"], unfollowed := true, recurses := true, apart := false, narrowed := true }
def TokenBlanksUptoSaid : Prop := tokenBlanksUptoRow.holds Try.pinned (OpenSpec.upto tokenBlanksSpec)

end Rows
end Go.Proofs.Ythbpkmmnoeikoaa
