/-
  No cell of these rows narrows 'for every input' (looked for: loops, veiled, ifaces, maps, wideKeys, modest, calm, conditions, laid).
  DERIVED. THE GIVEN ROWS OF THIS SEAT. 9 by the template 'for every input the law returns true; each argument reads behind the call as it read before'; 0 by the template 'total and deterministic' (their statements: YtcmeijeddjckjaaTotals.lean).
  GIVEN WITH THE SEED: the statements are not yours to turn. If you find one false, say at which input.
  Laid BY PROGRAM, IN A SANDBOX (cutbox-rows.mjs): the forced cells as the released guide's own fill.sh prints them over the translation 397fa2990c061929… (all of the seat's roots in one cut). By AI agents, Wed Nov 11 2026. No macro, syntax, notation, axiom, sorry.
-/
import Derived.Test.YtcmeijeddjckjaaChecked
import GoSem.Claim
import GoSem.ClaimJoined
import GoSem.ClaimMapViews
import Derived.JoinedTies
import Derived.KernelRfl
namespace Go.Proofs.Ytcmeijeddjckjaa
/- THE CELL 'sum', in the pinned program and in every row, IS THE sha256 OF THE DUMP (.gsa) THAT YtcmeijeddjckjaaProg.lean LOADS. Nothing in Lean hashes anything: it is a label: what it is worth is what the hold of that sum in a sandbox is worth. -/
noncomputable def Try.pinned : Pinned := { name := "ytcmeijeddjckjaa", sum := "397fa2990c0619296edecda8ec3c6afb89d57044d627b73657b221f19b2a1e29", checked := Try.checked }
namespace Rows
def none {H : Type} : Left H := { results := [], args := [] }

/-- 'pidginlaw2.ScanDigits': WHATEVER THE INPUT: true; the input reads as it did. -/
def scanDigitsSpec : ChangeSpec := { name := "scanDigits", fn := fun _ => fun
  | [d1, d2] => { results := [.lit (.bool true)], args := [d1, d2] }
  | _ => none }
def scanDigitsRow : OpenClaim := { program := "ytcmeijeddjckjaa", sum := "397fa2990c0619296edecda8ec3c6afb89d57044d627b73657b221f19b2a1e29", func := "pidgin/pidginlaw2.ScanDigits", spec := "scanDigits", apart := false }
def ScanDigitsSaid : Prop := scanDigitsRow.holds Try.pinned (OpenSpec.ofChange scanDigitsSpec)

/-- ITS FALSE NEIGHBOUR: 'it returns false'. Refute it at one input. -/
def scanDigitsWrong : ChangeSpec := { name := "scanDigits", fn := fun _ => fun
  | [d1, d2] => { results := [.lit (.bool false)], args := [d1, d2] }
  | _ => none }
def ScanDigitsWrongFalsely : Prop := scanDigitsRow.holds Try.pinned (OpenSpec.ofChange scanDigitsWrong)

/-- 'pidginlaw2.ScanNames': WHATEVER THE INPUT: true; the input reads as it did. -/
def scanNamesSpec : ChangeSpec := { name := "scanNames", fn := fun _ => fun
  | [d] => { results := [.lit (.bool true)], args := [d] }
  | _ => none }
def scanNamesRow : OpenClaim := { program := "ytcmeijeddjckjaa", sum := "397fa2990c0619296edecda8ec3c6afb89d57044d627b73657b221f19b2a1e29", func := "pidgin/pidginlaw2.ScanNames", spec := "scanNames", apart := false }
def ScanNamesSaid : Prop := scanNamesRow.holds Try.pinned (OpenSpec.ofChange scanNamesSpec)

/-- ITS FALSE NEIGHBOUR: 'it returns false'. Refute it at one input. -/
def scanNamesWrong : ChangeSpec := { name := "scanNames", fn := fun _ => fun
  | [d] => { results := [.lit (.bool false)], args := [d] }
  | _ => none }
def ScanNamesWrongFalsely : Prop := scanNamesRow.holds Try.pinned (OpenSpec.ofChange scanNamesWrong)

/-- 'pidginlaw2.ScanNoughts': WHATEVER THE INPUT: true; the input reads as it did. -/
def scanNoughtsSpec : ChangeSpec := { name := "scanNoughts", fn := fun _ => fun
  | [d1, d2, d3, d4] => { results := [.lit (.bool true)], args := [d1, d2, d3, d4] }
  | _ => none }
def scanNoughtsRow : OpenClaim := { program := "ytcmeijeddjckjaa", sum := "397fa2990c0619296edecda8ec3c6afb89d57044d627b73657b221f19b2a1e29", func := "pidgin/pidginlaw2.ScanNoughts", spec := "scanNoughts", apart := false }
def ScanNoughtsSaid : Prop := scanNoughtsRow.holds Try.pinned (OpenSpec.ofChange scanNoughtsSpec)

/-- ITS FALSE NEIGHBOUR: 'it returns false'. Refute it at one input. -/
def scanNoughtsWrong : ChangeSpec := { name := "scanNoughts", fn := fun _ => fun
  | [d1, d2, d3, d4] => { results := [.lit (.bool false)], args := [d1, d2, d3, d4] }
  | _ => none }
def ScanNoughtsWrongFalsely : Prop := scanNoughtsRow.holds Try.pinned (OpenSpec.ofChange scanNoughtsWrong)

/-- 'pidginlaw2.ScanTexts': WHATEVER THE INPUT: true; the input reads as it did. -/
def scanTextsSpec : ChangeSpec := { name := "scanTexts", fn := fun _ => fun
  | [d1, d2, d3, d4] => { results := [.lit (.bool true)], args := [d1, d2, d3, d4] }
  | _ => none }
def scanTextsRow : OpenClaim := { program := "ytcmeijeddjckjaa", sum := "397fa2990c0619296edecda8ec3c6afb89d57044d627b73657b221f19b2a1e29", func := "pidgin/pidginlaw2.ScanTexts", spec := "scanTexts", apart := false }
def ScanTextsSaid : Prop := scanTextsRow.holds Try.pinned (OpenSpec.ofChange scanTextsSpec)

/-- ITS FALSE NEIGHBOUR: 'it returns false'. Refute it at one input. -/
def scanTextsWrong : ChangeSpec := { name := "scanTexts", fn := fun _ => fun
  | [d1, d2, d3, d4] => { results := [.lit (.bool false)], args := [d1, d2, d3, d4] }
  | _ => none }
def ScanTextsWrongFalsely : Prop := scanTextsRow.holds Try.pinned (OpenSpec.ofChange scanTextsWrong)

/-- 'pidginlaw2.ScanWhole': WHATEVER THE INPUT: true; the input reads as it did. -/
def scanWholeSpec : ChangeSpec := { name := "scanWhole", fn := fun _ => fun
  | [d] => { results := [.lit (.bool true)], args := [d] }
  | _ => none }
def scanWholeRow : OpenClaim := { program := "ytcmeijeddjckjaa", sum := "397fa2990c0619296edecda8ec3c6afb89d57044d627b73657b221f19b2a1e29", func := "pidgin/pidginlaw2.ScanWhole", spec := "scanWhole", apart := false }
def ScanWholeSaid : Prop := scanWholeRow.holds Try.pinned (OpenSpec.ofChange scanWholeSpec)

/-- ITS FALSE NEIGHBOUR: 'it returns false'. Refute it at one input. -/
def scanWholeWrong : ChangeSpec := { name := "scanWhole", fn := fun _ => fun
  | [d] => { results := [.lit (.bool false)], args := [d] }
  | _ => none }
def ScanWholeWrongFalsely : Prop := scanWholeRow.holds Try.pinned (OpenSpec.ofChange scanWholeWrong)

/-- 'pidginlaw2.ScanCuts': WHATEVER THE INPUT: true; the input reads as it did. -/
def scanCutsSpec : ChangeSpec := { name := "scanCuts", fn := fun _ => fun
  | [d1, d2] => { results := [.lit (.bool true)], args := [d1, d2] }
  | _ => none }
def scanCutsRow : OpenClaim := { program := "ytcmeijeddjckjaa", sum := "397fa2990c0619296edecda8ec3c6afb89d57044d627b73657b221f19b2a1e29", func := "pidgin/pidginlaw2.ScanCuts", spec := "scanCuts", inPlace := ["internal/bytealg.IndexByteString"], apart := false }
def ScanCutsSaid : Prop := scanCutsRow.holds Try.pinned (OpenSpec.ofChange scanCutsSpec)

/-- ITS FALSE NEIGHBOUR: 'it returns false'. Refute it at one input. -/
def scanCutsWrong : ChangeSpec := { name := "scanCuts", fn := fun _ => fun
  | [d1, d2] => { results := [.lit (.bool false)], args := [d1, d2] }
  | _ => none }
def ScanCutsWrongFalsely : Prop := scanCutsRow.holds Try.pinned (OpenSpec.ofChange scanCutsWrong)

/-- 'pidginlaw2.ScanReturns': WHATEVER THE INPUT: true; the input reads as it did. -/
def scanReturnsSpec : ChangeSpec := { name := "scanReturns", fn := fun _ => fun
  | [d1, d2, d3] => { results := [.lit (.bool true)], args := [d1, d2, d3] }
  | _ => none }
def scanReturnsRow : OpenClaim := { program := "ytcmeijeddjckjaa", sum := "397fa2990c0619296edecda8ec3c6afb89d57044d627b73657b221f19b2a1e29", func := "pidgin/pidginlaw2.ScanReturns", spec := "scanReturns", apart := false }
def ScanReturnsSaid : Prop := scanReturnsRow.holds Try.pinned (OpenSpec.ofChange scanReturnsSpec)

/-- ITS FALSE NEIGHBOUR: 'it returns false'. Refute it at one input. -/
def scanReturnsWrong : ChangeSpec := { name := "scanReturns", fn := fun _ => fun
  | [d1, d2, d3] => { results := [.lit (.bool false)], args := [d1, d2, d3] }
  | _ => none }
def ScanReturnsWrongFalsely : Prop := scanReturnsRow.holds Try.pinned (OpenSpec.ofChange scanReturnsWrong)

/-- 'pidginlaw2.ScanBack': WHATEVER THE INPUT: true; the input reads as it did. -/
def scanBackSpec : ChangeSpec := { name := "scanBack", fn := fun _ => fun
  | [d1, d2, d3] => { results := [.lit (.bool true)], args := [d1, d2, d3] }
  | _ => none }
def scanBackRow : OpenClaim := { program := "ytcmeijeddjckjaa", sum := "397fa2990c0619296edecda8ec3c6afb89d57044d627b73657b221f19b2a1e29", func := "pidgin/pidginlaw2.ScanBack", spec := "scanBack", apart := false }
def ScanBackSaid : Prop := scanBackRow.holds Try.pinned (OpenSpec.ofChange scanBackSpec)

/-- ITS FALSE NEIGHBOUR: 'it returns false'. Refute it at one input. -/
def scanBackWrong : ChangeSpec := { name := "scanBack", fn := fun _ => fun
  | [d1, d2, d3] => { results := [.lit (.bool false)], args := [d1, d2, d3] }
  | _ => none }
def ScanBackWrongFalsely : Prop := scanBackRow.holds Try.pinned (OpenSpec.ofChange scanBackWrong)

/-- 'pidginlaw2.ScanCursors': WHATEVER THE INPUT: true; the input reads as it did. -/
def scanCursorsSpec : ChangeSpec := { name := "scanCursors", fn := fun _ => fun
  | [d1, d2] => { results := [.lit (.bool true)], args := [d1, d2] }
  | _ => none }
def scanCursorsRow : OpenClaim := { program := "ytcmeijeddjckjaa", sum := "397fa2990c0619296edecda8ec3c6afb89d57044d627b73657b221f19b2a1e29", func := "pidgin/pidginlaw2.ScanCursors", spec := "scanCursors", inPlace := ["internal/bytealg.IndexByteString"], unfollowed := true, recurses := true, apart := false }
def ScanCursorsSaid : Prop := scanCursorsRow.holds Try.pinned (OpenSpec.ofChange scanCursorsSpec)

/-- ITS FALSE NEIGHBOUR: 'it returns false'. Refute it at one input. -/
def scanCursorsWrong : ChangeSpec := { name := "scanCursors", fn := fun _ => fun
  | [d1, d2] => { results := [.lit (.bool false)], args := [d1, d2] }
  | _ => none }
def ScanCursorsWrongFalsely : Prop := scanCursorsRow.holds Try.pinned (OpenSpec.ofChange scanCursorsWrong)

/- THE SECOND FORM. 'bulk': how many values and letters a reading holds, each counted each time it is reached (what is shared counts as often as it is met; a slice's spare places count too). A statement '..UptoSaid' is the law's where the arguments, and the package variables that the reading takes, are together of bulk at most 1048576: NARROWER than '..Said'. Prove '..Said' where nothing that the law and all that it calls make is longer than what came in: it says more and counts as full. Else prove '..UptoSaid'. A law counts once. -/
mutual
def uptoBulk {H : Type} : DataW H → Nat
  | .lit (.string bytes) => bytes.length + 1
  | .lit _ => 1
  | .nil => 1
  | .ptr d => uptoBulk d + 1
  | .slice elems spare => uptoBulkAll elems + uptoBulkAll spare + 1
  | .agg parts => uptoBulkAll parts + 1
  | .iface _ d => uptoBulk d + 1
  | .map entries => uptoBulkEntries entries + 1
  | .held _ => 1
def uptoBulkAll {H : Type} : List (DataW H) → Nat
  | [] => 0
  | d :: r => uptoBulk d + uptoBulkAll r
def uptoBulkEntries {H : Type} : List (Lit × DataW H) → Nat
  | [] => 0
  | x :: r => uptoBulkEntry x + uptoBulkEntries r
def uptoBulkEntry {H : Type} : Lit × DataW H → Nat
  | (.string bytes, d) => bytes.length + uptoBulk d + 1
  | (_, d) => uptoBulk d + 1
 end
def uptoSmall : (H : Type) → List (DataW H) → Bool := fun _ ds => decide (uptoBulkAll ds ≤ 1048576)
def OpenSpec.upto (s : _root_.Go.ChangeSpec) : _root_.Go.OpenSpec := { _root_.Go.OpenSpec.ofChange s with cond := some uptoSmall }

/-- 'pidginlaw2.ScanDigits', WHERE WHAT IT READS IS OF BULK AT MOST 1048576: true; the input reads as it did. -/
def scanDigitsUptoRow : OpenClaim := { program := "ytcmeijeddjckjaa", sum := "397fa2990c0619296edecda8ec3c6afb89d57044d627b73657b221f19b2a1e29", func := "pidgin/pidginlaw2.ScanDigits", spec := "scanDigits", apart := false, narrowed := true }
def ScanDigitsUptoSaid : Prop := scanDigitsUptoRow.holds Try.pinned (OpenSpec.upto scanDigitsSpec)

/-- 'pidginlaw2.ScanNames', WHERE WHAT IT READS IS OF BULK AT MOST 1048576: true; the input reads as it did. -/
def scanNamesUptoRow : OpenClaim := { program := "ytcmeijeddjckjaa", sum := "397fa2990c0619296edecda8ec3c6afb89d57044d627b73657b221f19b2a1e29", func := "pidgin/pidginlaw2.ScanNames", spec := "scanNames", apart := false, narrowed := true }
def ScanNamesUptoSaid : Prop := scanNamesUptoRow.holds Try.pinned (OpenSpec.upto scanNamesSpec)

/-- 'pidginlaw2.ScanNoughts', WHERE WHAT IT READS IS OF BULK AT MOST 1048576: true; the input reads as it did. -/
def scanNoughtsUptoRow : OpenClaim := { program := "ytcmeijeddjckjaa", sum := "397fa2990c0619296edecda8ec3c6afb89d57044d627b73657b221f19b2a1e29", func := "pidgin/pidginlaw2.ScanNoughts", spec := "scanNoughts", apart := false, narrowed := true }
def ScanNoughtsUptoSaid : Prop := scanNoughtsUptoRow.holds Try.pinned (OpenSpec.upto scanNoughtsSpec)

/-- 'pidginlaw2.ScanTexts', WHERE WHAT IT READS IS OF BULK AT MOST 1048576: true; the input reads as it did. -/
def scanTextsUptoRow : OpenClaim := { program := "ytcmeijeddjckjaa", sum := "397fa2990c0619296edecda8ec3c6afb89d57044d627b73657b221f19b2a1e29", func := "pidgin/pidginlaw2.ScanTexts", spec := "scanTexts", apart := false, narrowed := true }
def ScanTextsUptoSaid : Prop := scanTextsUptoRow.holds Try.pinned (OpenSpec.upto scanTextsSpec)

/-- 'pidginlaw2.ScanWhole', WHERE WHAT IT READS IS OF BULK AT MOST 1048576: true; the input reads as it did. -/
def scanWholeUptoRow : OpenClaim := { program := "ytcmeijeddjckjaa", sum := "397fa2990c0619296edecda8ec3c6afb89d57044d627b73657b221f19b2a1e29", func := "pidgin/pidginlaw2.ScanWhole", spec := "scanWhole", apart := false, narrowed := true }
def ScanWholeUptoSaid : Prop := scanWholeUptoRow.holds Try.pinned (OpenSpec.upto scanWholeSpec)

/-- 'pidginlaw2.ScanCuts', WHERE WHAT IT READS IS OF BULK AT MOST 1048576: true; the input reads as it did. -/
def scanCutsUptoRow : OpenClaim := { program := "ytcmeijeddjckjaa", sum := "397fa2990c0619296edecda8ec3c6afb89d57044d627b73657b221f19b2a1e29", func := "pidgin/pidginlaw2.ScanCuts", spec := "scanCuts", inPlace := ["internal/bytealg.IndexByteString"], apart := false, narrowed := true }
def ScanCutsUptoSaid : Prop := scanCutsUptoRow.holds Try.pinned (OpenSpec.upto scanCutsSpec)

/-- 'pidginlaw2.ScanReturns', WHERE WHAT IT READS IS OF BULK AT MOST 1048576: true; the input reads as it did. -/
def scanReturnsUptoRow : OpenClaim := { program := "ytcmeijeddjckjaa", sum := "397fa2990c0619296edecda8ec3c6afb89d57044d627b73657b221f19b2a1e29", func := "pidgin/pidginlaw2.ScanReturns", spec := "scanReturns", apart := false, narrowed := true }
def ScanReturnsUptoSaid : Prop := scanReturnsUptoRow.holds Try.pinned (OpenSpec.upto scanReturnsSpec)

/-- 'pidginlaw2.ScanBack', WHERE WHAT IT READS IS OF BULK AT MOST 1048576: true; the input reads as it did. -/
def scanBackUptoRow : OpenClaim := { program := "ytcmeijeddjckjaa", sum := "397fa2990c0619296edecda8ec3c6afb89d57044d627b73657b221f19b2a1e29", func := "pidgin/pidginlaw2.ScanBack", spec := "scanBack", apart := false, narrowed := true }
def ScanBackUptoSaid : Prop := scanBackUptoRow.holds Try.pinned (OpenSpec.upto scanBackSpec)

/-- 'pidginlaw2.ScanCursors', WHERE WHAT IT READS IS OF BULK AT MOST 1048576: true; the input reads as it did. -/
def scanCursorsUptoRow : OpenClaim := { program := "ytcmeijeddjckjaa", sum := "397fa2990c0619296edecda8ec3c6afb89d57044d627b73657b221f19b2a1e29", func := "pidgin/pidginlaw2.ScanCursors", spec := "scanCursors", inPlace := ["internal/bytealg.IndexByteString"], unfollowed := true, recurses := true, apart := false, narrowed := true }
def ScanCursorsUptoSaid : Prop := scanCursorsUptoRow.holds Try.pinned (OpenSpec.upto scanCursorsSpec)

end Rows
end Go.Proofs.Ytcmeijeddjckjaa
