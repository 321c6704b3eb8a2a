/-
  No cell of these rows narrows 'for every input' (looked for: loops, veiled, ifaces, maps, wideKeys, modest, calm, conditions, laid).
  DERIVED. THE GIVEN ROWS OF THIS SEAT. 4 by the template 'for every input the law returns true; each argument reads behind the call as it read before'; 0 by the template 'total and deterministic' (their statements: YtaicpgkoailnkaaTotals.lean).
  GIVEN WITH THE SEED: the statements are not yours to turn. If you find one false, say at which input.
  Laid BY PROGRAM, IN A SANDBOX (cutbox-rows.mjs): the forced cells as the released guide's own fill.sh prints them over the translation 7d8db87c8d71a442… (all of the seat's roots in one cut). By AI agents, Wed Nov 11 2026. No macro, syntax, notation, axiom, sorry.
-/
import Derived.Test.YtaicpgkoailnkaaChecked
import GoSem.Claim
import GoSem.ClaimJoined
import GoSem.ClaimMapViews
import Derived.JoinedTies
import Derived.KernelRfl
namespace Go.Proofs.Ytaicpgkoailnkaa
/- THE CELL 'sum', in the pinned program and in every row, IS THE sha256 OF THE DUMP (.gsa) THAT YtaicpgkoailnkaaProg.lean LOADS. Nothing in Lean hashes anything: it is a label: what it is worth is what the hold of that sum in a sandbox is worth. -/
noncomputable def Try.pinned : Pinned := { name := "ytaicpgkoailnkaa", sum := "7d8db87c8d71a44204286bce418b69ba1b4a8f637d37453a8549acf71fc84814", checked := Try.checked }
namespace Rows
def none {H : Type} : Left H := { results := [], args := [] }

/-- 'flotillalaw06.SheetsLooks': WHATEVER THE INPUT: true; the input reads as it did. -/
def sheetsLooksSpec : ChangeSpec := { name := "sheetsLooks", fn := fun _ => fun
  | [d1, d2, d3] => { results := [.lit (.bool true)], args := [d1, d2, d3] }
  | _ => none }
def sheetsLooksRow : OpenClaim := { program := "ytaicpgkoailnkaa", sum := "7d8db87c8d71a44204286bce418b69ba1b4a8f637d37453a8549acf71fc84814", func := "flotilla/flotillalaw06.SheetsLooks", spec := "sheetsLooks", unfollowed := true, recurses := true, apart := false }
def SheetsLooksSaid : Prop := sheetsLooksRow.holds Try.pinned (OpenSpec.ofChange sheetsLooksSpec)

/-- ITS FALSE NEIGHBOUR: 'it returns false'. Refute it at one input. -/
def sheetsLooksWrong : ChangeSpec := { name := "sheetsLooks", fn := fun _ => fun
  | [d1, d2, d3] => { results := [.lit (.bool false)], args := [d1, d2, d3] }
  | _ => none }
def SheetsLooksWrongFalsely : Prop := sheetsLooksRow.holds Try.pinned (OpenSpec.ofChange sheetsLooksWrong)

/-- 'flotillalaw06.SheetsRange': WHATEVER THE INPUT: true; the input reads as it did. -/
def sheetsRangeSpec : ChangeSpec := { name := "sheetsRange", fn := fun _ => fun
  | [d1, d2, d3, d4] => { results := [.lit (.bool true)], args := [d1, d2, d3, d4] }
  | _ => none }
def sheetsRangeRow : OpenClaim := { program := "ytaicpgkoailnkaa", sum := "7d8db87c8d71a44204286bce418b69ba1b4a8f637d37453a8549acf71fc84814", func := "flotilla/flotillalaw06.SheetsRange", spec := "sheetsRange", unfollowed := true, recurses := true, apart := false }
def SheetsRangeSaid : Prop := sheetsRangeRow.holds Try.pinned (OpenSpec.ofChange sheetsRangeSpec)

/-- ITS FALSE NEIGHBOUR: 'it returns false'. Refute it at one input. -/
def sheetsRangeWrong : ChangeSpec := { name := "sheetsRange", fn := fun _ => fun
  | [d1, d2, d3, d4] => { results := [.lit (.bool false)], args := [d1, d2, d3, d4] }
  | _ => none }
def SheetsRangeWrongFalsely : Prop := sheetsRangeRow.holds Try.pinned (OpenSpec.ofChange sheetsRangeWrong)

/-- 'flotillalaw06.SheetsCarry': WHATEVER THE INPUT: true; the input reads as it did. -/
def sheetsCarrySpec : ChangeSpec := { name := "sheetsCarry", fn := fun _ => fun
  | [d1, d2, d3] => { results := [.lit (.bool true)], args := [d1, d2, d3] }
  | _ => none }
def sheetsCarryRow : OpenClaim := { program := "ytaicpgkoailnkaa", sum := "7d8db87c8d71a44204286bce418b69ba1b4a8f637d37453a8549acf71fc84814", func := "flotilla/flotillalaw06.SheetsCarry", spec := "sheetsCarry", unfollowed := true, recurses := true, apart := false }
def SheetsCarrySaid : Prop := sheetsCarryRow.holds Try.pinned (OpenSpec.ofChange sheetsCarrySpec)

/-- ITS FALSE NEIGHBOUR: 'it returns false'. Refute it at one input. -/
def sheetsCarryWrong : ChangeSpec := { name := "sheetsCarry", fn := fun _ => fun
  | [d1, d2, d3] => { results := [.lit (.bool false)], args := [d1, d2, d3] }
  | _ => none }
def SheetsCarryWrongFalsely : Prop := sheetsCarryRow.holds Try.pinned (OpenSpec.ofChange sheetsCarryWrong)

/-- 'flotillalaw06.SheetsScript': WHATEVER THE INPUT: true; the input reads as it did. -/
def sheetsScriptSpec : ChangeSpec := { name := "sheetsScript", fn := fun _ => fun
  | [d1, d2] => { results := [.lit (.bool true)], args := [d1, d2] }
  | _ => none }
def sheetsScriptRow : OpenClaim := { program := "ytaicpgkoailnkaa", sum := "7d8db87c8d71a44204286bce418b69ba1b4a8f637d37453a8549acf71fc84814", func := "flotilla/flotillalaw06.SheetsScript", spec := "sheetsScript", unfollowed := true, recurses := true, apart := false }
def SheetsScriptSaid : Prop := sheetsScriptRow.holds Try.pinned (OpenSpec.ofChange sheetsScriptSpec)

/-- ITS FALSE NEIGHBOUR: 'it returns false'. Refute it at one input. -/
def sheetsScriptWrong : ChangeSpec := { name := "sheetsScript", fn := fun _ => fun
  | [d1, d2] => { results := [.lit (.bool false)], args := [d1, d2] }
  | _ => none }
def SheetsScriptWrongFalsely : Prop := sheetsScriptRow.holds Try.pinned (OpenSpec.ofChange sheetsScriptWrong)

/- THE SECOND FORM. 'bulk': how many values and letters a reading holds, each counted each time it is reached (what is shared counts as often as it is met; a slice's spare places count too). A statement '..UptoSaid' is the law's where the arguments, and the package variables that the reading takes, are together of bulk at most 1048576: NARROWER than '..Said'. Prove '..Said' where nothing that the law and all that it calls make is longer than what came in: it says more and counts as full. Else prove '..UptoSaid'. A law counts once. -/
mutual
def uptoBulk {H : Type} : DataW H → Nat
  | .lit (.string bytes) => bytes.length + 1
  | .lit _ => 1
  | .nil => 1
  | .ptr d => uptoBulk d + 1
  | .slice elems spare => uptoBulkAll elems + uptoBulkAll spare + 1
  | .agg parts => uptoBulkAll parts + 1
  | .iface _ d => uptoBulk d + 1
  | .map entries => uptoBulkEntries entries + 1
  | .held _ => 1
def uptoBulkAll {H : Type} : List (DataW H) → Nat
  | [] => 0
  | d :: r => uptoBulk d + uptoBulkAll r
def uptoBulkEntries {H : Type} : List (Lit × DataW H) → Nat
  | [] => 0
  | x :: r => uptoBulkEntry x + uptoBulkEntries r
def uptoBulkEntry {H : Type} : Lit × DataW H → Nat
  | (.string bytes, d) => bytes.length + uptoBulk d + 1
  | (_, d) => uptoBulk d + 1
 end
def uptoSmall : (H : Type) → List (DataW H) → Bool := fun _ ds => decide (uptoBulkAll ds ≤ 1048576)
def OpenSpec.upto (s : _root_.Go.ChangeSpec) : _root_.Go.OpenSpec := { _root_.Go.OpenSpec.ofChange s with cond := some uptoSmall }

/-- 'flotillalaw06.SheetsLooks', WHERE WHAT IT READS IS OF BULK AT MOST 1048576: true; the input reads as it did. -/
def sheetsLooksUptoRow : OpenClaim := { program := "ytaicpgkoailnkaa", sum := "7d8db87c8d71a44204286bce418b69ba1b4a8f637d37453a8549acf71fc84814", func := "flotilla/flotillalaw06.SheetsLooks", spec := "sheetsLooks", unfollowed := true, recurses := true, apart := false, narrowed := true }
def SheetsLooksUptoSaid : Prop := sheetsLooksUptoRow.holds Try.pinned (OpenSpec.upto sheetsLooksSpec)

/-- 'flotillalaw06.SheetsRange', WHERE WHAT IT READS IS OF BULK AT MOST 1048576: true; the input reads as it did. -/
def sheetsRangeUptoRow : OpenClaim := { program := "ytaicpgkoailnkaa", sum := "7d8db87c8d71a44204286bce418b69ba1b4a8f637d37453a8549acf71fc84814", func := "flotilla/flotillalaw06.SheetsRange", spec := "sheetsRange", unfollowed := true, recurses := true, apart := false, narrowed := true }
def SheetsRangeUptoSaid : Prop := sheetsRangeUptoRow.holds Try.pinned (OpenSpec.upto sheetsRangeSpec)

/-- 'flotillalaw06.SheetsCarry', WHERE WHAT IT READS IS OF BULK AT MOST 1048576: true; the input reads as it did. -/
def sheetsCarryUptoRow : OpenClaim := { program := "ytaicpgkoailnkaa", sum := "7d8db87c8d71a44204286bce418b69ba1b4a8f637d37453a8549acf71fc84814", func := "flotilla/flotillalaw06.SheetsCarry", spec := "sheetsCarry", unfollowed := true, recurses := true, apart := false, narrowed := true }
def SheetsCarryUptoSaid : Prop := sheetsCarryUptoRow.holds Try.pinned (OpenSpec.upto sheetsCarrySpec)

/-- 'flotillalaw06.SheetsScript', WHERE WHAT IT READS IS OF BULK AT MOST 1048576: true; the input reads as it did. -/
def sheetsScriptUptoRow : OpenClaim := { program := "ytaicpgkoailnkaa", sum := "7d8db87c8d71a44204286bce418b69ba1b4a8f637d37453a8549acf71fc84814", func := "flotilla/flotillalaw06.SheetsScript", spec := "sheetsScript", unfollowed := true, recurses := true, apart := false, narrowed := true }
def SheetsScriptUptoSaid : Prop := sheetsScriptUptoRow.holds Try.pinned (OpenSpec.upto sheetsScriptSpec)

end Rows
end Go.Proofs.Ytaicpgkoailnkaa
