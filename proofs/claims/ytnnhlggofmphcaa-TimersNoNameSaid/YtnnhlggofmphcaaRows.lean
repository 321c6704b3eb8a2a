/-
  No cell of these rows narrows 'for every input' (looked for: loops, veiled, ifaces, maps, wideKeys, modest, calm, conditions, laid).
  DERIVED. THE GIVEN ROWS OF THIS SEAT. 3 by the template 'for every input the law returns true; each argument reads behind the call as it read before'; 0 by the template 'total and deterministic' (their statements: YtnnhlggofmphcaaTotals.lean).
  GIVEN WITH THE SEED: the statements are not yours to turn. If you find one false, say at which input.
  Laid BY PROGRAM, IN A SANDBOX (cutbox-rows.mjs): the forced cells as the released guide's own fill.sh prints them over the translation 73707ad8e325035a… (all of the seat's roots in one cut). By AI agents, Wed Nov 11 2026. No macro, syntax, notation, axiom, sorry.
-/
import Derived.Test.YtnnhlggofmphcaaChecked
import GoSem.Claim
import GoSem.ClaimJoined
import GoSem.ClaimMapViews
import Derived.JoinedTies
import Derived.KernelRfl
namespace Go.Proofs.Ytnnhlggofmphcaa
/- THE CELL 'sum', in the pinned program and in every row, IS THE sha256 OF THE DUMP (.gsa) THAT YtnnhlggofmphcaaProg.lean LOADS. Nothing in Lean hashes anything: it is a label: what it is worth is what the hold of that sum in a sandbox is worth. -/
noncomputable def Try.pinned : Pinned := { name := "ytnnhlggofmphcaa", sum := "73707ad8e325035ab2f8185f1cf2cf08eb8858643d491008d27d7c1549e5412f", checked := Try.checked }
namespace Rows
def none {H : Type} : Left H := { results := [], args := [] }

/-- 'flotillalaw03.TimersNoName': WHATEVER THE INPUT: true; the input reads as it did. -/
def timersNoNameSpec : ChangeSpec := { name := "timersNoName", fn := fun _ => fun
  | [d1, d2] => { results := [.lit (.bool true)], args := [d1, d2] }
  | _ => none }
def timersNoNameRow : OpenClaim := { program := "ytnnhlggofmphcaa", sum := "73707ad8e325035ab2f8185f1cf2cf08eb8858643d491008d27d7c1549e5412f", func := "flotilla/flotillalaw03.TimersNoName", spec := "timersNoName", inPlace := ["math.Float64frombits"], unfollowed := true, recurses := true, apart := false }
def TimersNoNameSaid : Prop := timersNoNameRow.holds Try.pinned (OpenSpec.ofChange timersNoNameSpec)

/-- ITS FALSE NEIGHBOUR: 'it returns false'. Refute it at one input. -/
def timersNoNameWrong : ChangeSpec := { name := "timersNoName", fn := fun _ => fun
  | [d1, d2] => { results := [.lit (.bool false)], args := [d1, d2] }
  | _ => none }
def TimersNoNameWrongFalsely : Prop := timersNoNameRow.holds Try.pinned (OpenSpec.ofChange timersNoNameWrong)

/-- 'flotillalaw03.TimersScript': WHATEVER THE INPUT: true; the input reads as it did. -/
def timersScriptSpec : ChangeSpec := { name := "timersScript", fn := fun _ => fun
  | [d] => { results := [.lit (.bool true)], args := [d] }
  | _ => none }
def timersScriptRow : OpenClaim := { program := "ytnnhlggofmphcaa", sum := "73707ad8e325035ab2f8185f1cf2cf08eb8858643d491008d27d7c1549e5412f", func := "flotilla/flotillalaw03.TimersScript", spec := "timersScript", inPlace := ["maps.clone"], unfollowed := true, recurses := true, apart := false }
def TimersScriptSaid : Prop := timersScriptRow.holds Try.pinned (OpenSpec.ofChange timersScriptSpec)

/-- ITS FALSE NEIGHBOUR: 'it returns false'. Refute it at one input. -/
def timersScriptWrong : ChangeSpec := { name := "timersScript", fn := fun _ => fun
  | [d] => { results := [.lit (.bool false)], args := [d] }
  | _ => none }
def TimersScriptWrongFalsely : Prop := timersScriptRow.holds Try.pinned (OpenSpec.ofChange timersScriptWrong)

/-- 'flotillalaw03.TimersNumbers': WHATEVER THE INPUT: true; the input reads as it did. -/
def timersNumbersSpec : ChangeSpec := { name := "timersNumbers", fn := fun _ => fun
  | [d1, d2] => { results := [.lit (.bool true)], args := [d1, d2] }
  | _ => none }
def timersNumbersRow : OpenClaim := { program := "ytnnhlggofmphcaa", sum := "73707ad8e325035ab2f8185f1cf2cf08eb8858643d491008d27d7c1549e5412f", func := "flotilla/flotillalaw03.TimersNumbers", spec := "timersNumbers", inPlace := ["maps.clone"], unfollowed := true, recurses := true, apart := false }
def TimersNumbersSaid : Prop := timersNumbersRow.holds Try.pinned (OpenSpec.ofChange timersNumbersSpec)

/-- ITS FALSE NEIGHBOUR: 'it returns false'. Refute it at one input. -/
def timersNumbersWrong : ChangeSpec := { name := "timersNumbers", fn := fun _ => fun
  | [d1, d2] => { results := [.lit (.bool false)], args := [d1, d2] }
  | _ => none }
def TimersNumbersWrongFalsely : Prop := timersNumbersRow.holds Try.pinned (OpenSpec.ofChange timersNumbersWrong)

/- THE SECOND FORM. 'bulk': how many values and letters a reading holds, each counted each time it is reached (what is shared counts as often as it is met; a slice's spare places count too). A statement '..UptoSaid' is the law's where the arguments, and the package variables that the reading takes, are together of bulk at most 1048576: NARROWER than '..Said'. Prove '..Said' where nothing that the law and all that it calls make is longer than what came in: it says more and counts as full. Else prove '..UptoSaid'. A law counts once. -/
mutual
def uptoBulk {H : Type} : DataW H → Nat
  | .lit (.string bytes) => bytes.length + 1
  | .lit _ => 1
  | .nil => 1
  | .ptr d => uptoBulk d + 1
  | .slice elems spare => uptoBulkAll elems + uptoBulkAll spare + 1
  | .agg parts => uptoBulkAll parts + 1
  | .iface _ d => uptoBulk d + 1
  | .map entries => uptoBulkEntries entries + 1
  | .held _ => 1
def uptoBulkAll {H : Type} : List (DataW H) → Nat
  | [] => 0
  | d :: r => uptoBulk d + uptoBulkAll r
def uptoBulkEntries {H : Type} : List (Lit × DataW H) → Nat
  | [] => 0
  | x :: r => uptoBulkEntry x + uptoBulkEntries r
def uptoBulkEntry {H : Type} : Lit × DataW H → Nat
  | (.string bytes, d) => bytes.length + uptoBulk d + 1
  | (_, d) => uptoBulk d + 1
 end
def uptoSmall : (H : Type) → List (DataW H) → Bool := fun _ ds => decide (uptoBulkAll ds ≤ 1048576)
def OpenSpec.upto (s : _root_.Go.ChangeSpec) : _root_.Go.OpenSpec := { _root_.Go.OpenSpec.ofChange s with cond := some uptoSmall }

/-- 'flotillalaw03.TimersNoName', WHERE WHAT IT READS IS OF BULK AT MOST 1048576: true; the input reads as it did. -/
def timersNoNameUptoRow : OpenClaim := { program := "ytnnhlggofmphcaa", sum := "73707ad8e325035ab2f8185f1cf2cf08eb8858643d491008d27d7c1549e5412f", func := "flotilla/flotillalaw03.TimersNoName", spec := "timersNoName", inPlace := ["math.Float64frombits"], unfollowed := true, recurses := true, apart := false, narrowed := true }
def TimersNoNameUptoSaid : Prop := timersNoNameUptoRow.holds Try.pinned (OpenSpec.upto timersNoNameSpec)

/-- 'flotillalaw03.TimersScript', WHERE WHAT IT READS IS OF BULK AT MOST 1048576: true; the input reads as it did. -/
def timersScriptUptoRow : OpenClaim := { program := "ytnnhlggofmphcaa", sum := "73707ad8e325035ab2f8185f1cf2cf08eb8858643d491008d27d7c1549e5412f", func := "flotilla/flotillalaw03.TimersScript", spec := "timersScript", inPlace := ["maps.clone"], unfollowed := true, recurses := true, apart := false, narrowed := true }
def TimersScriptUptoSaid : Prop := timersScriptUptoRow.holds Try.pinned (OpenSpec.upto timersScriptSpec)

/-- 'flotillalaw03.TimersNumbers', WHERE WHAT IT READS IS OF BULK AT MOST 1048576: true; the input reads as it did. -/
def timersNumbersUptoRow : OpenClaim := { program := "ytnnhlggofmphcaa", sum := "73707ad8e325035ab2f8185f1cf2cf08eb8858643d491008d27d7c1549e5412f", func := "flotilla/flotillalaw03.TimersNumbers", spec := "timersNumbers", inPlace := ["maps.clone"], unfollowed := true, recurses := true, apart := false, narrowed := true }
def TimersNumbersUptoSaid : Prop := timersNumbersUptoRow.holds Try.pinned (OpenSpec.upto timersNumbersSpec)

end Rows
end Go.Proofs.Ytnnhlggofmphcaa
