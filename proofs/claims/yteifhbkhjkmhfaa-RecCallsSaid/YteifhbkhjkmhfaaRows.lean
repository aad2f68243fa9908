/-
  No cell of these rows narrows 'for every input' (looked for: loops, veiled, ifaces, maps, wideKeys, modest, calm, conditions, laid).
  DERIVED. THE GIVEN ROWS OF THIS SEAT. 2 by the template 'for every input the law returns true; each argument reads behind the call as it read before'; 0 by the template 'total and deterministic' (their statements: YteifhbkhjkmhfaaTotals.lean).
  GIVEN WITH THE SEED: the statements are not yours to turn. If you find one false, say at which input.
  Laid BY PROGRAM, IN A SANDBOX (cutbox-rows.mjs): the forced cells as the released guide's own fill.sh prints them over the translation 8527266b7f723ff0… (all of the seat's roots in one cut). By AI agents, Wed Nov 11 2026. No macro, syntax, notation, axiom, sorry.
-/
import Derived.Test.YteifhbkhjkmhfaaChecked
import GoSem.Claim
import GoSem.ClaimJoined
import GoSem.ClaimMapViews
import Derived.JoinedTies
import Derived.KernelRfl
namespace Go.Proofs.Yteifhbkhjkmhfaa
/- THE CELL 'sum', in the pinned program and in every row, IS THE sha256 OF THE DUMP (.gsa) THAT YteifhbkhjkmhfaaProg.lean LOADS. Nothing in Lean hashes anything: it is a label: what it is worth is what the hold of that sum in a sandbox is worth. -/
noncomputable def Try.pinned : Pinned := { name := "yteifhbkhjkmhfaa", sum := "8527266b7f723ff005970aafc0b202317a8e422d7528df9d44ebfafac3eb8ca6", checked := Try.checked }
namespace Rows
def none {H : Type} : Left H := { results := [], args := [] }

/-- 'stilemanlaw21.RuleExcludes': WHATEVER THE INPUT: true; the input reads as it did. -/
def ruleExcludesSpec : ChangeSpec := { name := "ruleExcludes", fn := fun _ => fun
  | [d1, d2, d3] => { results := [.lit (.bool true)], args := [d1, d2, d3] }
  | _ => none }
def ruleExcludesRow : OpenClaim := { program := "yteifhbkhjkmhfaa", sum := "8527266b7f723ff005970aafc0b202317a8e422d7528df9d44ebfafac3eb8ca6", func := "stileman/stilemanlaw21.RuleExcludes", spec := "ruleExcludes", unfollowed := true, recurses := true, apart := false }
def RuleExcludesSaid : Prop := ruleExcludesRow.holds Try.pinned (OpenSpec.ofChange ruleExcludesSpec)

/-- ITS FALSE NEIGHBOUR: 'it returns false'. Refute it at one input. -/
def ruleExcludesWrong : ChangeSpec := { name := "ruleExcludes", fn := fun _ => fun
  | [d1, d2, d3] => { results := [.lit (.bool false)], args := [d1, d2, d3] }
  | _ => none }
def RuleExcludesWrongFalsely : Prop := ruleExcludesRow.holds Try.pinned (OpenSpec.ofChange ruleExcludesWrong)

/-- 'stilemanlaw20.RecCalls': WHATEVER THE INPUT: true; the input reads as it did. -/
def recCallsSpec : ChangeSpec := { name := "recCalls", fn := fun _ => fun
  | [d] => { results := [.lit (.bool true)], args := [d] }
  | _ => none }
def recCallsRow : OpenClaim := { program := "yteifhbkhjkmhfaa", sum := "8527266b7f723ff005970aafc0b202317a8e422d7528df9d44ebfafac3eb8ca6", func := "stileman/stilemanlaw20.RecCalls", spec := "recCalls", unfollowed := true, recurses := true, apart := false }
def RecCallsSaid : Prop := recCallsRow.holds Try.pinned (OpenSpec.ofChange recCallsSpec)

/-- ITS FALSE NEIGHBOUR: 'it returns false'. Refute it at one input. -/
def recCallsWrong : ChangeSpec := { name := "recCalls", fn := fun _ => fun
  | [d] => { results := [.lit (.bool false)], args := [d] }
  | _ => none }
def RecCallsWrongFalsely : Prop := recCallsRow.holds Try.pinned (OpenSpec.ofChange recCallsWrong)

/- THE SECOND FORM. 'bulk': how many values and letters a reading holds, each counted each time it is reached (what is shared counts as often as it is met; a slice's spare places count too). A statement '..UptoSaid' is the law's where the arguments, and the package variables that the reading takes, are together of bulk at most 1048576: NARROWER than '..Said'. Prove '..Said' where nothing that the law and all that it calls make is longer than what came in: it says more and counts as full. Else prove '..UptoSaid'. A law counts once. -/
mutual
def uptoBulk {H : Type} : DataW H → Nat
  | .lit (.string bytes) => bytes.length + 1
  | .lit _ => 1
  | .nil => 1
  | .ptr d => uptoBulk d + 1
  | .slice elems spare => uptoBulkAll elems + uptoBulkAll spare + 1
  | .agg parts => uptoBulkAll parts + 1
  | .iface _ d => uptoBulk d + 1
  | .map entries => uptoBulkEntries entries + 1
  | .held _ => 1
def uptoBulkAll {H : Type} : List (DataW H) → Nat
  | [] => 0
  | d :: r => uptoBulk d + uptoBulkAll r
def uptoBulkEntries {H : Type} : List (Lit × DataW H) → Nat
  | [] => 0
  | x :: r => uptoBulkEntry x + uptoBulkEntries r
def uptoBulkEntry {H : Type} : Lit × DataW H → Nat
  | (.string bytes, d) => bytes.length + uptoBulk d + 1
  | (_, d) => uptoBulk d + 1
 end
def uptoSmall : (H : Type) → List (DataW H) → Bool := fun _ ds => decide (uptoBulkAll ds ≤ 1048576)
def OpenSpec.upto (s : _root_.Go.ChangeSpec) : _root_.Go.OpenSpec := { _root_.Go.OpenSpec.ofChange s with cond := some uptoSmall }

/-- 'stilemanlaw21.RuleExcludes', WHERE WHAT IT READS IS OF BULK AT MOST 1048576: true; the input reads as it did. -/
def ruleExcludesUptoRow : OpenClaim := { program := "yteifhbkhjkmhfaa", sum := "8527266b7f723ff005970aafc0b202317a8e422d7528df9d44ebfafac3eb8ca6", func := "stileman/stilemanlaw21.RuleExcludes", spec := "ruleExcludes", unfollowed := true, recurses := true, apart := false, narrowed := true }
def RuleExcludesUptoSaid : Prop := ruleExcludesUptoRow.holds Try.pinned (OpenSpec.upto ruleExcludesSpec)

/-- 'stilemanlaw20.RecCalls', WHERE WHAT IT READS IS OF BULK AT MOST 1048576: true; the input reads as it did. -/
def recCallsUptoRow : OpenClaim := { program := "yteifhbkhjkmhfaa", sum := "8527266b7f723ff005970aafc0b202317a8e422d7528df9d44ebfafac3eb8ca6", func := "stileman/stilemanlaw20.RecCalls", spec := "recCalls", unfollowed := true, recurses := true, apart := false, narrowed := true }
def RecCallsUptoSaid : Prop := recCallsUptoRow.holds Try.pinned (OpenSpec.upto recCallsSpec)

end Rows
end Go.Proofs.Yteifhbkhjkmhfaa
