/-
  No cell of these rows narrows 'for every input' (looked for: loops, veiled, ifaces, maps, wideKeys, modest, calm, conditions, laid).
  DERIVED. THE GIVEN ROWS OF THIS SEAT. 4 by the template 'for every input the law returns true; each argument reads behind the call as it read before'; 0 by the template 'total and deterministic' (their statements: YtlbffpojdfhefaaTotals.lean).
  GIVEN WITH THE SEED: the statements are not yours to turn. If you find one false, say at which input.
  Laid BY PROGRAM, IN A SANDBOX (cutbox-rows.mjs): the forced cells as the released guide's own fill.sh prints them over the translation 98c99d961022ad62… (all of the seat's roots in one cut). By AI agents, Wed Nov 11 2026. No macro, syntax, notation, axiom, sorry.
-/
import Derived.Test.YtlbffpojdfhefaaChecked
import GoSem.Claim
import GoSem.ClaimJoined
import GoSem.ClaimMapViews
import Derived.JoinedTies
import Derived.KernelRfl
namespace Go.Proofs.Ytlbffpojdfhefaa
/- THE CELL 'sum', in the pinned program and in every row, IS THE sha256 OF THE DUMP (.gsa) THAT YtlbffpojdfhefaaProg.lean LOADS. Nothing in Lean hashes anything: it is a label: what it is worth is what the hold of that sum in a sandbox is worth. -/
noncomputable def Try.pinned : Pinned := { name := "ytlbffpojdfhefaa", sum := "98c99d961022ad625736ea26c95e82629005f39c4b81b38da5587300a132d8cb", checked := Try.checked }
namespace Rows
def none {H : Type} : Left H := { results := [], args := [] }

/-- 'wattlelaw05.NthSpan': WHATEVER THE INPUT: true; the input reads as it did. -/
def nthSpanSpec : ChangeSpec := { name := "nthSpan", fn := fun _ => fun
  | [d1, d2] => { results := [.lit (.bool true)], args := [d1, d2] }
  | _ => none }
def nthSpanRow : OpenClaim := { program := "ytlbffpojdfhefaa", sum := "98c99d961022ad625736ea26c95e82629005f39c4b81b38da5587300a132d8cb", func := "wattle/wattlelaw05.NthSpan", spec := "nthSpan", unfollowed := true, recurses := true, apart := false }
def NthSpanSaid : Prop := nthSpanRow.holds Try.pinned (OpenSpec.ofChange nthSpanSpec)

/-- ITS FALSE NEIGHBOUR: 'it returns false'. Refute it at one input. -/
def nthSpanWrong : ChangeSpec := { name := "nthSpan", fn := fun _ => fun
  | [d1, d2] => { results := [.lit (.bool false)], args := [d1, d2] }
  | _ => none }
def NthSpanWrongFalsely : Prop := nthSpanRow.holds Try.pinned (OpenSpec.ofChange nthSpanWrong)

/-- 'wattlelaw05.NthMorgan': WHATEVER THE INPUT: true; the input reads as it did. -/
def nthMorganSpec : ChangeSpec := { name := "nthMorgan", fn := fun _ => fun
  | [d1, d2] => { results := [.lit (.bool true)], args := [d1, d2] }
  | _ => none }
def nthMorganRow : OpenClaim := { program := "ytlbffpojdfhefaa", sum := "98c99d961022ad625736ea26c95e82629005f39c4b81b38da5587300a132d8cb", func := "wattle/wattlelaw05.NthMorgan", spec := "nthMorgan", unfollowed := true, recurses := true, apart := false }
def NthMorganSaid : Prop := nthMorganRow.holds Try.pinned (OpenSpec.ofChange nthMorganSpec)

/-- ITS FALSE NEIGHBOUR: 'it returns false'. Refute it at one input. -/
def nthMorganWrong : ChangeSpec := { name := "nthMorgan", fn := fun _ => fun
  | [d1, d2] => { results := [.lit (.bool false)], args := [d1, d2] }
  | _ => none }
def NthMorganWrongFalsely : Prop := nthMorganRow.holds Try.pinned (OpenSpec.ofChange nthMorganWrong)

/-- 'wattlelaw05.NthOf': WHATEVER THE INPUT: true; the input reads as it did. -/
def nthOfSpec : ChangeSpec := { name := "nthOf", fn := fun _ => fun
  | [d] => { results := [.lit (.bool true)], args := [d] }
  | _ => none }
def nthOfRow : OpenClaim := { program := "ytlbffpojdfhefaa", sum := "98c99d961022ad625736ea26c95e82629005f39c4b81b38da5587300a132d8cb", func := "wattle/wattlelaw05.NthOf", spec := "nthOf", unfollowed := true, recurses := true, apart := false }
def NthOfSaid : Prop := nthOfRow.holds Try.pinned (OpenSpec.ofChange nthOfSpec)

/-- ITS FALSE NEIGHBOUR: 'it returns false'. Refute it at one input. -/
def nthOfWrong : ChangeSpec := { name := "nthOf", fn := fun _ => fun
  | [d] => { results := [.lit (.bool false)], args := [d] }
  | _ => none }
def NthOfWrongFalsely : Prop := nthOfRow.holds Try.pinned (OpenSpec.ofChange nthOfWrong)

/-- 'wattlelaw05.NthBoth': WHATEVER THE INPUT: true; the input reads as it did. -/
def nthBothSpec : ChangeSpec := { name := "nthBoth", fn := fun _ => fun
  | [d1, d2] => { results := [.lit (.bool true)], args := [d1, d2] }
  | _ => none }
def nthBothRow : OpenClaim := { program := "ytlbffpojdfhefaa", sum := "98c99d961022ad625736ea26c95e82629005f39c4b81b38da5587300a132d8cb", func := "wattle/wattlelaw05.NthBoth", spec := "nthBoth", unfollowed := true, recurses := true, apart := false }
def NthBothSaid : Prop := nthBothRow.holds Try.pinned (OpenSpec.ofChange nthBothSpec)

/-- ITS FALSE NEIGHBOUR: 'it returns false'. Refute it at one input. -/
def nthBothWrong : ChangeSpec := { name := "nthBoth", fn := fun _ => fun
  | [d1, d2] => { results := [.lit (.bool false)], args := [d1, d2] }
  | _ => none }
def NthBothWrongFalsely : Prop := nthBothRow.holds Try.pinned (OpenSpec.ofChange nthBothWrong)

/- THE SECOND FORM. 'bulk': how many values and letters a reading holds, each counted each time it is reached (what is shared counts as often as it is met; a slice's spare places count too). A statement '..UptoSaid' is the law's where the arguments, and the package variables that the reading takes, are together of bulk at most 1048576: NARROWER than '..Said'. Prove '..Said' where nothing that the law and all that it calls make is longer than what came in: it says more and counts as full. Else prove '..UptoSaid'. A law counts once. -/
mutual
def uptoBulk {H : Type} : DataW H → Nat
  | .lit (.string bytes) => bytes.length + 1
  | .lit _ => 1
  | .nil => 1
  | .ptr d => uptoBulk d + 1
  | .slice elems spare => uptoBulkAll elems + uptoBulkAll spare + 1
  | .agg parts => uptoBulkAll parts + 1
  | .iface _ d => uptoBulk d + 1
  | .map entries => uptoBulkEntries entries + 1
  | .held _ => 1
def uptoBulkAll {H : Type} : List (DataW H) → Nat
  | [] => 0
  | d :: r => uptoBulk d + uptoBulkAll r
def uptoBulkEntries {H : Type} : List (Lit × DataW H) → Nat
  | [] => 0
  | x :: r => uptoBulkEntry x + uptoBulkEntries r
def uptoBulkEntry {H : Type} : Lit × DataW H → Nat
  | (.string bytes, d) => bytes.length + uptoBulk d + 1
  | (_, d) => uptoBulk d + 1
 end
def uptoSmall : (H : Type) → List (DataW H) → Bool := fun _ ds => decide (uptoBulkAll ds ≤ 1048576)
def OpenSpec.upto (s : _root_.Go.ChangeSpec) : _root_.Go.OpenSpec := { _root_.Go.OpenSpec.ofChange s with cond := some uptoSmall }

/-- 'wattlelaw05.NthSpan', WHERE WHAT IT READS IS OF BULK AT MOST 1048576: true; the input reads as it did. -/
def nthSpanUptoRow : OpenClaim := { program := "ytlbffpojdfhefaa", sum := "98c99d961022ad625736ea26c95e82629005f39c4b81b38da5587300a132d8cb", func := "wattle/wattlelaw05.NthSpan", spec := "nthSpan", unfollowed := true, recurses := true, apart := false, narrowed := true }
def NthSpanUptoSaid : Prop := nthSpanUptoRow.holds Try.pinned (OpenSpec.upto nthSpanSpec)

/-- 'wattlelaw05.NthMorgan', WHERE WHAT IT READS IS OF BULK AT MOST 1048576: true; the input reads as it did. -/
def nthMorganUptoRow : OpenClaim := { program := "ytlbffpojdfhefaa", sum := "98c99d961022ad625736ea26c95e82629005f39c4b81b38da5587300a132d8cb", func := "wattle/wattlelaw05.NthMorgan", spec := "nthMorgan", unfollowed := true, recurses := true, apart := false, narrowed := true }
def NthMorganUptoSaid : Prop := nthMorganUptoRow.holds Try.pinned (OpenSpec.upto nthMorganSpec)

/-- 'wattlelaw05.NthOf', WHERE WHAT IT READS IS OF BULK AT MOST 1048576: true; the input reads as it did. -/
def nthOfUptoRow : OpenClaim := { program := "ytlbffpojdfhefaa", sum := "98c99d961022ad625736ea26c95e82629005f39c4b81b38da5587300a132d8cb", func := "wattle/wattlelaw05.NthOf", spec := "nthOf", unfollowed := true, recurses := true, apart := false, narrowed := true }
def NthOfUptoSaid : Prop := nthOfUptoRow.holds Try.pinned (OpenSpec.upto nthOfSpec)

/-- 'wattlelaw05.NthBoth', WHERE WHAT IT READS IS OF BULK AT MOST 1048576: true; the input reads as it did. -/
def nthBothUptoRow : OpenClaim := { program := "ytlbffpojdfhefaa", sum := "98c99d961022ad625736ea26c95e82629005f39c4b81b38da5587300a132d8cb", func := "wattle/wattlelaw05.NthBoth", spec := "nthBoth", unfollowed := true, recurses := true, apart := false, narrowed := true }
def NthBothUptoSaid : Prop := nthBothUptoRow.holds Try.pinned (OpenSpec.upto nthBothSpec)

end Rows
end Go.Proofs.Ytlbffpojdfhefaa
