/-
  NARROWER THAN 'FOR EVERY INPUT', by the rows' own cells (each row's printed sentence says how): FlatOrder: loops, laid · FlatCounts: loops, laid · FlatMakes: loops, laid.
  DERIVED. THE GIVEN ROWS OF THIS SEAT. 3 by the template 'for every input the law returns true; each argument reads behind the call as it read before'; 0 by the template 'total and deterministic' (their statements: YtapnplljnpconaaGreatDoorTotals.lean).
  GIVEN WITH THE SEED: the statements are not yours to turn. If you find one false, say at which input.
  Laid BY PROGRAM, IN A SANDBOX (cutbox-rows.mjs): the forced cells as the released guide's own fill.sh prints them over the translation 69ef301c818dd905… (all of the seat's roots in one cut). By AI agents, Wed Nov 11 2026. No macro, syntax, notation, axiom, sorry.
-/
import Derived.Test.YtapnplljnpconaaGreatDoorChecked
import GoSem.PinnedTables
import GoSem.Claim
import GoSem.ClaimJoined
import GoSem.ClaimMapViews
import Derived.JoinedTies
import Derived.KernelRfl
namespace Go.Proofs.YtapnplljnpconaaGreatDoor
/- THE CELL 'sum', in the pinned program and in every row, IS THE sha256 OF THE DUMP (.gsa) THAT YtapnplljnpconaaGreatDoorProg.lean LOADS. Nothing in Lean hashes anything: it is a label: what it is worth is what the hold of that sum in a sandbox is worth. -/
noncomputable def Tryz.pinned : Pinned := { name := "ytapnplljnpconaagreatdoor", sum := "69ef301c818dd905406fc96c97fd5a0ed5ecc23fbb0340ebc070a1080b16a1a9", checked := Tryz.checked }
namespace Rows
def none {H : Type} : Left H := { results := [], args := [] }

/- WHAT THE LISTED PACKAGE-LEVEL VARIABLES READ AS WHEN THE CALL BEGINS. Each datum BY PROGRAM (the guide's laid-datum.mjs) off the statement by which the dump's own 'gosem.cut.vars' lays the variable. In a bare row this is a premise. The card (YtapnplljnpconaaGreatDoorCards.lean) ties it to the program's text. -/
def laid_unicode_utf8_acceptRanges {H : Type} : DataW H := .agg [.agg [.lit (.int .u8 128), .lit (.int .u8 191)], .agg [.lit (.int .u8 160), .lit (.int .u8 191)], .agg [.lit (.int .u8 128), .lit (.int .u8 159)], .agg [.lit (.int .u8 144), .lit (.int .u8 191)], .agg [.lit (.int .u8 128), .lit (.int .u8 143)], .agg [.lit (.int .u8 0), .lit (.int .u8 0)], .agg [.lit (.int .u8 0), .lit (.int .u8 0)], .agg [.lit (.int .u8 0), .lit (.int .u8 0)], .agg [.lit (.int .u8 0), .lit (.int .u8 0)], .agg [.lit (.int .u8 0), .lit (.int .u8 0)], .agg [.lit (.int .u8 0), .lit (.int .u8 0)], .agg [.lit (.int .u8 0), .lit (.int .u8 0)], .agg [.lit (.int .u8 0), .lit (.int .u8 0)], .agg [.lit (.int .u8 0), .lit (.int .u8 0)], .agg [.lit (.int .u8 0), .lit (.int .u8 0)], .agg [.lit (.int .u8 0), .lit (.int .u8 0)]]
def laid_wattle_sel_states {H : Type} : DataW H := .agg [.lit (.string [104, 111, 118, 101, 114]), .lit (.string [97, 99, 116, 105, 118, 101]), .lit (.string [102, 111, 99, 117, 115]), .lit (.string [102, 111, 99, 117, 115, 45, 118, 105, 115, 105, 98, 108, 101]), .lit (.string [118, 105, 115, 105, 116, 101, 100]), .lit (.string [108, 105, 110, 107]), .lit (.string [99, 104, 101, 99, 107, 101, 100]), .lit (.string [100, 105, 115, 97, 98, 108, 101, 100]), .lit (.string [101, 110, 97, 98, 108, 101, 100]), .lit (.string [116, 97, 114, 103, 101, 116])]
def laid_wattle_sel_elements {H : Type} : DataW H := .agg [.lit (.string [98, 101, 102, 111, 114, 101]), .lit (.string [97, 102, 116, 101, 114]), .lit (.string [102, 105, 114, 115, 116, 45, 108, 105, 110, 101]), .lit (.string [102, 105, 114, 115, 116, 45, 108, 101, 116, 116, 101, 114]), .lit (.string [109, 97, 114, 107, 101, 114]), .lit (.string [115, 101, 108, 101, 99, 116, 105, 111, 110]), .lit (.string [112, 108, 97, 99, 101, 104, 111, 108, 100, 101, 114]), .lit (.string [98, 97, 99, 107, 100, 114, 111, 112])]
/-- One of Go's own tables, pinned by name: the form's constant. -/
def laid_unicode_utf8_first : DataW Unit := Go.Pinned.utf8First
def laid_errors_errorType {H : Type} : DataW H := .iface "internal/reflectlite.rtype" (.agg [.ptr (.lit (.string [101, 114, 114, 111, 114]))])

/-- 'wattlelaw14.FlatOrder': WHATEVER THE INPUT: true; the input reads as it did. -/
def flatOrderSpec : ChangeSpec := { name := "flatOrder", fn := fun _ => fun
  | [d1, d2] => { results := [.lit (.bool true)], args := [d1, d2] }
  | _ => none }
def flatOrderRow : OpenClaim := { program := "ytapnplljnpconaagreatdoor", sum := "69ef301c818dd905406fc96c97fd5a0ed5ecc23fbb0340ebc070a1080b16a1a9", func := "wattle/wattlelaw14.FlatOrder", spec := "flatOrder", unfollowed := true, recurses := true, named := ["unicode/utf8.first", "unicode/utf8.acceptRanges", "wattle/sel.states", "wattle/sel.elements"], loops := true, apart := false, laid := [("unicode/utf8.acceptRanges", laid_unicode_utf8_acceptRanges), ("wattle/sel.states", laid_wattle_sel_states), ("wattle/sel.elements", laid_wattle_sel_elements), ("unicode/utf8.first", laid_unicode_utf8_first)] }
def FlatOrderSaid : Prop := flatOrderRow.holds Tryz.pinned (OpenSpec.ofChange flatOrderSpec)

/-- ITS FALSE NEIGHBOUR: 'it returns false'. Refute it at one input. -/
def flatOrderWrong : ChangeSpec := { name := "flatOrder", fn := fun _ => fun
  | [d1, d2] => { results := [.lit (.bool false)], args := [d1, d2] }
  | _ => none }
def FlatOrderWrongFalsely : Prop := flatOrderRow.holds Tryz.pinned (OpenSpec.ofChange flatOrderWrong)

/-- 'wattlelaw14.FlatCounts': WHATEVER THE INPUT: true; the input reads as it did. -/
def flatCountsSpec : ChangeSpec := { name := "flatCounts", fn := fun _ => fun
  | [d1, d2, d3] => { results := [.lit (.bool true)], args := [d1, d2, d3] }
  | _ => none }
def flatCountsRow : OpenClaim := { program := "ytapnplljnpconaagreatdoor", sum := "69ef301c818dd905406fc96c97fd5a0ed5ecc23fbb0340ebc070a1080b16a1a9", func := "wattle/wattlelaw14.FlatCounts", spec := "flatCounts", unfollowed := true, recurses := true, named := ["unicode/utf8.first", "unicode/utf8.acceptRanges", "wattle/sel.states", "wattle/sel.elements"], loops := true, apart := false, laid := [("unicode/utf8.acceptRanges", laid_unicode_utf8_acceptRanges), ("wattle/sel.states", laid_wattle_sel_states), ("wattle/sel.elements", laid_wattle_sel_elements), ("unicode/utf8.first", laid_unicode_utf8_first)] }
def FlatCountsSaid : Prop := flatCountsRow.holds Tryz.pinned (OpenSpec.ofChange flatCountsSpec)

/-- ITS FALSE NEIGHBOUR: 'it returns false'. Refute it at one input. -/
def flatCountsWrong : ChangeSpec := { name := "flatCounts", fn := fun _ => fun
  | [d1, d2, d3] => { results := [.lit (.bool false)], args := [d1, d2, d3] }
  | _ => none }
def FlatCountsWrongFalsely : Prop := flatCountsRow.holds Tryz.pinned (OpenSpec.ofChange flatCountsWrong)

/-- 'wattlelaw14.FlatMakes': WHATEVER THE INPUT: true; the input reads as it did. -/
def flatMakesSpec : ChangeSpec := { name := "flatMakes", fn := fun _ => fun
  | [d1, d2] => { results := [.lit (.bool true)], args := [d1, d2] }
  | _ => none }
def flatMakesRow : OpenClaim := { program := "ytapnplljnpconaagreatdoor", sum := "69ef301c818dd905406fc96c97fd5a0ed5ecc23fbb0340ebc070a1080b16a1a9", func := "wattle/wattlelaw14.FlatMakes", spec := "flatMakes", inPlace := ["internal/reflectlite.ValueOf", "(internal/reflectlite.Value).Type", "(internal/reflectlite.Value).IsNil", "internal/reflectlite.TypeOf", "(internal/reflectlite.Value).Elem", "(internal/reflectlite.Value).Set"], unfollowed := true, recurses := true, named := ["unicode/utf8.first", "unicode/utf8.acceptRanges", "wattle/sel.states", "wattle/sel.elements", "errors.errorType"], loops := true, apart := false, laid := [("unicode/utf8.acceptRanges", laid_unicode_utf8_acceptRanges), ("errors.errorType", laid_errors_errorType), ("wattle/sel.states", laid_wattle_sel_states), ("wattle/sel.elements", laid_wattle_sel_elements), ("unicode/utf8.first", laid_unicode_utf8_first)] }
def FlatMakesSaid : Prop := flatMakesRow.holds Tryz.pinned (OpenSpec.ofChange flatMakesSpec)

/-- ITS FALSE NEIGHBOUR: 'it returns false'. Refute it at one input. -/
def flatMakesWrong : ChangeSpec := { name := "flatMakes", fn := fun _ => fun
  | [d1, d2] => { results := [.lit (.bool false)], args := [d1, d2] }
  | _ => none }
def FlatMakesWrongFalsely : Prop := flatMakesRow.holds Tryz.pinned (OpenSpec.ofChange flatMakesWrong)

/- THE SECOND FORM. 'bulk': how many values and letters a reading holds, each counted each time it is reached (what is shared counts as often as it is met; a slice's spare places count too). A statement '..UptoSaid' is the law's where the arguments, and the package variables that the reading takes, are together of bulk at most 1048576: NARROWER than '..Said'. Prove '..Said' where nothing that the law and all that it calls make is longer than what came in: it says more and counts as full. Else prove '..UptoSaid'. A law counts once. -/
mutual
def uptoBulk {H : Type} : DataW H → Nat
  | .lit (.string bytes) => bytes.length + 1
  | .lit _ => 1
  | .nil => 1
  | .ptr d => uptoBulk d + 1
  | .slice elems spare => uptoBulkAll elems + uptoBulkAll spare + 1
  | .agg parts => uptoBulkAll parts + 1
  | .iface _ d => uptoBulk d + 1
  | .map entries => uptoBulkEntries entries + 1
  | .held _ => 1
def uptoBulkAll {H : Type} : List (DataW H) → Nat
  | [] => 0
  | d :: r => uptoBulk d + uptoBulkAll r
def uptoBulkEntries {H : Type} : List (Lit × DataW H) → Nat
  | [] => 0
  | x :: r => uptoBulkEntry x + uptoBulkEntries r
def uptoBulkEntry {H : Type} : Lit × DataW H → Nat
  | (.string bytes, d) => bytes.length + uptoBulk d + 1
  | (_, d) => uptoBulk d + 1
 end
def uptoSmall : (H : Type) → List (DataW H) → Bool := fun _ ds => decide (uptoBulkAll ds ≤ 1048576)
def OpenSpec.upto (s : _root_.Go.ChangeSpec) : _root_.Go.OpenSpec := { _root_.Go.OpenSpec.ofChange s with cond := some uptoSmall }

/-- 'wattlelaw14.FlatOrder', WHERE WHAT IT READS IS OF BULK AT MOST 1048576: true; the input reads as it did. -/
def flatOrderUptoRow : OpenClaim := { program := "ytapnplljnpconaagreatdoor", sum := "69ef301c818dd905406fc96c97fd5a0ed5ecc23fbb0340ebc070a1080b16a1a9", func := "wattle/wattlelaw14.FlatOrder", spec := "flatOrder", unfollowed := true, recurses := true, named := ["unicode/utf8.first", "unicode/utf8.acceptRanges", "wattle/sel.states", "wattle/sel.elements"], loops := true, apart := false, laid := [("unicode/utf8.acceptRanges", laid_unicode_utf8_acceptRanges), ("wattle/sel.states", laid_wattle_sel_states), ("wattle/sel.elements", laid_wattle_sel_elements), ("unicode/utf8.first", laid_unicode_utf8_first)], narrowed := true }
def FlatOrderUptoSaid : Prop := flatOrderUptoRow.holds Tryz.pinned (OpenSpec.upto flatOrderSpec)

/-- 'wattlelaw14.FlatCounts', WHERE WHAT IT READS IS OF BULK AT MOST 1048576: true; the input reads as it did. -/
def flatCountsUptoRow : OpenClaim := { program := "ytapnplljnpconaagreatdoor", sum := "69ef301c818dd905406fc96c97fd5a0ed5ecc23fbb0340ebc070a1080b16a1a9", func := "wattle/wattlelaw14.FlatCounts", spec := "flatCounts", unfollowed := true, recurses := true, named := ["unicode/utf8.first", "unicode/utf8.acceptRanges", "wattle/sel.states", "wattle/sel.elements"], loops := true, apart := false, laid := [("unicode/utf8.acceptRanges", laid_unicode_utf8_acceptRanges), ("wattle/sel.states", laid_wattle_sel_states), ("wattle/sel.elements", laid_wattle_sel_elements), ("unicode/utf8.first", laid_unicode_utf8_first)], narrowed := true }
def FlatCountsUptoSaid : Prop := flatCountsUptoRow.holds Tryz.pinned (OpenSpec.upto flatCountsSpec)

/-- 'wattlelaw14.FlatMakes', WHERE WHAT IT READS IS OF BULK AT MOST 1048576: true; the input reads as it did. -/
def flatMakesUptoRow : OpenClaim := { program := "ytapnplljnpconaagreatdoor", sum := "69ef301c818dd905406fc96c97fd5a0ed5ecc23fbb0340ebc070a1080b16a1a9", func := "wattle/wattlelaw14.FlatMakes", spec := "flatMakes", inPlace := ["internal/reflectlite.ValueOf", "(internal/reflectlite.Value).Type", "(internal/reflectlite.Value).IsNil", "internal/reflectlite.TypeOf", "(internal/reflectlite.Value).Elem", "(internal/reflectlite.Value).Set"], unfollowed := true, recurses := true, named := ["unicode/utf8.first", "unicode/utf8.acceptRanges", "wattle/sel.states", "wattle/sel.elements", "errors.errorType"], loops := true, apart := false, laid := [("unicode/utf8.acceptRanges", laid_unicode_utf8_acceptRanges), ("errors.errorType", laid_errors_errorType), ("wattle/sel.states", laid_wattle_sel_states), ("wattle/sel.elements", laid_wattle_sel_elements), ("unicode/utf8.first", laid_unicode_utf8_first)], narrowed := true }
def FlatMakesUptoSaid : Prop := flatMakesUptoRow.holds Tryz.pinned (OpenSpec.upto flatMakesSpec)

end Rows
end Go.Proofs.YtapnplljnpconaaGreatDoor
