/-
  No cell of these rows narrows 'for every input' (looked for: loops, veiled, ifaces, maps, wideKeys, modest, calm, conditions, laid).
  DERIVED. THE GIVEN ROWS OF THIS SEAT. 7 by the template 'for every input the law returns true; each argument reads behind the call as it read before'; 0 by the template 'total and deterministic' (their statements: YtlbneinfejnaaaaTotals.lean).
  GIVEN WITH THE SEED: the statements are not yours to turn. If you find one false, say at which input.
  Laid BY PROGRAM, IN A SANDBOX (cutbox-rows.mjs): the forced cells as the released guide's own fill.sh prints them over the translation 5d29adfd020f3cd8… (all of the seat's roots in one cut). By AI agents, Wed Nov 11 2026. No macro, syntax, notation, axiom, sorry.
-/
import Derived.Test.YtlbneinfejnaaaaChecked
import GoSem.Claim
import GoSem.ClaimJoined
import GoSem.ClaimMapViews
import Derived.JoinedTies
import Derived.KernelRfl
namespace Go.Proofs.Ytlbneinfejnaaaa
/- THE CELL 'sum', in the pinned program and in every row, IS THE sha256 OF THE DUMP (.gsa) THAT YtlbneinfejnaaaaProg.lean LOADS. Nothing in Lean hashes anything: it is a label: what it is worth is what the hold of that sum in a sandbox is worth. -/
noncomputable def Try.pinned : Pinned := { name := "ytlbneinfejnaaaa", sum := "5d29adfd020f3cd8220142b46b983974ee8fede7fe3061adae69385d2e939705", checked := Try.checked }
namespace Rows
def none {H : Type} : Left H := { results := [], args := [] }

/-- 'ensemblelaw09.OrderTotal': WHATEVER THE INPUT: true; the input reads as it did. -/
def orderTotalSpec : ChangeSpec := { name := "orderTotal", fn := fun _ => fun
  | [d1, d2, d3, d4, d5] => { results := [.lit (.bool true)], args := [d1, d2, d3, d4, d5] }
  | _ => none }
def orderTotalRow : OpenClaim := { program := "ytlbneinfejnaaaa", sum := "5d29adfd020f3cd8220142b46b983974ee8fede7fe3061adae69385d2e939705", func := "ensemble/ensemblelaw09.OrderTotal", spec := "orderTotal", unfollowed := true, recurses := true, apart := false }
def OrderTotalSaid : Prop := orderTotalRow.holds Try.pinned (OpenSpec.ofChange orderTotalSpec)

/-- ITS FALSE NEIGHBOUR: 'it returns false'. Refute it at one input. -/
def orderTotalWrong : ChangeSpec := { name := "orderTotal", fn := fun _ => fun
  | [d1, d2, d3, d4, d5] => { results := [.lit (.bool false)], args := [d1, d2, d3, d4, d5] }
  | _ => none }
def OrderTotalWrongFalsely : Prop := orderTotalRow.holds Try.pinned (OpenSpec.ofChange orderTotalWrong)

/-- 'ensemblelaw09.OrderHelps': WHATEVER THE INPUT: true; the input reads as it did. -/
def orderHelpsSpec : ChangeSpec := { name := "orderHelps", fn := fun _ => fun
  | [d1, d2, d3, d4, d5, d6, d7] => { results := [.lit (.bool true)], args := [d1, d2, d3, d4, d5, d6, d7] }
  | _ => none }
def orderHelpsRow : OpenClaim := { program := "ytlbneinfejnaaaa", sum := "5d29adfd020f3cd8220142b46b983974ee8fede7fe3061adae69385d2e939705", func := "ensemble/ensemblelaw09.OrderHelps", spec := "orderHelps", unfollowed := true, recurses := true, apart := false }
def OrderHelpsSaid : Prop := orderHelpsRow.holds Try.pinned (OpenSpec.ofChange orderHelpsSpec)

/-- ITS FALSE NEIGHBOUR: 'it returns false'. Refute it at one input. -/
def orderHelpsWrong : ChangeSpec := { name := "orderHelps", fn := fun _ => fun
  | [d1, d2, d3, d4, d5, d6, d7] => { results := [.lit (.bool false)], args := [d1, d2, d3, d4, d5, d6, d7] }
  | _ => none }
def OrderHelpsWrongFalsely : Prop := orderHelpsRow.holds Try.pinned (OpenSpec.ofChange orderHelpsWrong)

/-- 'ensemblelaw09.OrderShifts': WHATEVER THE INPUT: true; the input reads as it did. -/
def orderShiftsSpec : ChangeSpec := { name := "orderShifts", fn := fun _ => fun
  | [d1, d2, d3, d4, d5] => { results := [.lit (.bool true)], args := [d1, d2, d3, d4, d5] }
  | _ => none }
def orderShiftsRow : OpenClaim := { program := "ytlbneinfejnaaaa", sum := "5d29adfd020f3cd8220142b46b983974ee8fede7fe3061adae69385d2e939705", func := "ensemble/ensemblelaw09.OrderShifts", spec := "orderShifts", unfollowed := true, recurses := true, apart := false }
def OrderShiftsSaid : Prop := orderShiftsRow.holds Try.pinned (OpenSpec.ofChange orderShiftsSpec)

/-- ITS FALSE NEIGHBOUR: 'it returns false'. Refute it at one input. -/
def orderShiftsWrong : ChangeSpec := { name := "orderShifts", fn := fun _ => fun
  | [d1, d2, d3, d4, d5] => { results := [.lit (.bool false)], args := [d1, d2, d3, d4, d5] }
  | _ => none }
def OrderShiftsWrongFalsely : Prop := orderShiftsRow.holds Try.pinned (OpenSpec.ofChange orderShiftsWrong)

/-- 'ensemblelaw09.OrderTells': WHATEVER THE INPUT: true; the input reads as it did. -/
def orderTellsSpec : ChangeSpec := { name := "orderTells", fn := fun _ => fun
  | [d1, d2, d3, d4] => { results := [.lit (.bool true)], args := [d1, d2, d3, d4] }
  | _ => none }
def orderTellsRow : OpenClaim := { program := "ytlbneinfejnaaaa", sum := "5d29adfd020f3cd8220142b46b983974ee8fede7fe3061adae69385d2e939705", func := "ensemble/ensemblelaw09.OrderTells", spec := "orderTells", unfollowed := true, recurses := true, apart := false }
def OrderTellsSaid : Prop := orderTellsRow.holds Try.pinned (OpenSpec.ofChange orderTellsSpec)

/-- ITS FALSE NEIGHBOUR: 'it returns false'. Refute it at one input. -/
def orderTellsWrong : ChangeSpec := { name := "orderTells", fn := fun _ => fun
  | [d1, d2, d3, d4] => { results := [.lit (.bool false)], args := [d1, d2, d3, d4] }
  | _ => none }
def OrderTellsWrongFalsely : Prop := orderTellsRow.holds Try.pinned (OpenSpec.ofChange orderTellsWrong)

/-- 'ensemblelaw09.OrderAges': WHATEVER THE INPUT: true; the input reads as it did. -/
def orderAgesSpec : ChangeSpec := { name := "orderAges", fn := fun _ => fun
  | [d1, d2, d3, d4, d5] => { results := [.lit (.bool true)], args := [d1, d2, d3, d4, d5] }
  | _ => none }
def orderAgesRow : OpenClaim := { program := "ytlbneinfejnaaaa", sum := "5d29adfd020f3cd8220142b46b983974ee8fede7fe3061adae69385d2e939705", func := "ensemble/ensemblelaw09.OrderAges", spec := "orderAges", unfollowed := true, recurses := true, apart := false }
def OrderAgesSaid : Prop := orderAgesRow.holds Try.pinned (OpenSpec.ofChange orderAgesSpec)

/-- ITS FALSE NEIGHBOUR: 'it returns false'. Refute it at one input. -/
def orderAgesWrong : ChangeSpec := { name := "orderAges", fn := fun _ => fun
  | [d1, d2, d3, d4, d5] => { results := [.lit (.bool false)], args := [d1, d2, d3, d4, d5] }
  | _ => none }
def OrderAgesWrongFalsely : Prop := orderAgesRow.holds Try.pinned (OpenSpec.ofChange orderAgesWrong)

/-- 'ensemblelaw09.OrderSorts': WHATEVER THE INPUT: true; the input reads as it did. -/
def orderSortsSpec : ChangeSpec := { name := "orderSorts", fn := fun _ => fun
  | [d1, d2, d3] => { results := [.lit (.bool true)], args := [d1, d2, d3] }
  | _ => none }
def orderSortsRow : OpenClaim := { program := "ytlbneinfejnaaaa", sum := "5d29adfd020f3cd8220142b46b983974ee8fede7fe3061adae69385d2e939705", func := "ensemble/ensemblelaw09.OrderSorts", spec := "orderSorts", unfollowed := true, recurses := true, apart := false }
def OrderSortsSaid : Prop := orderSortsRow.holds Try.pinned (OpenSpec.ofChange orderSortsSpec)

/-- ITS FALSE NEIGHBOUR: 'it returns false'. Refute it at one input. -/
def orderSortsWrong : ChangeSpec := { name := "orderSorts", fn := fun _ => fun
  | [d1, d2, d3] => { results := [.lit (.bool false)], args := [d1, d2, d3] }
  | _ => none }
def OrderSortsWrongFalsely : Prop := orderSortsRow.holds Try.pinned (OpenSpec.ofChange orderSortsWrong)

/-- 'ensemblelaw09.OrderTurns': WHATEVER THE INPUT: true; the input reads as it did. -/
def orderTurnsSpec : ChangeSpec := { name := "orderTurns", fn := fun _ => fun
  | [d1, d2, d3, d4] => { results := [.lit (.bool true)], args := [d1, d2, d3, d4] }
  | _ => none }
def orderTurnsRow : OpenClaim := { program := "ytlbneinfejnaaaa", sum := "5d29adfd020f3cd8220142b46b983974ee8fede7fe3061adae69385d2e939705", func := "ensemble/ensemblelaw09.OrderTurns", spec := "orderTurns", unfollowed := true, recurses := true, apart := false }
def OrderTurnsSaid : Prop := orderTurnsRow.holds Try.pinned (OpenSpec.ofChange orderTurnsSpec)

/-- ITS FALSE NEIGHBOUR: 'it returns false'. Refute it at one input. -/
def orderTurnsWrong : ChangeSpec := { name := "orderTurns", fn := fun _ => fun
  | [d1, d2, d3, d4] => { results := [.lit (.bool false)], args := [d1, d2, d3, d4] }
  | _ => none }
def OrderTurnsWrongFalsely : Prop := orderTurnsRow.holds Try.pinned (OpenSpec.ofChange orderTurnsWrong)

/- THE SECOND FORM. 'bulk': how many values and letters a reading holds, each counted each time it is reached (what is shared counts as often as it is met; a slice's spare places count too). A statement '..UptoSaid' is the law's where the arguments, and the package variables that the reading takes, are together of bulk at most 1048576: NARROWER than '..Said'. Prove '..Said' where nothing that the law and all that it calls make is longer than what came in: it says more and counts as full. Else prove '..UptoSaid'. A law counts once. -/
mutual
def uptoBulk {H : Type} : DataW H → Nat
  | .lit (.string bytes) => bytes.length + 1
  | .lit _ => 1
  | .nil => 1
  | .ptr d => uptoBulk d + 1
  | .slice elems spare => uptoBulkAll elems + uptoBulkAll spare + 1
  | .agg parts => uptoBulkAll parts + 1
  | .iface _ d => uptoBulk d + 1
  | .map entries => uptoBulkEntries entries + 1
  | .held _ => 1
def uptoBulkAll {H : Type} : List (DataW H) → Nat
  | [] => 0
  | d :: r => uptoBulk d + uptoBulkAll r
def uptoBulkEntries {H : Type} : List (Lit × DataW H) → Nat
  | [] => 0
  | x :: r => uptoBulkEntry x + uptoBulkEntries r
def uptoBulkEntry {H : Type} : Lit × DataW H → Nat
  | (.string bytes, d) => bytes.length + uptoBulk d + 1
  | (_, d) => uptoBulk d + 1
 end
def uptoSmall : (H : Type) → List (DataW H) → Bool := fun _ ds => decide (uptoBulkAll ds ≤ 1048576)
def OpenSpec.upto (s : _root_.Go.ChangeSpec) : _root_.Go.OpenSpec := { _root_.Go.OpenSpec.ofChange s with cond := some uptoSmall }

/-- 'ensemblelaw09.OrderTotal', WHERE WHAT IT READS IS OF BULK AT MOST 1048576: true; the input reads as it did. -/
def orderTotalUptoRow : OpenClaim := { program := "ytlbneinfejnaaaa", sum := "5d29adfd020f3cd8220142b46b983974ee8fede7fe3061adae69385d2e939705", func := "ensemble/ensemblelaw09.OrderTotal", spec := "orderTotal", unfollowed := true, recurses := true, apart := false, narrowed := true }
def OrderTotalUptoSaid : Prop := orderTotalUptoRow.holds Try.pinned (OpenSpec.upto orderTotalSpec)

/-- 'ensemblelaw09.OrderHelps', WHERE WHAT IT READS IS OF BULK AT MOST 1048576: true; the input reads as it did. -/
def orderHelpsUptoRow : OpenClaim := { program := "ytlbneinfejnaaaa", sum := "5d29adfd020f3cd8220142b46b983974ee8fede7fe3061adae69385d2e939705", func := "ensemble/ensemblelaw09.OrderHelps", spec := "orderHelps", unfollowed := true, recurses := true, apart := false, narrowed := true }
def OrderHelpsUptoSaid : Prop := orderHelpsUptoRow.holds Try.pinned (OpenSpec.upto orderHelpsSpec)

/-- 'ensemblelaw09.OrderShifts', WHERE WHAT IT READS IS OF BULK AT MOST 1048576: true; the input reads as it did. -/
def orderShiftsUptoRow : OpenClaim := { program := "ytlbneinfejnaaaa", sum := "5d29adfd020f3cd8220142b46b983974ee8fede7fe3061adae69385d2e939705", func := "ensemble/ensemblelaw09.OrderShifts", spec := "orderShifts", unfollowed := true, recurses := true, apart := false, narrowed := true }
def OrderShiftsUptoSaid : Prop := orderShiftsUptoRow.holds Try.pinned (OpenSpec.upto orderShiftsSpec)

/-- 'ensemblelaw09.OrderTells', WHERE WHAT IT READS IS OF BULK AT MOST 1048576: true; the input reads as it did. -/
def orderTellsUptoRow : OpenClaim := { program := "ytlbneinfejnaaaa", sum := "5d29adfd020f3cd8220142b46b983974ee8fede7fe3061adae69385d2e939705", func := "ensemble/ensemblelaw09.OrderTells", spec := "orderTells", unfollowed := true, recurses := true, apart := false, narrowed := true }
def OrderTellsUptoSaid : Prop := orderTellsUptoRow.holds Try.pinned (OpenSpec.upto orderTellsSpec)

/-- 'ensemblelaw09.OrderAges', WHERE WHAT IT READS IS OF BULK AT MOST 1048576: true; the input reads as it did. -/
def orderAgesUptoRow : OpenClaim := { program := "ytlbneinfejnaaaa", sum := "5d29adfd020f3cd8220142b46b983974ee8fede7fe3061adae69385d2e939705", func := "ensemble/ensemblelaw09.OrderAges", spec := "orderAges", unfollowed := true, recurses := true, apart := false, narrowed := true }
def OrderAgesUptoSaid : Prop := orderAgesUptoRow.holds Try.pinned (OpenSpec.upto orderAgesSpec)

/-- 'ensemblelaw09.OrderSorts', WHERE WHAT IT READS IS OF BULK AT MOST 1048576: true; the input reads as it did. -/
def orderSortsUptoRow : OpenClaim := { program := "ytlbneinfejnaaaa", sum := "5d29adfd020f3cd8220142b46b983974ee8fede7fe3061adae69385d2e939705", func := "ensemble/ensemblelaw09.OrderSorts", spec := "orderSorts", unfollowed := true, recurses := true, apart := false, narrowed := true }
def OrderSortsUptoSaid : Prop := orderSortsUptoRow.holds Try.pinned (OpenSpec.upto orderSortsSpec)

/-- 'ensemblelaw09.OrderTurns', WHERE WHAT IT READS IS OF BULK AT MOST 1048576: true; the input reads as it did. -/
def orderTurnsUptoRow : OpenClaim := { program := "ytlbneinfejnaaaa", sum := "5d29adfd020f3cd8220142b46b983974ee8fede7fe3061adae69385d2e939705", func := "ensemble/ensemblelaw09.OrderTurns", spec := "orderTurns", unfollowed := true, recurses := true, apart := false, narrowed := true }
def OrderTurnsUptoSaid : Prop := orderTurnsUptoRow.holds Try.pinned (OpenSpec.upto orderTurnsSpec)

end Rows
end Go.Proofs.Ytlbneinfejnaaaa
