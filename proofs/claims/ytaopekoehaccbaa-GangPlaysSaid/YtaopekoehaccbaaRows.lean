/-
  No cell of these rows narrows 'for every input' (looked for: loops, veiled, ifaces, maps, wideKeys, modest, calm, conditions, laid).
  DERIVED. THE GIVEN ROWS OF THIS SEAT. 6 by the template 'for every input the law returns true; each argument reads behind the call as it read before'; 0 by the template 'total and deterministic' (their statements: YtaopekoehaccbaaTotals.lean).
  GIVEN WITH THE SEED: the statements are not yours to turn. If you find one false, say at which input.
  Laid BY PROGRAM, IN A SANDBOX (cutbox-rows.mjs): the forced cells as the released guide's own fill.sh prints them over the translation 7e67ee47775607ce… (all of the seat's roots in one cut). By AI agents, Wed Nov 11 2026. No macro, syntax, notation, axiom, sorry.
-/
import Derived.Test.YtaopekoehaccbaaChecked
import GoSem.Claim
import GoSem.ClaimJoined
import GoSem.ClaimMapViews
import Derived.JoinedTies
import Derived.KernelRfl
namespace Go.Proofs.Ytaopekoehaccbaa
/- THE CELL 'sum', in the pinned program and in every row, IS THE sha256 OF THE DUMP (.gsa) THAT YtaopekoehaccbaaProg.lean LOADS. Nothing in Lean hashes anything: it is a label: what it is worth is what the hold of that sum in a sandbox is worth. -/
noncomputable def Try.pinned : Pinned := { name := "ytaopekoehaccbaa", sum := "7e67ee47775607ce195cc09980463a5d53cd35100087e507d52f6870281e4411", checked := Try.checked }
namespace Rows
def none {H : Type} : Left H := { results := [], args := [] }

/-- 'ensemblelaw11.GangNext': WHATEVER THE INPUT: true; the input reads as it did. -/
def gangNextSpec : ChangeSpec := { name := "gangNext", fn := fun _ => fun
  | [d1, d2] => { results := [.lit (.bool true)], args := [d1, d2] }
  | _ => none }
def gangNextRow : OpenClaim := { program := "ytaopekoehaccbaa", sum := "7e67ee47775607ce195cc09980463a5d53cd35100087e507d52f6870281e4411", func := "ensemble/ensemblelaw11.GangNext", spec := "gangNext", plainKeys := false, apart := false }
def GangNextSaid : Prop := gangNextRow.holds Try.pinned (OpenSpec.ofChange gangNextSpec)

/-- ITS FALSE NEIGHBOUR: 'it returns false'. Refute it at one input. -/
def gangNextWrong : ChangeSpec := { name := "gangNext", fn := fun _ => fun
  | [d1, d2] => { results := [.lit (.bool false)], args := [d1, d2] }
  | _ => none }
def GangNextWrongFalsely : Prop := gangNextRow.holds Try.pinned (OpenSpec.ofChange gangNextWrong)

/-- 'ensemblelaw11.GangStarts': WHATEVER THE INPUT: true; the input reads as it did. -/
def gangStartsSpec : ChangeSpec := { name := "gangStarts", fn := fun _ => fun
  | [d1, d2, d3, d4] => { results := [.lit (.bool true)], args := [d1, d2, d3, d4] }
  | _ => none }
def gangStartsRow : OpenClaim := { program := "ytaopekoehaccbaa", sum := "7e67ee47775607ce195cc09980463a5d53cd35100087e507d52f6870281e4411", func := "ensemble/ensemblelaw11.GangStarts", spec := "gangStarts", unfollowed := true, recurses := true, plainKeys := false, apart := false }
def GangStartsSaid : Prop := gangStartsRow.holds Try.pinned (OpenSpec.ofChange gangStartsSpec)

/-- ITS FALSE NEIGHBOUR: 'it returns false'. Refute it at one input. -/
def gangStartsWrong : ChangeSpec := { name := "gangStarts", fn := fun _ => fun
  | [d1, d2, d3, d4] => { results := [.lit (.bool false)], args := [d1, d2, d3, d4] }
  | _ => none }
def GangStartsWrongFalsely : Prop := gangStartsRow.holds Try.pinned (OpenSpec.ofChange gangStartsWrong)

/-- 'ensemblelaw11.GangLives': WHATEVER THE INPUT: true; the input reads as it did. -/
def gangLivesSpec : ChangeSpec := { name := "gangLives", fn := fun _ => fun
  | [d] => { results := [.lit (.bool true)], args := [d] }
  | _ => none }
def gangLivesRow : OpenClaim := { program := "ytaopekoehaccbaa", sum := "7e67ee47775607ce195cc09980463a5d53cd35100087e507d52f6870281e4411", func := "ensemble/ensemblelaw11.GangLives", spec := "gangLives", unfollowed := true, recurses := true, plainKeys := false, apart := false }
def GangLivesSaid : Prop := gangLivesRow.holds Try.pinned (OpenSpec.ofChange gangLivesSpec)

/-- ITS FALSE NEIGHBOUR: 'it returns false'. Refute it at one input. -/
def gangLivesWrong : ChangeSpec := { name := "gangLives", fn := fun _ => fun
  | [d] => { results := [.lit (.bool false)], args := [d] }
  | _ => none }
def GangLivesWrongFalsely : Prop := gangLivesRow.holds Try.pinned (OpenSpec.ofChange gangLivesWrong)

/-- 'ensemblelaw11.GangApart': WHATEVER THE INPUT: true; the input reads as it did. -/
def gangApartSpec : ChangeSpec := { name := "gangApart", fn := fun _ => fun
  | [d1, d2, d3, d4, d5] => { results := [.lit (.bool true)], args := [d1, d2, d3, d4, d5] }
  | _ => none }
def gangApartRow : OpenClaim := { program := "ytaopekoehaccbaa", sum := "7e67ee47775607ce195cc09980463a5d53cd35100087e507d52f6870281e4411", func := "ensemble/ensemblelaw11.GangApart", spec := "gangApart", unfollowed := true, recurses := true, plainKeys := false, apart := false }
def GangApartSaid : Prop := gangApartRow.holds Try.pinned (OpenSpec.ofChange gangApartSpec)

/-- ITS FALSE NEIGHBOUR: 'it returns false'. Refute it at one input. -/
def gangApartWrong : ChangeSpec := { name := "gangApart", fn := fun _ => fun
  | [d1, d2, d3, d4, d5] => { results := [.lit (.bool false)], args := [d1, d2, d3, d4, d5] }
  | _ => none }
def GangApartWrongFalsely : Prop := gangApartRow.holds Try.pinned (OpenSpec.ofChange gangApartWrong)

/-- 'ensemblelaw11.GangCounts': WHATEVER THE INPUT: true; the input reads as it did. -/
def gangCountsSpec : ChangeSpec := { name := "gangCounts", fn := fun _ => fun
  | [d] => { results := [.lit (.bool true)], args := [d] }
  | _ => none }
def gangCountsRow : OpenClaim := { program := "ytaopekoehaccbaa", sum := "7e67ee47775607ce195cc09980463a5d53cd35100087e507d52f6870281e4411", func := "ensemble/ensemblelaw11.GangCounts", spec := "gangCounts", unfollowed := true, recurses := true, plainKeys := false, apart := false }
def GangCountsSaid : Prop := gangCountsRow.holds Try.pinned (OpenSpec.ofChange gangCountsSpec)

/-- ITS FALSE NEIGHBOUR: 'it returns false'. Refute it at one input. -/
def gangCountsWrong : ChangeSpec := { name := "gangCounts", fn := fun _ => fun
  | [d] => { results := [.lit (.bool false)], args := [d] }
  | _ => none }
def GangCountsWrongFalsely : Prop := gangCountsRow.holds Try.pinned (OpenSpec.ofChange gangCountsWrong)

/-- 'ensemblelaw11.GangPlays': WHATEVER THE INPUT: true; the input reads as it did. -/
def gangPlaysSpec : ChangeSpec := { name := "gangPlays", fn := fun _ => fun
  | [d1, d2, d3] => { results := [.lit (.bool true)], args := [d1, d2, d3] }
  | _ => none }
def gangPlaysRow : OpenClaim := { program := "ytaopekoehaccbaa", sum := "7e67ee47775607ce195cc09980463a5d53cd35100087e507d52f6870281e4411", func := "ensemble/ensemblelaw11.GangPlays", spec := "gangPlays", unfollowed := true, recurses := true, plainKeys := false, apart := false }
def GangPlaysSaid : Prop := gangPlaysRow.holds Try.pinned (OpenSpec.ofChange gangPlaysSpec)

/-- ITS FALSE NEIGHBOUR: 'it returns false'. Refute it at one input. -/
def gangPlaysWrong : ChangeSpec := { name := "gangPlays", fn := fun _ => fun
  | [d1, d2, d3] => { results := [.lit (.bool false)], args := [d1, d2, d3] }
  | _ => none }
def GangPlaysWrongFalsely : Prop := gangPlaysRow.holds Try.pinned (OpenSpec.ofChange gangPlaysWrong)

/- THE SECOND FORM. 'bulk': how many values and letters a reading holds, each counted each time it is reached (what is shared counts as often as it is met; a slice's spare places count too). A statement '..UptoSaid' is the law's where the arguments, and the package variables that the reading takes, are together of bulk at most 1048576: NARROWER than '..Said'. Prove '..Said' where nothing that the law and all that it calls make is longer than what came in: it says more and counts as full. Else prove '..UptoSaid'. A law counts once. -/
mutual
def uptoBulk {H : Type} : DataW H → Nat
  | .lit (.string bytes) => bytes.length + 1
  | .lit _ => 1
  | .nil => 1
  | .ptr d => uptoBulk d + 1
  | .slice elems spare => uptoBulkAll elems + uptoBulkAll spare + 1
  | .agg parts => uptoBulkAll parts + 1
  | .iface _ d => uptoBulk d + 1
  | .map entries => uptoBulkEntries entries + 1
  | .held _ => 1
def uptoBulkAll {H : Type} : List (DataW H) → Nat
  | [] => 0
  | d :: r => uptoBulk d + uptoBulkAll r
def uptoBulkEntries {H : Type} : List (Lit × DataW H) → Nat
  | [] => 0
  | x :: r => uptoBulkEntry x + uptoBulkEntries r
def uptoBulkEntry {H : Type} : Lit × DataW H → Nat
  | (.string bytes, d) => bytes.length + uptoBulk d + 1
  | (_, d) => uptoBulk d + 1
 end
def uptoSmall : (H : Type) → List (DataW H) → Bool := fun _ ds => decide (uptoBulkAll ds ≤ 1048576)
def OpenSpec.upto (s : _root_.Go.ChangeSpec) : _root_.Go.OpenSpec := { _root_.Go.OpenSpec.ofChange s with cond := some uptoSmall }

/-- 'ensemblelaw11.GangNext', WHERE WHAT IT READS IS OF BULK AT MOST 1048576: true; the input reads as it did. -/
def gangNextUptoRow : OpenClaim := { program := "ytaopekoehaccbaa", sum := "7e67ee47775607ce195cc09980463a5d53cd35100087e507d52f6870281e4411", func := "ensemble/ensemblelaw11.GangNext", spec := "gangNext", plainKeys := false, apart := false, narrowed := true }
def GangNextUptoSaid : Prop := gangNextUptoRow.holds Try.pinned (OpenSpec.upto gangNextSpec)

/-- 'ensemblelaw11.GangStarts', WHERE WHAT IT READS IS OF BULK AT MOST 1048576: true; the input reads as it did. -/
def gangStartsUptoRow : OpenClaim := { program := "ytaopekoehaccbaa", sum := "7e67ee47775607ce195cc09980463a5d53cd35100087e507d52f6870281e4411", func := "ensemble/ensemblelaw11.GangStarts", spec := "gangStarts", unfollowed := true, recurses := true, plainKeys := false, apart := false, narrowed := true }
def GangStartsUptoSaid : Prop := gangStartsUptoRow.holds Try.pinned (OpenSpec.upto gangStartsSpec)

/-- 'ensemblelaw11.GangLives', WHERE WHAT IT READS IS OF BULK AT MOST 1048576: true; the input reads as it did. -/
def gangLivesUptoRow : OpenClaim := { program := "ytaopekoehaccbaa", sum := "7e67ee47775607ce195cc09980463a5d53cd35100087e507d52f6870281e4411", func := "ensemble/ensemblelaw11.GangLives", spec := "gangLives", unfollowed := true, recurses := true, plainKeys := false, apart := false, narrowed := true }
def GangLivesUptoSaid : Prop := gangLivesUptoRow.holds Try.pinned (OpenSpec.upto gangLivesSpec)

/-- 'ensemblelaw11.GangApart', WHERE WHAT IT READS IS OF BULK AT MOST 1048576: true; the input reads as it did. -/
def gangApartUptoRow : OpenClaim := { program := "ytaopekoehaccbaa", sum := "7e67ee47775607ce195cc09980463a5d53cd35100087e507d52f6870281e4411", func := "ensemble/ensemblelaw11.GangApart", spec := "gangApart", unfollowed := true, recurses := true, plainKeys := false, apart := false, narrowed := true }
def GangApartUptoSaid : Prop := gangApartUptoRow.holds Try.pinned (OpenSpec.upto gangApartSpec)

/-- 'ensemblelaw11.GangCounts', WHERE WHAT IT READS IS OF BULK AT MOST 1048576: true; the input reads as it did. -/
def gangCountsUptoRow : OpenClaim := { program := "ytaopekoehaccbaa", sum := "7e67ee47775607ce195cc09980463a5d53cd35100087e507d52f6870281e4411", func := "ensemble/ensemblelaw11.GangCounts", spec := "gangCounts", unfollowed := true, recurses := true, plainKeys := false, apart := false, narrowed := true }
def GangCountsUptoSaid : Prop := gangCountsUptoRow.holds Try.pinned (OpenSpec.upto gangCountsSpec)

/-- 'ensemblelaw11.GangPlays', WHERE WHAT IT READS IS OF BULK AT MOST 1048576: true; the input reads as it did. -/
def gangPlaysUptoRow : OpenClaim := { program := "ytaopekoehaccbaa", sum := "7e67ee47775607ce195cc09980463a5d53cd35100087e507d52f6870281e4411", func := "ensemble/ensemblelaw11.GangPlays", spec := "gangPlays", unfollowed := true, recurses := true, plainKeys := false, apart := false, narrowed := true }
def GangPlaysUptoSaid : Prop := gangPlaysUptoRow.holds Try.pinned (OpenSpec.upto gangPlaysSpec)

end Rows
end Go.Proofs.Ytaopekoehaccbaa
