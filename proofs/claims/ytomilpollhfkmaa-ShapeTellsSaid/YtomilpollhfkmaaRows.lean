/-
  No cell of these rows narrows 'for every input' (looked for: loops, veiled, ifaces, maps, wideKeys, modest, calm, conditions, laid).
  DERIVED. THE GIVEN ROWS OF THIS SEAT. 5 by the template 'for every input the law returns true; each argument reads behind the call as it read before'; 0 by the template 'total and deterministic' (their statements: YtomilpollhfkmaaTotals.lean).
  GIVEN WITH THE SEED: the statements are not yours to turn. If you find one false, say at which input.
  Laid BY PROGRAM, IN A SANDBOX (cutbox-rows.mjs): the forced cells as the released guide's own fill.sh prints them over the translation cc437dfffa951146… (all of the seat's roots in one cut). By AI agents, Wed Nov 11 2026. No macro, syntax, notation, axiom, sorry.
-/
import Derived.Test.YtomilpollhfkmaaChecked
import GoSem.Claim
import GoSem.ClaimJoined
import GoSem.ClaimMapViews
import Derived.JoinedTies
import Derived.KernelRfl
namespace Go.Proofs.Ytomilpollhfkmaa
/- THE CELL 'sum', in the pinned program and in every row, IS THE sha256 OF THE DUMP (.gsa) THAT YtomilpollhfkmaaProg.lean LOADS. Nothing in Lean hashes anything: it is a label: what it is worth is what the hold of that sum in a sandbox is worth. -/
noncomputable def Try.pinned : Pinned := { name := "ytomilpollhfkmaa", sum := "cc437dfffa951146960fee6d257002231acc5684e6096824c4cab99c2c3cfba4", checked := Try.checked }
namespace Rows
def none {H : Type} : Left H := { results := [], args := [] }

/-- 'ensemblelaw04.ShapeGrows': WHATEVER THE INPUT: true; the input reads as it did. -/
def shapeGrowsSpec : ChangeSpec := { name := "shapeGrows", fn := fun _ => fun
  | [d1, d2, d3, d4, d5] => { results := [.lit (.bool true)], args := [d1, d2, d3, d4, d5] }
  | _ => none }
def shapeGrowsRow : OpenClaim := { program := "ytomilpollhfkmaa", sum := "cc437dfffa951146960fee6d257002231acc5684e6096824c4cab99c2c3cfba4", func := "ensemble/ensemblelaw04.ShapeGrows", spec := "shapeGrows", unfollowed := true, recurses := true, apart := false }
def ShapeGrowsSaid : Prop := shapeGrowsRow.holds Try.pinned (OpenSpec.ofChange shapeGrowsSpec)

/-- ITS FALSE NEIGHBOUR: 'it returns false'. Refute it at one input. -/
def shapeGrowsWrong : ChangeSpec := { name := "shapeGrows", fn := fun _ => fun
  | [d1, d2, d3, d4, d5] => { results := [.lit (.bool false)], args := [d1, d2, d3, d4, d5] }
  | _ => none }
def ShapeGrowsWrongFalsely : Prop := shapeGrowsRow.holds Try.pinned (OpenSpec.ofChange shapeGrowsWrong)

/-- 'ensemblelaw04.ShapeBounds': WHATEVER THE INPUT: true; the input reads as it did. -/
def shapeBoundsSpec : ChangeSpec := { name := "shapeBounds", fn := fun _ => fun
  | [d1, d2] => { results := [.lit (.bool true)], args := [d1, d2] }
  | _ => none }
def shapeBoundsRow : OpenClaim := { program := "ytomilpollhfkmaa", sum := "cc437dfffa951146960fee6d257002231acc5684e6096824c4cab99c2c3cfba4", func := "ensemble/ensemblelaw04.ShapeBounds", spec := "shapeBounds", unfollowed := true, recurses := true, apart := false }
def ShapeBoundsSaid : Prop := shapeBoundsRow.holds Try.pinned (OpenSpec.ofChange shapeBoundsSpec)

/-- ITS FALSE NEIGHBOUR: 'it returns false'. Refute it at one input. -/
def shapeBoundsWrong : ChangeSpec := { name := "shapeBounds", fn := fun _ => fun
  | [d1, d2] => { results := [.lit (.bool false)], args := [d1, d2] }
  | _ => none }
def ShapeBoundsWrongFalsely : Prop := shapeBoundsRow.holds Try.pinned (OpenSpec.ofChange shapeBoundsWrong)

/-- 'ensemblelaw04.ShapeCuts': WHATEVER THE INPUT: true; the input reads as it did. -/
def shapeCutsSpec : ChangeSpec := { name := "shapeCuts", fn := fun _ => fun
  | [d1, d2] => { results := [.lit (.bool true)], args := [d1, d2] }
  | _ => none }
def shapeCutsRow : OpenClaim := { program := "ytomilpollhfkmaa", sum := "cc437dfffa951146960fee6d257002231acc5684e6096824c4cab99c2c3cfba4", func := "ensemble/ensemblelaw04.ShapeCuts", spec := "shapeCuts", unfollowed := true, recurses := true, apart := false }
def ShapeCutsSaid : Prop := shapeCutsRow.holds Try.pinned (OpenSpec.ofChange shapeCutsSpec)

/-- ITS FALSE NEIGHBOUR: 'it returns false'. Refute it at one input. -/
def shapeCutsWrong : ChangeSpec := { name := "shapeCuts", fn := fun _ => fun
  | [d1, d2] => { results := [.lit (.bool false)], args := [d1, d2] }
  | _ => none }
def ShapeCutsWrongFalsely : Prop := shapeCutsRow.holds Try.pinned (OpenSpec.ofChange shapeCutsWrong)

/-- 'ensemblelaw04.ShapeTells': WHATEVER THE INPUT: true; the input reads as it did. -/
def shapeTellsSpec : ChangeSpec := { name := "shapeTells", fn := fun _ => fun
  | [d1, d2, d3] => { results := [.lit (.bool true)], args := [d1, d2, d3] }
  | _ => none }
def shapeTellsRow : OpenClaim := { program := "ytomilpollhfkmaa", sum := "cc437dfffa951146960fee6d257002231acc5684e6096824c4cab99c2c3cfba4", func := "ensemble/ensemblelaw04.ShapeTells", spec := "shapeTells", unfollowed := true, recurses := true, apart := false }
def ShapeTellsSaid : Prop := shapeTellsRow.holds Try.pinned (OpenSpec.ofChange shapeTellsSpec)

/-- ITS FALSE NEIGHBOUR: 'it returns false'. Refute it at one input. -/
def shapeTellsWrong : ChangeSpec := { name := "shapeTells", fn := fun _ => fun
  | [d1, d2, d3] => { results := [.lit (.bool false)], args := [d1, d2, d3] }
  | _ => none }
def ShapeTellsWrongFalsely : Prop := shapeTellsRow.holds Try.pinned (OpenSpec.ofChange shapeTellsWrong)

/-- 'ensemblelaw04.ShapeSums': WHATEVER THE INPUT: true; the input reads as it did. -/
def shapeSumsSpec : ChangeSpec := { name := "shapeSums", fn := fun _ => fun
  | [d1, d2, d3, d4] => { results := [.lit (.bool true)], args := [d1, d2, d3, d4] }
  | _ => none }
def shapeSumsRow : OpenClaim := { program := "ytomilpollhfkmaa", sum := "cc437dfffa951146960fee6d257002231acc5684e6096824c4cab99c2c3cfba4", func := "ensemble/ensemblelaw04.ShapeSums", spec := "shapeSums", unfollowed := true, recurses := true, apart := false }
def ShapeSumsSaid : Prop := shapeSumsRow.holds Try.pinned (OpenSpec.ofChange shapeSumsSpec)

/-- ITS FALSE NEIGHBOUR: 'it returns false'. Refute it at one input. -/
def shapeSumsWrong : ChangeSpec := { name := "shapeSums", fn := fun _ => fun
  | [d1, d2, d3, d4] => { results := [.lit (.bool false)], args := [d1, d2, d3, d4] }
  | _ => none }
def ShapeSumsWrongFalsely : Prop := shapeSumsRow.holds Try.pinned (OpenSpec.ofChange shapeSumsWrong)

/- THE SECOND FORM. 'bulk': how many values and letters a reading holds, each counted each time it is reached (what is shared counts as often as it is met; a slice's spare places count too). A statement '..UptoSaid' is the law's where the arguments, and the package variables that the reading takes, are together of bulk at most 1048576: NARROWER than '..Said'. Prove '..Said' where nothing that the law and all that it calls make is longer than what came in: it says more and counts as full. Else prove '..UptoSaid'. A law counts once. -/
mutual
def uptoBulk {H : Type} : DataW H → Nat
  | .lit (.string bytes) => bytes.length + 1
  | .lit _ => 1
  | .nil => 1
  | .ptr d => uptoBulk d + 1
  | .slice elems spare => uptoBulkAll elems + uptoBulkAll spare + 1
  | .agg parts => uptoBulkAll parts + 1
  | .iface _ d => uptoBulk d + 1
  | .map entries => uptoBulkEntries entries + 1
  | .held _ => 1
def uptoBulkAll {H : Type} : List (DataW H) → Nat
  | [] => 0
  | d :: r => uptoBulk d + uptoBulkAll r
def uptoBulkEntries {H : Type} : List (Lit × DataW H) → Nat
  | [] => 0
  | x :: r => uptoBulkEntry x + uptoBulkEntries r
def uptoBulkEntry {H : Type} : Lit × DataW H → Nat
  | (.string bytes, d) => bytes.length + uptoBulk d + 1
  | (_, d) => uptoBulk d + 1
 end
def uptoSmall : (H : Type) → List (DataW H) → Bool := fun _ ds => decide (uptoBulkAll ds ≤ 1048576)
def OpenSpec.upto (s : _root_.Go.ChangeSpec) : _root_.Go.OpenSpec := { _root_.Go.OpenSpec.ofChange s with cond := some uptoSmall }

/-- 'ensemblelaw04.ShapeGrows', WHERE WHAT IT READS IS OF BULK AT MOST 1048576: true; the input reads as it did. -/
def shapeGrowsUptoRow : OpenClaim := { program := "ytomilpollhfkmaa", sum := "cc437dfffa951146960fee6d257002231acc5684e6096824c4cab99c2c3cfba4", func := "ensemble/ensemblelaw04.ShapeGrows", spec := "shapeGrows", unfollowed := true, recurses := true, apart := false, narrowed := true }
def ShapeGrowsUptoSaid : Prop := shapeGrowsUptoRow.holds Try.pinned (OpenSpec.upto shapeGrowsSpec)

/-- 'ensemblelaw04.ShapeBounds', WHERE WHAT IT READS IS OF BULK AT MOST 1048576: true; the input reads as it did. -/
def shapeBoundsUptoRow : OpenClaim := { program := "ytomilpollhfkmaa", sum := "cc437dfffa951146960fee6d257002231acc5684e6096824c4cab99c2c3cfba4", func := "ensemble/ensemblelaw04.ShapeBounds", spec := "shapeBounds", unfollowed := true, recurses := true, apart := false, narrowed := true }
def ShapeBoundsUptoSaid : Prop := shapeBoundsUptoRow.holds Try.pinned (OpenSpec.upto shapeBoundsSpec)

/-- 'ensemblelaw04.ShapeCuts', WHERE WHAT IT READS IS OF BULK AT MOST 1048576: true; the input reads as it did. -/
def shapeCutsUptoRow : OpenClaim := { program := "ytomilpollhfkmaa", sum := "cc437dfffa951146960fee6d257002231acc5684e6096824c4cab99c2c3cfba4", func := "ensemble/ensemblelaw04.ShapeCuts", spec := "shapeCuts", unfollowed := true, recurses := true, apart := false, narrowed := true }
def ShapeCutsUptoSaid : Prop := shapeCutsUptoRow.holds Try.pinned (OpenSpec.upto shapeCutsSpec)

/-- 'ensemblelaw04.ShapeTells', WHERE WHAT IT READS IS OF BULK AT MOST 1048576: true; the input reads as it did. -/
def shapeTellsUptoRow : OpenClaim := { program := "ytomilpollhfkmaa", sum := "cc437dfffa951146960fee6d257002231acc5684e6096824c4cab99c2c3cfba4", func := "ensemble/ensemblelaw04.ShapeTells", spec := "shapeTells", unfollowed := true, recurses := true, apart := false, narrowed := true }
def ShapeTellsUptoSaid : Prop := shapeTellsUptoRow.holds Try.pinned (OpenSpec.upto shapeTellsSpec)

/-- 'ensemblelaw04.ShapeSums', WHERE WHAT IT READS IS OF BULK AT MOST 1048576: true; the input reads as it did. -/
def shapeSumsUptoRow : OpenClaim := { program := "ytomilpollhfkmaa", sum := "cc437dfffa951146960fee6d257002231acc5684e6096824c4cab99c2c3cfba4", func := "ensemble/ensemblelaw04.ShapeSums", spec := "shapeSums", unfollowed := true, recurses := true, apart := false, narrowed := true }
def ShapeSumsUptoSaid : Prop := shapeSumsUptoRow.holds Try.pinned (OpenSpec.upto shapeSumsSpec)

end Rows
end Go.Proofs.Ytomilpollhfkmaa
