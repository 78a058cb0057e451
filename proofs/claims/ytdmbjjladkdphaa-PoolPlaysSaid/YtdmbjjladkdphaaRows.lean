/-
  No cell of these rows narrows 'for every input' (looked for: loops, veiled, ifaces, maps, wideKeys, modest, calm, conditions, laid).
  DERIVED. THE GIVEN ROWS OF THIS SEAT. 6 by the template 'for every input the law returns true; each argument reads behind the call as it read before'; 0 by the template 'total and deterministic' (their statements: YtdmbjjladkdphaaTotals.lean).
  GIVEN WITH THE SEED: the statements are not yours to turn. If you find one false, say at which input.
  Laid BY PROGRAM, IN A SANDBOX (cutbox-rows.mjs): the forced cells as the released guide's own fill.sh prints them over the translation c9147499168e84ac… (all of the seat's roots in one cut). By AI agents, Wed Nov 11 2026. No macro, syntax, notation, axiom, sorry.
-/
import Derived.Test.YtdmbjjladkdphaaChecked
import GoSem.Claim
import GoSem.ClaimJoined
import GoSem.ClaimMapViews
import Derived.JoinedTies
import Derived.KernelRfl
namespace Go.Proofs.Ytdmbjjladkdphaa
/- THE CELL 'sum', in the pinned program and in every row, IS THE sha256 OF THE DUMP (.gsa) THAT YtdmbjjladkdphaaProg.lean LOADS. Nothing in Lean hashes anything: it is a label: what it is worth is what the hold of that sum in a sandbox is worth. -/
noncomputable def Try.pinned : Pinned := { name := "ytdmbjjladkdphaa", sum := "c9147499168e84ac273c931082b7eeea932c690ab7ce258910f7782a5f69b20d", checked := Try.checked }
namespace Rows
def none {H : Type} : Left H := { results := [], args := [] }

/-- 'ensemblelaw03.PoolOne': WHATEVER THE INPUT: true; the input reads as it did. -/
def poolOneSpec : ChangeSpec := { name := "poolOne", fn := fun _ => fun
  | [d1, d2, d3] => { results := [.lit (.bool true)], args := [d1, d2, d3] }
  | _ => none }
def poolOneRow : OpenClaim := { program := "ytdmbjjladkdphaa", sum := "c9147499168e84ac273c931082b7eeea932c690ab7ce258910f7782a5f69b20d", func := "ensemble/ensemblelaw03.PoolOne", spec := "poolOne", unfollowed := true, recurses := true, plainKeys := false, apart := false }
def PoolOneSaid : Prop := poolOneRow.holds Try.pinned (OpenSpec.ofChange poolOneSpec)

/-- ITS FALSE NEIGHBOUR: 'it returns false'. Refute it at one input. -/
def poolOneWrong : ChangeSpec := { name := "poolOne", fn := fun _ => fun
  | [d1, d2, d3] => { results := [.lit (.bool false)], args := [d1, d2, d3] }
  | _ => none }
def PoolOneWrongFalsely : Prop := poolOneRow.holds Try.pinned (OpenSpec.ofChange poolOneWrong)

/-- 'ensemblelaw03.PoolDrains': WHATEVER THE INPUT: true; the input reads as it did. -/
def poolDrainsSpec : ChangeSpec := { name := "poolDrains", fn := fun _ => fun
  | [d1, d2, d3, d4] => { results := [.lit (.bool true)], args := [d1, d2, d3, d4] }
  | _ => none }
def poolDrainsRow : OpenClaim := { program := "ytdmbjjladkdphaa", sum := "c9147499168e84ac273c931082b7eeea932c690ab7ce258910f7782a5f69b20d", func := "ensemble/ensemblelaw03.PoolDrains", spec := "poolDrains", unfollowed := true, recurses := true, plainKeys := false, apart := false }
def PoolDrainsSaid : Prop := poolDrainsRow.holds Try.pinned (OpenSpec.ofChange poolDrainsSpec)

/-- ITS FALSE NEIGHBOUR: 'it returns false'. Refute it at one input. -/
def poolDrainsWrong : ChangeSpec := { name := "poolDrains", fn := fun _ => fun
  | [d1, d2, d3, d4] => { results := [.lit (.bool false)], args := [d1, d2, d3, d4] }
  | _ => none }
def PoolDrainsWrongFalsely : Prop := poolDrainsRow.holds Try.pinned (OpenSpec.ofChange poolDrainsWrong)

/-- 'ensemblelaw03.PoolAll': WHATEVER THE INPUT: true; the input reads as it did. -/
def poolAllSpec : ChangeSpec := { name := "poolAll", fn := fun _ => fun
  | [d1, d2] => { results := [.lit (.bool true)], args := [d1, d2] }
  | _ => none }
def poolAllRow : OpenClaim := { program := "ytdmbjjladkdphaa", sum := "c9147499168e84ac273c931082b7eeea932c690ab7ce258910f7782a5f69b20d", func := "ensemble/ensemblelaw03.PoolAll", spec := "poolAll", unfollowed := true, recurses := true, plainKeys := false, apart := false }
def PoolAllSaid : Prop := poolAllRow.holds Try.pinned (OpenSpec.ofChange poolAllSpec)

/-- ITS FALSE NEIGHBOUR: 'it returns false'. Refute it at one input. -/
def poolAllWrong : ChangeSpec := { name := "poolAll", fn := fun _ => fun
  | [d1, d2] => { results := [.lit (.bool false)], args := [d1, d2] }
  | _ => none }
def PoolAllWrongFalsely : Prop := poolAllRow.holds Try.pinned (OpenSpec.ofChange poolAllWrong)

/-- 'ensemblelaw03.PoolBack': WHATEVER THE INPUT: true; the input reads as it did. -/
def poolBackSpec : ChangeSpec := { name := "poolBack", fn := fun _ => fun
  | [d1, d2, d3, d4] => { results := [.lit (.bool true)], args := [d1, d2, d3, d4] }
  | _ => none }
def poolBackRow : OpenClaim := { program := "ytdmbjjladkdphaa", sum := "c9147499168e84ac273c931082b7eeea932c690ab7ce258910f7782a5f69b20d", func := "ensemble/ensemblelaw03.PoolBack", spec := "poolBack", unfollowed := true, recurses := true, plainKeys := false, apart := false }
def PoolBackSaid : Prop := poolBackRow.holds Try.pinned (OpenSpec.ofChange poolBackSpec)

/-- ITS FALSE NEIGHBOUR: 'it returns false'. Refute it at one input. -/
def poolBackWrong : ChangeSpec := { name := "poolBack", fn := fun _ => fun
  | [d1, d2, d3, d4] => { results := [.lit (.bool false)], args := [d1, d2, d3, d4] }
  | _ => none }
def PoolBackWrongFalsely : Prop := poolBackRow.holds Try.pinned (OpenSpec.ofChange poolBackWrong)

/-- 'ensemblelaw03.PoolPlays': WHATEVER THE INPUT: true; the input reads as it did. -/
def poolPlaysSpec : ChangeSpec := { name := "poolPlays", fn := fun _ => fun
  | [d1, d2, d3] => { results := [.lit (.bool true)], args := [d1, d2, d3] }
  | _ => none }
def poolPlaysRow : OpenClaim := { program := "ytdmbjjladkdphaa", sum := "c9147499168e84ac273c931082b7eeea932c690ab7ce258910f7782a5f69b20d", func := "ensemble/ensemblelaw03.PoolPlays", spec := "poolPlays", unfollowed := true, recurses := true, plainKeys := false, apart := false }
def PoolPlaysSaid : Prop := poolPlaysRow.holds Try.pinned (OpenSpec.ofChange poolPlaysSpec)

/-- ITS FALSE NEIGHBOUR: 'it returns false'. Refute it at one input. -/
def poolPlaysWrong : ChangeSpec := { name := "poolPlays", fn := fun _ => fun
  | [d1, d2, d3] => { results := [.lit (.bool false)], args := [d1, d2, d3] }
  | _ => none }
def PoolPlaysWrongFalsely : Prop := poolPlaysRow.holds Try.pinned (OpenSpec.ofChange poolPlaysWrong)

/-- 'ensemblelaw03.PoolSums': WHATEVER THE INPUT: true; the input reads as it did. -/
def poolSumsSpec : ChangeSpec := { name := "poolSums", fn := fun _ => fun
  | [d1, d2] => { results := [.lit (.bool true)], args := [d1, d2] }
  | _ => none }
def poolSumsRow : OpenClaim := { program := "ytdmbjjladkdphaa", sum := "c9147499168e84ac273c931082b7eeea932c690ab7ce258910f7782a5f69b20d", func := "ensemble/ensemblelaw03.PoolSums", spec := "poolSums", unfollowed := true, recurses := true, plainKeys := false, apart := false }
def PoolSumsSaid : Prop := poolSumsRow.holds Try.pinned (OpenSpec.ofChange poolSumsSpec)

/-- ITS FALSE NEIGHBOUR: 'it returns false'. Refute it at one input. -/
def poolSumsWrong : ChangeSpec := { name := "poolSums", fn := fun _ => fun
  | [d1, d2] => { results := [.lit (.bool false)], args := [d1, d2] }
  | _ => none }
def PoolSumsWrongFalsely : Prop := poolSumsRow.holds Try.pinned (OpenSpec.ofChange poolSumsWrong)

/- THE SECOND FORM. 'bulk': how many values and letters a reading holds, each counted each time it is reached (what is shared counts as often as it is met; a slice's spare places count too). A statement '..UptoSaid' is the law's where the arguments, and the package variables that the reading takes, are together of bulk at most 1048576: NARROWER than '..Said'. Prove '..Said' where nothing that the law and all that it calls make is longer than what came in: it says more and counts as full. Else prove '..UptoSaid'. A law counts once. -/
mutual
def uptoBulk {H : Type} : DataW H → Nat
  | .lit (.string bytes) => bytes.length + 1
  | .lit _ => 1
  | .nil => 1
  | .ptr d => uptoBulk d + 1
  | .slice elems spare => uptoBulkAll elems + uptoBulkAll spare + 1
  | .agg parts => uptoBulkAll parts + 1
  | .iface _ d => uptoBulk d + 1
  | .map entries => uptoBulkEntries entries + 1
  | .held _ => 1
def uptoBulkAll {H : Type} : List (DataW H) → Nat
  | [] => 0
  | d :: r => uptoBulk d + uptoBulkAll r
def uptoBulkEntries {H : Type} : List (Lit × DataW H) → Nat
  | [] => 0
  | x :: r => uptoBulkEntry x + uptoBulkEntries r
def uptoBulkEntry {H : Type} : Lit × DataW H → Nat
  | (.string bytes, d) => bytes.length + uptoBulk d + 1
  | (_, d) => uptoBulk d + 1
 end
def uptoSmall : (H : Type) → List (DataW H) → Bool := fun _ ds => decide (uptoBulkAll ds ≤ 1048576)
def OpenSpec.upto (s : _root_.Go.ChangeSpec) : _root_.Go.OpenSpec := { _root_.Go.OpenSpec.ofChange s with cond := some uptoSmall }

/-- 'ensemblelaw03.PoolOne', WHERE WHAT IT READS IS OF BULK AT MOST 1048576: true; the input reads as it did. -/
def poolOneUptoRow : OpenClaim := { program := "ytdmbjjladkdphaa", sum := "c9147499168e84ac273c931082b7eeea932c690ab7ce258910f7782a5f69b20d", func := "ensemble/ensemblelaw03.PoolOne", spec := "poolOne", unfollowed := true, recurses := true, plainKeys := false, apart := false, narrowed := true }
def PoolOneUptoSaid : Prop := poolOneUptoRow.holds Try.pinned (OpenSpec.upto poolOneSpec)

/-- 'ensemblelaw03.PoolDrains', WHERE WHAT IT READS IS OF BULK AT MOST 1048576: true; the input reads as it did. -/
def poolDrainsUptoRow : OpenClaim := { program := "ytdmbjjladkdphaa", sum := "c9147499168e84ac273c931082b7eeea932c690ab7ce258910f7782a5f69b20d", func := "ensemble/ensemblelaw03.PoolDrains", spec := "poolDrains", unfollowed := true, recurses := true, plainKeys := false, apart := false, narrowed := true }
def PoolDrainsUptoSaid : Prop := poolDrainsUptoRow.holds Try.pinned (OpenSpec.upto poolDrainsSpec)

/-- 'ensemblelaw03.PoolAll', WHERE WHAT IT READS IS OF BULK AT MOST 1048576: true; the input reads as it did. -/
def poolAllUptoRow : OpenClaim := { program := "ytdmbjjladkdphaa", sum := "c9147499168e84ac273c931082b7eeea932c690ab7ce258910f7782a5f69b20d", func := "ensemble/ensemblelaw03.PoolAll", spec := "poolAll", unfollowed := true, recurses := true, plainKeys := false, apart := false, narrowed := true }
def PoolAllUptoSaid : Prop := poolAllUptoRow.holds Try.pinned (OpenSpec.upto poolAllSpec)

/-- 'ensemblelaw03.PoolBack', WHERE WHAT IT READS IS OF BULK AT MOST 1048576: true; the input reads as it did. -/
def poolBackUptoRow : OpenClaim := { program := "ytdmbjjladkdphaa", sum := "c9147499168e84ac273c931082b7eeea932c690ab7ce258910f7782a5f69b20d", func := "ensemble/ensemblelaw03.PoolBack", spec := "poolBack", unfollowed := true, recurses := true, plainKeys := false, apart := false, narrowed := true }
def PoolBackUptoSaid : Prop := poolBackUptoRow.holds Try.pinned (OpenSpec.upto poolBackSpec)

/-- 'ensemblelaw03.PoolPlays', WHERE WHAT IT READS IS OF BULK AT MOST 1048576: true; the input reads as it did. -/
def poolPlaysUptoRow : OpenClaim := { program := "ytdmbjjladkdphaa", sum := "c9147499168e84ac273c931082b7eeea932c690ab7ce258910f7782a5f69b20d", func := "ensemble/ensemblelaw03.PoolPlays", spec := "poolPlays", unfollowed := true, recurses := true, plainKeys := false, apart := false, narrowed := true }
def PoolPlaysUptoSaid : Prop := poolPlaysUptoRow.holds Try.pinned (OpenSpec.upto poolPlaysSpec)

/-- 'ensemblelaw03.PoolSums', WHERE WHAT IT READS IS OF BULK AT MOST 1048576: true; the input reads as it did. -/
def poolSumsUptoRow : OpenClaim := { program := "ytdmbjjladkdphaa", sum := "c9147499168e84ac273c931082b7eeea932c690ab7ce258910f7782a5f69b20d", func := "ensemble/ensemblelaw03.PoolSums", spec := "poolSums", unfollowed := true, recurses := true, plainKeys := false, apart := false, narrowed := true }
def PoolSumsUptoSaid : Prop := poolSumsUptoRow.holds Try.pinned (OpenSpec.upto poolSumsSpec)

end Rows
end Go.Proofs.Ytdmbjjladkdphaa
