/-
  wire: the fields of a configuration's parts.
-/
import Derived.Test.YtghfdiaaonjofaaWirePutG
import Derived.Laws.ResultCell
import Derived.Laws.Rows
set_option linter.unusedVariables false
set_option linter.unusedSimpArgs false
namespace Go.Proofs.Ytghfdiaaonjofaa
open Go.RowKit

def SlFd (w : World) (lo : Nat) (v : Value) (fs : List Fd) (w' : World) : Prop :=
  ∃ g, v = .slice (some ⟨g, 0, none⟩) fs.length fs.length ∧ lo ≤ g ∧ w'.heap[g]? = some (.cells (fs.flatMap Fd.cells).toArray 73 (0, 0)) ∧ Below w.heap.size w w'
theorem domain_any (B off : Nat) (x y : Int) (w : World) :
    Calls Try.prog 27 #[.pointer (some ⟨B, off, none⟩)] w fun e w' => ∃ v, e = .returned v ∧ SlFd w w.heap.size v [⟨B, off, 1, x⟩, ⟨B, off + 1, 2, y⟩] w' := by
  go_enter Try.func27, Try.ntmps27
  go_wp2_with fail
  go_region
  go_wp2_with fail
  go_ret
  refine ⟨_, rfl, w.heap.size, rfl, Nat.le_refl _, ?_, ?_⟩
  · exact World.alloc_heap_new w _
  · exact ((Below.refl _ _).alloc (Nat.le_refl _) _).drew
theorem queue_any (B off : Nat) (x y z : Int) (w : World) :
    Calls Try.prog 28 #[.pointer (some ⟨B, off, none⟩)] w fun e w' => ∃ v, e = .returned v ∧ SlFd w w.heap.size v [⟨B, off, 3, x⟩, ⟨B, off + 1, 3, y⟩, ⟨B, off + 2, 1, z⟩] w' := by
  go_enter Try.func28, Try.ntmps28
  go_wp2_with fail
  go_region
  go_wp2_with fail
  go_ret
  refine ⟨_, rfl, w.heap.size, rfl, Nat.le_refl _, ?_, ?_⟩
  · exact World.alloc_heap_new w _
  · exact ((Below.refl _ _).alloc (Nat.le_refl _) _).drew
theorem results_row {P : Program} {fn : Func} {p : Tmp} {ty : TypeId} (h : fn.results = #[.cell p ty]) (tmps : Array Value) (w : World) (g : Nat) (t : TypeId) (cs : Array Value) (fr : Nat × Nat) (d : TypeDesc)
    (hu : P.underlying ty = some d) (hd : (match d with | .struct _ | .array _ _ => true | _ => false) = true)
    (hp : tmps.getD p undef = .pointer (some ⟨g, 0, none⟩)) (hg : w.heap[g]? = some (.cells cs t fr)) (hi : (P.info? ty).map (·.size) = some cs.size) :
    (results fn tmps).run P w = .ok (.agg cs) w := by
  have hp' : tmps[p]?.getD undef = .pointer (some ⟨g, 0, none⟩) := by simpa using hp
  simp only [results, h]
  simp [Sem.run_bind, Result.andThen, hp', asAddr, run_loadVar_row w g t ty cs fr d hg hu hd hi]
theorem tail_any (B : Nat) (w : World) :
    Calls Try.prog 29 #[.pointer (some ⟨B, 0, none⟩)] w fun e w' => e = .returned (.agg #[.pointer (some ⟨B, 2, none⟩), .int .i64 1, .pointer (some ⟨B, 3, none⟩), .int .i64 1, .pointer (some ⟨B, 4, none⟩), .int .i64 2, .pointer (some ⟨B, 5, none⟩), .int .i64 2]) ∧ Below w.heap.size w w' := by
  go_enter Try.func29, Try.ntmps29
  go_wp2_with fail
  go_region
  go_wp2_with fail
  refine bodyPost_ret (results_row rfl _ _ w.heap.size _ #[.pointer (some ⟨B, 2, none⟩), .int .i64 1, .pointer (some ⟨B, 3, none⟩), .int .i64 1, .pointer (some ⟨B, 4, none⟩), .int .i64 2, .pointer (some ⟨B, 5, none⟩), .int .i64 2] (0, 0) _ Try.underlying93 rfl rfl (World.alloc_heap_new w _) (by kernel_rfl)) rfl ?_
  exact ⟨rfl, ((Below.refl _ _).alloc (Nat.le_refl _) _).drew⟩
end Go.Proofs.Ytghfdiaaonjofaa
