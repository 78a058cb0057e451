/-
  wire: the fields of an act.
-/
import Derived.Test.YtghfdiaaonjofaaProg
import Derived.Test.YtghfdiaaonjofaaTypes
import Derived.Test.YtghfdiaaonjofaaKeep
import Derived.Test.YtghfdiaaonjofaaAppAny
import Derived.Test.YtghfdiaaonjofaaRegions2
import Derived.Deep.QuietTactic
import Derived.BigQuiet
import Derived.BigRegion
import Derived.StillTailTactics
import Derived.Lib.Hide
import Derived.Handy
import Derived.Deep.AppendLies
set_option linter.unusedVariables false
set_option linter.unusedSimpArgs false
namespace Go.Proofs.Ytghfdiaaonjofaa
open Go.RowKit

theorem wrap_eq (n : Int) : IntKind.i64.wrap n = wrap64 n := by first | rfl | (rw [IntKind.wrap_i64]; done) | (rw [IntKind.wrap_i64]; rfl) | (rw [IntKind.wrap_i64]; unfold wrap64; omega)
/-- the fields of a kind: where each lies, and its bytes -/
def fldL (kind : Int) : Option (List (Nat × Nat)) :=
  if kind = 0 then some [(2, 2), (3, 1), (4, 1), (5, 2), (6, 1), (7, 2), (8, 1), (9, 1)]
  else if kind = 1 ∨ kind = 2 ∨ kind = 7 then some [(1, 2)] else if kind = 3 ∨ kind = 4 ∨ kind = 6 then some [(1, 1)] else if kind = 5 then some [] else none
/-- a row of fields of what lies at B; the row lies at lo or above -/
def FieldRow (w : World) (lo B : Nat) (v : Value) (l : List (Nat × Nat)) : Prop :=
  ∃ a cap, v = .slice a l.length cap ∧ ∀ (i off b : Nat), l[i]? = some (off, b) → ∃ g, a = some ⟨g, 0, none⟩ ∧ lo ≤ g ∧ g < w.heap.size ∧ w.cell? ⟨g, i * 2, none⟩ = some (.pointer (some ⟨B, off, none⟩)) ∧ w.cell? ⟨g, i * 2 + 1, none⟩ = some (.int .i64 b)
theorem FieldRow.later {w w' : World} {lo B : Nat} {v : Value} {l : List (Nat × Nat)} (h : FieldRow w lo B v l) (hb : Below w.heap.size w w') : FieldRow w' lo B v l := by
  obtain ⟨a, cap, hv, hc⟩ := h
  refine ⟨a, cap, hv, fun i off b hi => ?_⟩
  obtain ⟨g, ha, hlo, hg, c0, c1⟩ := hc i off b hi
  exact ⟨g, ha, hlo, Nat.lt_of_lt_of_le hg hb.size, (hb.cell (p := ⟨g, i * 2, none⟩) hg).trans c0, (hb.cell (p := ⟨g, i * 2 + 1, none⟩) hg).trans c1⟩
theorem FieldRow.nil (w : World) (lo B : Nat) : FieldRow w lo B (.slice none 0 0) [] := ⟨none, 0, rfl, fun i off b h => by simp at h⟩
theorem field_row {w : World} {lo B g : Nat} {l : List (Nat × Nat)} {cs : Array Value} {t : TypeId} (h : w.heap[g]? = some (.cells cs t (0, 0))) (hlo : lo ≤ g) (hc : ∀ i, i < l.length → cs[i * 2]? = (l[i]?).map (fun p => Value.pointer (some ⟨B, p.1, none⟩)) ∧ cs[i * 2 + 1]? = (l[i]?).map (fun p => Value.int .i64 p.2)) : FieldRow w lo B (.slice (some ⟨g, 0, none⟩) l.length l.length) l := by
  refine ⟨_, _, rfl, fun i off b hi => ⟨g, rfl, hlo, lt_of_block h, ?_, ?_⟩⟩
  · have := (hc i (List.getElem?_eq_some_iff.1 hi).1).1
    rw [hi] at this
    exact (cell_of_block h _).trans this
  · have := (hc i (List.getElem?_eq_some_iff.1 hi).1).2
    rw [hi] at this
    exact (cell_of_block h _).trans this
def FieldsPost (B : Nat) (kind : Int) (w : World) (e : Ending) (w' : World) : Prop :=
  ∃ v, e = .returned (.tuple #[v, .bool (fldL kind).isSome]) ∧ FieldRow w' w.heap.size B v ((fldL kind).getD []) ∧ Below w.heap.size w w'
set_option maxHeartbeats 2000000 in
theorem fields_any (B : Nat) (kind : Int) (w : World) (hk : w.cell? ⟨B, 0, none⟩ = some (.int .i64 kind)) (hB : B < w.heap.size) : Calls Try.prog 20 #[.pointer (some ⟨B, 0, none⟩)] w (FieldsPost B kind w) := by
  by_cases h0 : kind = 0
  · subst h0
    have HF := Lib.hid (show fldL 0 = some [(2, 2), (3, 1), (4, 1), (5, 2), (6, 1), (7, 2), (8, 1), (9, 1)] from rfl)
    go_enter Try.func20, Try.ntmps20
    go_wp2_with fail
    go_quiet (fail)
    have hk' : (w.drewN nq).cell? ⟨B, 0, none⟩ = some (.int .i64 0) := hk
    have hb1 : Below w.heap.size w (w.drewN nq) := ⟨rfl, rfl, rfl, Nat.le_refl _, fun _ _ => rfl⟩
    have hB1 : B < (w.drewN nq).heap.size := hB
    generalize w.drewN nq = w1 at hk' hb1 hB1 ⊢
    clear hk
    go_wp2_with fail
    have fx0 := (Below.refl w1.heap.size w1).drew
    refine Rg.wp_region_pick (by kernel_rfl) [0, 1, 2, 3, 4, 5, 6, 7, 8, 9, 10, 11, 12, 13, 14, 15, 16, 17, 18, 19, 20, 21, 22, 23, 24, 25, 26, 27, 28, 29, 30, 31] [32, 33, 34] 33 (by kernel_rfl) (by kernel_rfl) (by kernel_rfl) (fun w' => ∃ y : Later w1, w' = y.wd) (fun c a a' w hd h => ⟨hd.symm.trans h.1, h.2⟩) ⟨⟨_, fx0⟩, rfl⟩ ?_
    simp only [Rg.picks, List.getElem?_cons_succ, List.getElem?_cons_zero, Option.toList, List.cons_append, List.nil_append]
    repeat (quiet_step (fail))
    refine wpQuiet_nil ?_
    simp only [Rg.pickn, List.getElem?_cons_succ, List.getElem?_cons_zero, Option.toList, List.map_cons, List.map_nil, List.cons_append, List.nil_append]
    refine Rg.wpN_step (fun K hK => ?_) ⟨⟨_, fx0⟩, rfl⟩
    go_simp
    have B6 : Below w1.heap.size w1 (w1.alloc (.cells #[.pointer (some ⟨B, 2, none⟩), .int .i64 2, .pointer (some ⟨B, 3, none⟩), .int .i64 1, .pointer (some ⟨B, 4, none⟩), .int .i64 1, .pointer (some ⟨B, 5, none⟩), .int .i64 2, .pointer (some ⟨B, 6, none⟩), .int .i64 1, .pointer (some ⟨B, 7, none⟩), .int .i64 2, .pointer (some ⟨B, 8, none⟩), .int .i64 1, .pointer (some ⟨B, 9, none⟩), .int .i64 1] 73)).drew := ((Below.refl _ _).alloc (Nat.le_refl _) _).drew
    have hblk : (w1.alloc (.cells #[.pointer (some ⟨B, 2, none⟩), .int .i64 2, .pointer (some ⟨B, 3, none⟩), .int .i64 1, .pointer (some ⟨B, 4, none⟩), .int .i64 1, .pointer (some ⟨B, 5, none⟩), .int .i64 2, .pointer (some ⟨B, 6, none⟩), .int .i64 1, .pointer (some ⟨B, 7, none⟩), .int .i64 2, .pointer (some ⟨B, 8, none⟩), .int .i64 1, .pointer (some ⟨B, 9, none⟩), .int .i64 1] 73)).drew.heap[w1.heap.size]? = some (.cells #[.pointer (some ⟨B, 2, none⟩), .int .i64 2, .pointer (some ⟨B, 3, none⟩), .int .i64 1, .pointer (some ⟨B, 4, none⟩), .int .i64 1, .pointer (some ⟨B, 5, none⟩), .int .i64 2, .pointer (some ⟨B, 6, none⟩), .int .i64 1, .pointer (some ⟨B, 7, none⟩), .int .i64 2, .pointer (some ⟨B, 8, none⟩), .int .i64 1, .pointer (some ⟨B, 9, none⟩), .int .i64 1] 73) := World.alloc_heap_new w1 _
    have Q : FieldsPost B 0 w (.returned (.tuple #[.slice (some ⟨w1.heap.size, 0, none⟩) 8 8, .bool true])) (w1.alloc (.cells #[.pointer (some ⟨B, 2, none⟩), .int .i64 2, .pointer (some ⟨B, 3, none⟩), .int .i64 1, .pointer (some ⟨B, 4, none⟩), .int .i64 1, .pointer (some ⟨B, 5, none⟩), .int .i64 2, .pointer (some ⟨B, 6, none⟩), .int .i64 1, .pointer (some ⟨B, 7, none⟩), .int .i64 2, .pointer (some ⟨B, 8, none⟩), .int .i64 1, .pointer (some ⟨B, 9, none⟩), .int .i64 1] 73)).drew := by
      unfold FieldsPost
      rw [HF.out]
      exact ⟨_, rfl, field_row (l := [(2, 2), (3, 1), (4, 1), (5, 2), (6, 1), (7, 2), (8, 1), (9, 1)]) hblk hb1.size (fun i hi => by simp at hi; rcases i with _ | _ | _ | _ | _ | _ | _ | _ | i <;> first | exact ⟨rfl, rfl⟩ | omega), hb1.trans (B6.mono hb1.size)⟩
    have HQ := Lib.hid Q
    refine hK _ _ (fun _ => ⟨⟨_, B6⟩, rfl⟩) ?_
    clear hK K Q hblk B6 hb1
    refine Rg.wpN_list (by decide) ?_
    simp only [List.map_cons, List.map_nil]
    go_wp2_with fail
    refine bodyPost_ret (results_tmp2 rfl _ _ _) rfl ?_
    exact HQ.out
  by_cases h1 : kind = 1
  · subst h1
    have HF := Lib.hid (show fldL 1 = some [(1, 2)] from rfl)
    clear h0
    go_enter Try.func20, Try.ntmps20
    go_wp2_with fail
    go_quiet (fail)
    have hk' : (w.drewN nq).cell? ⟨B, 0, none⟩ = some (.int .i64 1) := hk
    have hb1 : Below w.heap.size w (w.drewN nq) := ⟨rfl, rfl, rfl, Nat.le_refl _, fun _ _ => rfl⟩
    have hB1 : B < (w.drewN nq).heap.size := hB
    generalize w.drewN nq = w1 at hk' hb1 hB1 ⊢
    clear hk
    have hblk := World.alloc_heap_new w1 (.cells #[.pointer (some ⟨B, 1, none⟩), .int .i64 2] 73)
    have Q : FieldsPost B 1 w (.returned (.tuple #[.slice (some ⟨w1.heap.size, 0, none⟩) 1 1, .bool true])) (w1.alloc (.cells #[.pointer (some ⟨B, 1, none⟩), .int .i64 2] 73)) := by
      unfold FieldsPost
      rw [HF.out]
      exact ⟨_, rfl, field_row (l := [(1, 2)]) hblk hb1.size (fun i hi => by simp at hi; rcases i with _ | _ | _ | _ | _ | _ | _ | _ | i <;> first | exact ⟨rfl, rfl⟩ | omega), hb1.trans (((Below.refl _ _).alloc (Nat.le_refl _) _).mono hb1.size)⟩
    have HQ := Lib.hid Q
    clear Q hblk hb1
    go_wp2_with fail
    refine bodyPost_ret (results_tmp2 rfl _ _ _) rfl ?_
    exact HQ.out
  by_cases h2 : kind = 2
  · subst h2
    have HF := Lib.hid (show fldL 2 = some [(1, 2)] from rfl)
    clear h0 h1
    go_enter Try.func20, Try.ntmps20
    go_wp2_with fail
    go_quiet (fail)
    have hk' : (w.drewN nq).cell? ⟨B, 0, none⟩ = some (.int .i64 2) := hk
    have hb1 : Below w.heap.size w (w.drewN nq) := ⟨rfl, rfl, rfl, Nat.le_refl _, fun _ _ => rfl⟩
    have hB1 : B < (w.drewN nq).heap.size := hB
    generalize w.drewN nq = w1 at hk' hb1 hB1 ⊢
    clear hk
    have hblk := World.alloc_heap_new w1 (.cells #[.pointer (some ⟨B, 1, none⟩), .int .i64 2] 73)
    have Q : FieldsPost B 2 w (.returned (.tuple #[.slice (some ⟨w1.heap.size, 0, none⟩) 1 1, .bool true])) (w1.alloc (.cells #[.pointer (some ⟨B, 1, none⟩), .int .i64 2] 73)) := by
      unfold FieldsPost
      rw [HF.out]
      exact ⟨_, rfl, field_row (l := [(1, 2)]) hblk hb1.size (fun i hi => by simp at hi; rcases i with _ | _ | _ | _ | _ | _ | _ | _ | i <;> first | exact ⟨rfl, rfl⟩ | omega), hb1.trans (((Below.refl _ _).alloc (Nat.le_refl _) _).mono hb1.size)⟩
    have HQ := Lib.hid Q
    clear Q hblk hb1
    go_wp2_with fail
    refine bodyPost_ret (results_tmp2 rfl _ _ _) rfl ?_
    exact HQ.out
  by_cases h7 : kind = 7
  · subst h7
    have HF := Lib.hid (show fldL 7 = some [(1, 2)] from rfl)
    clear h0 h1 h2
    go_enter Try.func20, Try.ntmps20
    go_wp2_with fail
    go_quiet (fail)
    have hk' : (w.drewN nq).cell? ⟨B, 0, none⟩ = some (.int .i64 7) := hk
    have hb1 : Below w.heap.size w (w.drewN nq) := ⟨rfl, rfl, rfl, Nat.le_refl _, fun _ _ => rfl⟩
    have hB1 : B < (w.drewN nq).heap.size := hB
    generalize w.drewN nq = w1 at hk' hb1 hB1 ⊢
    clear hk
    have hblk := World.alloc_heap_new w1 (.cells #[.pointer (some ⟨B, 1, none⟩), .int .i64 2] 73)
    have Q : FieldsPost B 7 w (.returned (.tuple #[.slice (some ⟨w1.heap.size, 0, none⟩) 1 1, .bool true])) (w1.alloc (.cells #[.pointer (some ⟨B, 1, none⟩), .int .i64 2] 73)) := by
      unfold FieldsPost
      rw [HF.out]
      exact ⟨_, rfl, field_row (l := [(1, 2)]) hblk hb1.size (fun i hi => by simp at hi; rcases i with _ | _ | _ | _ | _ | _ | _ | _ | i <;> first | exact ⟨rfl, rfl⟩ | omega), hb1.trans (((Below.refl _ _).alloc (Nat.le_refl _) _).mono hb1.size)⟩
    have HQ := Lib.hid Q
    clear Q hblk hb1
    go_wp2_with fail
    refine bodyPost_ret (results_tmp2 rfl _ _ _) rfl ?_
    exact HQ.out
  by_cases h3 : kind = 3
  · subst h3
    have HF := Lib.hid (show fldL 3 = some [(1, 1)] from rfl)
    clear h0 h1 h2 h7
    go_enter Try.func20, Try.ntmps20
    go_wp2_with fail
    go_quiet (fail)
    have hk' : (w.drewN nq).cell? ⟨B, 0, none⟩ = some (.int .i64 3) := hk
    have hb1 : Below w.heap.size w (w.drewN nq) := ⟨rfl, rfl, rfl, Nat.le_refl _, fun _ _ => rfl⟩
    have hB1 : B < (w.drewN nq).heap.size := hB
    generalize w.drewN nq = w1 at hk' hb1 hB1 ⊢
    clear hk
    have hblk := World.alloc_heap_new w1 (.cells #[.pointer (some ⟨B, 1, none⟩), .int .i64 1] 73)
    have Q : FieldsPost B 3 w (.returned (.tuple #[.slice (some ⟨w1.heap.size, 0, none⟩) 1 1, .bool true])) (w1.alloc (.cells #[.pointer (some ⟨B, 1, none⟩), .int .i64 1] 73)) := by
      unfold FieldsPost
      rw [HF.out]
      exact ⟨_, rfl, field_row (l := [(1, 1)]) hblk hb1.size (fun i hi => by simp at hi; rcases i with _ | _ | _ | _ | _ | _ | _ | _ | i <;> first | exact ⟨rfl, rfl⟩ | omega), hb1.trans (((Below.refl _ _).alloc (Nat.le_refl _) _).mono hb1.size)⟩
    have HQ := Lib.hid Q
    clear Q hblk hb1
    go_wp2_with fail
    refine bodyPost_ret (results_tmp2 rfl _ _ _) rfl ?_
    exact HQ.out
  by_cases h4 : kind = 4
  · subst h4
    have HF := Lib.hid (show fldL 4 = some [(1, 1)] from rfl)
    clear h0 h1 h2 h7 h3
    go_enter Try.func20, Try.ntmps20
    go_wp2_with fail
    go_quiet (fail)
    have hk' : (w.drewN nq).cell? ⟨B, 0, none⟩ = some (.int .i64 4) := hk
    have hb1 : Below w.heap.size w (w.drewN nq) := ⟨rfl, rfl, rfl, Nat.le_refl _, fun _ _ => rfl⟩
    have hB1 : B < (w.drewN nq).heap.size := hB
    generalize w.drewN nq = w1 at hk' hb1 hB1 ⊢
    clear hk
    have hblk := World.alloc_heap_new w1 (.cells #[.pointer (some ⟨B, 1, none⟩), .int .i64 1] 73)
    have Q : FieldsPost B 4 w (.returned (.tuple #[.slice (some ⟨w1.heap.size, 0, none⟩) 1 1, .bool true])) (w1.alloc (.cells #[.pointer (some ⟨B, 1, none⟩), .int .i64 1] 73)) := by
      unfold FieldsPost
      rw [HF.out]
      exact ⟨_, rfl, field_row (l := [(1, 1)]) hblk hb1.size (fun i hi => by simp at hi; rcases i with _ | _ | _ | _ | _ | _ | _ | _ | i <;> first | exact ⟨rfl, rfl⟩ | omega), hb1.trans (((Below.refl _ _).alloc (Nat.le_refl _) _).mono hb1.size)⟩
    have HQ := Lib.hid Q
    clear Q hblk hb1
    go_wp2_with fail
    refine bodyPost_ret (results_tmp2 rfl _ _ _) rfl ?_
    exact HQ.out
  by_cases h6 : kind = 6
  · subst h6
    have HF := Lib.hid (show fldL 6 = some [(1, 1)] from rfl)
    clear h0 h1 h2 h7 h3 h4
    go_enter Try.func20, Try.ntmps20
    go_wp2_with fail
    go_quiet (fail)
    have hk' : (w.drewN nq).cell? ⟨B, 0, none⟩ = some (.int .i64 6) := hk
    have hb1 : Below w.heap.size w (w.drewN nq) := ⟨rfl, rfl, rfl, Nat.le_refl _, fun _ _ => rfl⟩
    have hB1 : B < (w.drewN nq).heap.size := hB
    generalize w.drewN nq = w1 at hk' hb1 hB1 ⊢
    clear hk
    have hblk := World.alloc_heap_new w1 (.cells #[.pointer (some ⟨B, 1, none⟩), .int .i64 1] 73)
    have Q : FieldsPost B 6 w (.returned (.tuple #[.slice (some ⟨w1.heap.size, 0, none⟩) 1 1, .bool true])) (w1.alloc (.cells #[.pointer (some ⟨B, 1, none⟩), .int .i64 1] 73)) := by
      unfold FieldsPost
      rw [HF.out]
      exact ⟨_, rfl, field_row (l := [(1, 1)]) hblk hb1.size (fun i hi => by simp at hi; rcases i with _ | _ | _ | _ | _ | _ | _ | _ | i <;> first | exact ⟨rfl, rfl⟩ | omega), hb1.trans (((Below.refl _ _).alloc (Nat.le_refl _) _).mono hb1.size)⟩
    have HQ := Lib.hid Q
    clear Q hblk hb1
    go_wp2_with fail
    refine bodyPost_ret (results_tmp2 rfl _ _ _) rfl ?_
    exact HQ.out
  by_cases h5 : kind = 5
  · subst h5
    have HF := Lib.hid (show fldL 5 = some [] from rfl)
    clear h0 h1 h2 h7 h3 h4 h6
    go_enter Try.func20, Try.ntmps20
    go_wp2_with fail
    go_quiet (fail)
    have hk' : (w.drewN nq).cell? ⟨B, 0, none⟩ = some (.int .i64 5) := hk
    have hb1 : Below w.heap.size w (w.drewN nq) := ⟨rfl, rfl, rfl, Nat.le_refl _, fun _ _ => rfl⟩
    have hB1 : B < (w.drewN nq).heap.size := hB
    generalize w.drewN nq = w1 at hk' hb1 hB1 ⊢
    clear hk
    have HB := Lib.hid hb1
    go_wp2_with fail
    refine bodyPost_ret (results_tmp2 rfl _ _ _) rfl ?_
    unfold FieldsPost
    rw [HF.out]
    exact ⟨_, rfl, FieldRow.nil _ _ _, HB.out⟩
  · have HF := Lib.hid (show fldL kind = none by unfold fldL; rw [if_neg h0, if_neg (by omega), if_neg (by omega), if_neg h5])
    have e0 : (kind == 0) = false := by simpa using h0
    have e1 : (kind == 1) = false := by simpa using h1
    have e2 : (kind == 2) = false := by simpa using h2
    have e7 : (kind == 7) = false := by simpa using h7
    have e3 : (kind == 3) = false := by simpa using h3
    have e4 : (kind == 4) = false := by simpa using h4
    have e6 : (kind == 6) = false := by simpa using h6
    have e5 : (kind == 5) = false := by simpa using h5
    clear h0 h1 h2 h7 h3 h4 h6 h5
    go_enter Try.func20, Try.ntmps20
    go_wp2_with fail
    go_quiet (fail)
    have hk' : (w.drewN nq).cell? ⟨B, 0, none⟩ = some (.int .i64 kind) := hk
    have hb1 : Below w.heap.size w (w.drewN nq) := ⟨rfl, rfl, rfl, Nat.le_refl _, fun _ _ => rfl⟩
    have hB1 : B < (w.drewN nq).heap.size := hB
    generalize w.drewN nq = w1 at hk' hb1 hB1 ⊢
    clear hk
    have HB := Lib.hid hb1
    go_wp2_with fail
    refine bodyPost_ret (results_tmp2 rfl _ _ _) rfl ?_
    unfold FieldsPost
    rw [HF.out]
    exact ⟨_, rfl, FieldRow.nil _ _ _, HB.out⟩
end Go.Proofs.Ytghfdiaaonjofaa
