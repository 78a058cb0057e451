/-
  gang.Next, the document's Next, gang.Over: contracts.
-/
import Derived.Test.YtaopekoehaccbaaGangNextW
import Derived.Lib.Hide
namespace Go.Proofs.Ytaopekoehaccbaa
open Go.RowKit Go.Maps

def nextF (s e : Int) : Int × Int := if 1 ≤ s ∧ s ≤ 6 ∧ 1 ≤ e ∧ e ≤ 6 then (match leadsF (s, e) with | some v => (v, 0) | none => (0, 8)) else (0, 1)

theorem leads_zero (w : World) : (zeroValue 3).run Try.prog w = .ok (.int .i64 0) w := by kernel_rfl

theorem leads_lookup {w : World} {es : Array MapEntry} {c : Nat} {m : List ((Int × Int) × Value)} (hE : Mp.Ents POk pair es m) (hl : ∀ k, Mp.look m k = (leadsF k).map (Value.int .i64)) {s e : Int} (hs : 1 ≤ s ∧ s ≤ 6) (he : 1 ≤ e ∧ e ≤ 6) :
    (Instr.lookup 65 (.map (some w.heap.size)) (.agg #[.int .i64 s, .int .i64 e]) true).run Try.prog ((w.alloc (.map es c)).drew) =
      .ok (.tuple #[.int .i64 (match leadsF (s, e) with | some v => v | none => 0), .bool (leadsF (s, e)).isSome]) ((w.alloc (.map es c)).drew) := by
  have := Mp.lookup_ok (k := (s, e)) (w := (w.alloc (.map es c)).drew) (r := w.heap.size) pairKey infoLeads leads_zero (World.alloc_heap_new w _) hE ⟨okInt_small (by omega) (by omega), okInt_small (by omega) (by omega)⟩
  rw [show pair (s, e) = .agg #[.int .i64 s, .int .i64 e] from rfl] at this
  rw [this, hl]
  cases leadsF (s, e) <;> rfl

def NextPost (s ev : Int) (w : World) (e : Ending) (w' : World) : Prop := e = .returned (.tuple #[.int .i64 (nextF s ev).1, .int .i64 (nextF s ev).2]) ∧ Below w.heap.size w w'

set_option maxHeartbeats 400000 in
theorem next_any (s ev : Int) (w : World) :
    Calls Try.prog 10 #[.int .i64 s, .int .i64 ev] w fun e w' => NextPost s ev w e w' := by
  by_cases h1 : 1 ≤ s ∧ s ≤ 6
  · have b1 : inB s 1 6 = true := by simpa [inB] using h1
    by_cases h2 : 1 ≤ ev ∧ ev ≤ 6
    · have b2 : inB ev 1 6 = true := by simpa [inB] using h2
      cases hf : leadsF (s, ev) with
      | some v =>
        have HN := Lib.hid (show nextF s ev = (v, 0) by simp [nextF, h1, h2, hf])
        have H := Lib.hid hf
        clear hf
        go_enter Try.func10, Try.ntmps10
        go_wp2_with (first | (go_at_call 27; refine (in_any _ _ _ _).mono ?_; rintro e w' ⟨rfl, rfl⟩) | (go_at_call 28; refine (leads_any _).mono ?_; rintro e w' ⟨es, c, m, rfl, rfl, hE, hl⟩; have hlk := leads_lookup (w := w) (c := c) hE hl h1 h2; rw [H.out] at hlk; clear hl hE))
        go_ret2
        exact ⟨by rw [HN.out]; rfl, ((Below.refl _ _).alloc (Nat.le_refl _) _).drew⟩
      | none =>
        have HN := Lib.hid (show nextF s ev = (0, 8) by simp [nextF, h1, h2, hf])
        have H := Lib.hid hf
        clear hf
        go_enter Try.func10, Try.ntmps10
        go_wp2_with (first | (go_at_call 27; refine (in_any _ _ _ _).mono ?_; rintro e w' ⟨rfl, rfl⟩) | (go_at_call 28; refine (leads_any _).mono ?_; rintro e w' ⟨es, c, m, rfl, rfl, hE, hl⟩; have hlk := leads_lookup (w := w) (c := c) hE hl h1 h2; rw [H.out] at hlk; clear hl hE))
        go_ret2
        exact ⟨by rw [HN.out]; rfl, ((Below.refl _ _).alloc (Nat.le_refl _) _).drew⟩
    · have b2 : inB ev 1 6 = false := by simpa [inB] using h2
      have HN := Lib.hid (show nextF s ev = (0, 1) by unfold nextF; rw [if_neg (by omega)])
      go_enter Try.func10, Try.ntmps10
      go_wp2_with (go_at_call 27; refine (in_any _ _ _ _).mono ?_; rintro e w' ⟨rfl, rfl⟩)
      go_ret2
      exact ⟨by rw [HN.out]; rfl, Below.refl _ _⟩
  · have b1 : inB s 1 6 = false := by simpa [inB] using h1
    have HN := Lib.hid (show nextF s ev = (0, 1) by unfold nextF; rw [if_neg (by omega)])
    go_enter Try.func10, Try.ntmps10
    go_wp2_with (go_at_call 27; refine (in_any _ _ _ _).mono ?_; rintro e w' ⟨rfl, rfl⟩)
    go_ret2
    exact ⟨by rw [HN.out]; rfl, Below.refl _ _⟩

set_option maxHeartbeats 400000 in
theorem over_any (s : Int) (w : World) :
    Calls Try.prog 12 #[.int .i64 s] w fun e w' => e = .returned (.bool (inB s 4 6)) ∧ w = w' := by
  go_enter Try.func12, Try.ntmps12
  go_wp2_with (go_at_call 27; refine (in_any _ _ _ _).mono ?_; rintro e w' ⟨rfl, rfl⟩)
  go_ret
  exact ⟨rfl, rfl⟩

def nextR (s e : Int) : Int × Int :=
  if s < 1 ∨ 6 < s ∨ e < 1 ∨ 6 < e then (0, 1) else if e = 1 ∧ s = 1 then (2, 0) else if e = 2 ∧ s = 2 then (3, 0) else if e = 3 ∧ s = 2 then (1, 0) else
  if e = 4 ∧ s = 3 then (4, 0) else if e = 5 ∧ (s = 2 ∨ s = 3) then (5, 0) else if e = 6 ∧ s ≤ 3 then (6, 0) else (0, 8)
theorem nextF_eq (s e : Int) : nextF s e = nextR s e := by
  unfold nextF nextR
  by_cases h : 1 ≤ s ∧ s ≤ 6 ∧ 1 ≤ e ∧ e ≤ 6
  · rw [if_pos h, if_neg (by omega)]
    obtain ⟨h1, h2, h3, h4⟩ := h
    have hs : s = 1 ∨ s = 2 ∨ s = 3 ∨ s = 4 ∨ s = 5 ∨ s = 6 := by omega
    have he : e = 1 ∨ e = 2 ∨ e = 3 ∨ e = 4 ∨ e = 5 ∨ e = 6 := by omega
    rcases hs with rfl | rfl | rfl | rfl | rfl | rfl <;> rcases he with rfl | rfl | rfl | rfl | rfl | rfl <;> rfl
  · rw [if_neg h, if_pos (by omega)]

set_option maxHeartbeats 1000000 in
theorem refNext_any (s ev : Int) (w : World) :
    Calls Try.prog 11 #[.int .i64 s, .int .i64 ev] w fun e w' => NextPost s ev w e w' := by
  go_enter Try.func11, Try.ntmps11
  go_wp2
  all_goals try simp only [beq_iff_eq, beq_eq_false_iff_ne] at *
  all_goals try simp only [Exit.inBlock, Exit.then]
  all_goals go_ret2
  all_goals refine ⟨?_, Below.refl _ _⟩
  all_goals rw [nextF_eq]
  all_goals unfold nextR
  all_goals (repeat (first | rw [if_pos (by omega)] | rw [if_neg (by omega)]))
  all_goals rfl
end Go.Proofs.Ytaopekoehaccbaa
