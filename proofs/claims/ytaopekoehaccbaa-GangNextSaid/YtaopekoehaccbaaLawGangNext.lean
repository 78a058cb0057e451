/-
  The law GangNext: to what anything leads is as the table says, or refused; what is over stays so.
-/
import Derived.Test.YtaopekoehaccbaaGangNext
namespace Go.Proofs.Ytaopekoehaccbaa
open Go.RowKit Go.Maps

set_option maxHeartbeats 400000 in
theorem awake_any (w : World) : Calls Try.prog 9 #[] w fun e w' => e = .returned (.bool true) ∧ Below w.heap.size w w' := by
  have h1 : nextF 1 2 = (0, 8) := by rfl
  have h2 : nextF 2 3 = (1, 0) := by rfl
  have h3 : inB 5 4 6 = true := by rfl
  have H1 := Lib.hid h1
  have H2 := Lib.hid h2
  have H3 := Lib.hid h3
  clear h1 h2 h3
  go_enter Try.func9, Try.ntmps9
  go_wp2_with fail
  refine (next_any _ _ _).mono ?_
  rintro e w1 ⟨rfl, hb1⟩
  rw [H1.out]
  go_wp2_with fail
  refine (next_any _ _ _).mono ?_
  rintro e w2 ⟨rfl, hb2⟩
  rw [H2.out]
  go_wp2_with fail
  refine (over_any _ _).mono ?_
  rintro e w3 ⟨rfl, rfl⟩
  rw [H3.out]
  go_wp2
  go_ret
  exact ⟨rfl, hb1.trans (hb2.mono hb1.size)⟩

theorem over_eq (s e : Int) (h : inB s 4 6 = true) : (nextF s e).2 ≠ 0 := by
  rw [nextF_eq]
  simp [inB] at h
  unfold nextR
  repeat' split
  all_goals simp
  all_goals omega

set_option maxHeartbeats 400000 in
theorem gangNext_walk (s : Int) (_ : (Lit.int .i64 s).wf = true) (ev : Int) (_ : (Lit.int .i64 ev).wf = true) (w : World) :
    Calls Try.prog 3 #[.int .i64 s, .int .i64 ev] w fun e w' => e = .returned (.bool true) ∧ Below w.heap.size w w' := by
  obtain ⟨⟨a, b⟩, hab⟩ : ∃ p, nextF s ev = p := ⟨_, rfl⟩
  have HN := Lib.hid hab
  have HO : inB s 4 6 = true → b ≠ 0 := fun h => by have := over_eq s ev h; rw [hab] at this; exact this
  clear hab
  by_cases ho : 4 ≤ s
  · by_cases ho' : s ≤ 6
    · have HB := Lib.hid (show inB s 4 6 = true by simp [inB, ho, ho'])
      have hb0 : (b != 0) = true := by simpa using HO HB.out
      clear HO
      go_enter Try.func3, Try.ntmps3
      go_wp2_with fail
      refine (awake_any _).mono ?_
      rintro e w0 ⟨rfl, hb0⟩
      go_wp2_with fail
      refine (next_any _ _ _).mono ?_
      rintro e w1 ⟨rfl, hb1⟩
      rw [HN.out]
      go_wp2_with fail
      refine (refNext_any _ _ _).mono ?_
      rintro e w2 ⟨rfl, hb2⟩
      rw [HN.out]
      go_wp2_with fail
      refine (over_any _ _).mono ?_
      rintro e w3 ⟨rfl, rfl⟩
      rw [HB.out]
      go_wp2
      go_ret
      exact ⟨rfl, hb0.trans ((hb1.mono hb0.size).trans (hb2.mono (Nat.le_trans hb0.size hb1.size)))⟩
    · have HB := Lib.hid (show inB s 4 6 = false by simp [inB, ho'])
      clear HO
      go_enter Try.func3, Try.ntmps3
      go_wp2_with fail
      refine (awake_any _).mono ?_
      rintro e w0 ⟨rfl, hb0⟩
      go_wp2_with fail
      refine (next_any _ _ _).mono ?_
      rintro e w1 ⟨rfl, hb1⟩
      rw [HN.out]
      go_wp2_with fail
      refine (refNext_any _ _ _).mono ?_
      rintro e w2 ⟨rfl, hb2⟩
      rw [HN.out]
      go_wp2_with fail
      refine (over_any _ _).mono ?_
      rintro e w3 ⟨rfl, rfl⟩
      rw [HB.out]
      go_wp2
      go_ret
      exact ⟨rfl, hb0.trans ((hb1.mono hb0.size).trans (hb2.mono (Nat.le_trans hb0.size hb1.size)))⟩
  · have HB := Lib.hid (show inB s 4 6 = false by simp [inB, ho])
    clear HO
    go_enter Try.func3, Try.ntmps3
    go_wp2_with fail
    refine (awake_any _).mono ?_
    rintro e w0 ⟨rfl, hb0⟩
    go_wp2_with fail
    refine (next_any _ _ _).mono ?_
    rintro e w1 ⟨rfl, hb1⟩
    rw [HN.out]
    go_wp2_with fail
    refine (refNext_any _ _ _).mono ?_
    rintro e w2 ⟨rfl, hb2⟩
    rw [HN.out]
    go_wp2_with fail
    refine (over_any _ _).mono ?_
    rintro e w3 ⟨rfl, rfl⟩
    rw [HB.out]
    go_wp2
    go_ret
    exact ⟨rfl, hb0.trans ((hb1.mono hb0.size).trans (hb2.mono (Nat.le_trans hb0.size hb1.size)))⟩
end Go.Proofs.Ytaopekoehaccbaa
