/-
  What the laws of order share: awake, what lies in the boxes, who is ahead as numbers.
-/
import Derived.Test.YtlbneinfejnaaaaOrderApi
set_option linter.unusedVariables false
set_option linter.unusedSimpArgs false
namespace Go.Proofs.Ytlbneinfejnaaaa
open Go.RowKit

theorem one_any (p s n : Int) (w : World) :
    Calls Try.prog 22 #[.int .i64 p, .int .i64 s, .int .i64 n] w fun e w' => e = .returned ((.agg #[.int .i64 (Jb.id (Wt.job ((⟨⟨0, 0, p, 0, ⟨0, 0, 0, 0⟩⟩, s, n⟩ : Wt)))), .int .i64 (Jb.queue (Wt.job ((⟨⟨0, 0, p, 0, ⟨0, 0, 0, 0⟩⟩, s, n⟩ : Wt)))), .int .i64 (Jb.prio (Wt.job ((⟨⟨0, 0, p, 0, ⟨0, 0, 0, 0⟩⟩, s, n⟩ : Wt)))), .int .i64 (Jb.runtime (Wt.job ((⟨⟨0, 0, p, 0, ⟨0, 0, 0, 0⟩⟩, s, n⟩ : Wt)))), .int .i64 (Sh.gpus (Jb.shape (Wt.job ((⟨⟨0, 0, p, 0, ⟨0, 0, 0, 0⟩⟩, s, n⟩ : Wt))))), .int .i64 (Sh.cpus (Jb.shape (Wt.job ((⟨⟨0, 0, p, 0, ⟨0, 0, 0, 0⟩⟩, s, n⟩ : Wt))))), .int .i64 (Sh.mn (Jb.shape (Wt.job ((⟨⟨0, 0, p, 0, ⟨0, 0, 0, 0⟩⟩, s, n⟩ : Wt))))), .int .i64 (Sh.mx (Jb.shape (Wt.job ((⟨⟨0, 0, p, 0, ⟨0, 0, 0, 0⟩⟩, s, n⟩ : Wt))))), .int .i64 (Wt.since ((⟨⟨0, 0, p, 0, ⟨0, 0, 0, 0⟩⟩, s, n⟩ : Wt))), .int .i64 (Wt.number ((⟨⟨0, 0, p, 0, ⟨0, 0, 0, 0⟩⟩, s, n⟩ : Wt)))])) ∧ Below w.heap.size w w' := by
  go_enter Try.func22, Try.ntmps22
  go_wp2
  refine bodyPost_ret (v := (.agg #[.int .i64 (Jb.id (Wt.job ((⟨⟨0, 0, p, 0, ⟨0, 0, 0, 0⟩⟩, s, n⟩ : Wt)))), .int .i64 (Jb.queue (Wt.job ((⟨⟨0, 0, p, 0, ⟨0, 0, 0, 0⟩⟩, s, n⟩ : Wt)))), .int .i64 (Jb.prio (Wt.job ((⟨⟨0, 0, p, 0, ⟨0, 0, 0, 0⟩⟩, s, n⟩ : Wt)))), .int .i64 (Jb.runtime (Wt.job ((⟨⟨0, 0, p, 0, ⟨0, 0, 0, 0⟩⟩, s, n⟩ : Wt)))), .int .i64 (Sh.gpus (Jb.shape (Wt.job ((⟨⟨0, 0, p, 0, ⟨0, 0, 0, 0⟩⟩, s, n⟩ : Wt))))), .int .i64 (Sh.cpus (Jb.shape (Wt.job ((⟨⟨0, 0, p, 0, ⟨0, 0, 0, 0⟩⟩, s, n⟩ : Wt))))), .int .i64 (Sh.mn (Jb.shape (Wt.job ((⟨⟨0, 0, p, 0, ⟨0, 0, 0, 0⟩⟩, s, n⟩ : Wt))))), .int .i64 (Sh.mx (Jb.shape (Wt.job ((⟨⟨0, 0, p, 0, ⟨0, 0, 0, 0⟩⟩, s, n⟩ : Wt))))), .int .i64 (Wt.since ((⟨⟨0, 0, p, 0, ⟨0, 0, 0, 0⟩⟩, s, n⟩ : Wt))), .int .i64 (Wt.number ((⟨⟨0, 0, p, 0, ⟨0, 0, 0, 0⟩⟩, s, n⟩ : Wt)))])) ?_ rfl ⟨rfl, ?_⟩
  · simp [results, Try.results22, go_sem]
  · exact (Below.refl _ _).alloc (Nat.le_refl _) _

set_option maxHeartbeats 2000000 in
theorem awake_any (w : World) : Calls Try.prog 10 #[] w fun e w' => e = .returned (.bool true) ∧ Below w.heap.size w w' := by
  have h1 : ((⟨⟨0, 0, 2, 0, ⟨0, 0, 0, 0⟩⟩, 0, 1⟩ : Wt).right && timeB 6 4) = true := by decide
  have h2 : rankF (⟨⟨0, 0, 2, 0, ⟨0, 0, 0, 0⟩⟩, 0, 1⟩ : Wt) 6 4 = 3 := by decide
  have h3 : ((⟨⟨0, 0, 3, 0, ⟨0, 0, 0, 0⟩⟩, 5, 2⟩ : Wt).right && timeB 6 4) = true := by decide
  have h4 : rankF (⟨⟨0, 0, 3, 0, ⟨0, 0, 0, 0⟩⟩, 5, 2⟩ : Wt) 6 4 = 3 := by decide
  have h5 : okB (⟨⟨0, 0, 2, 0, ⟨0, 0, 0, 0⟩⟩, 0, 1⟩ : Wt) (⟨⟨0, 0, 3, 0, ⟨0, 0, 0, 0⟩⟩, 5, 2⟩ : Wt) 6 4 = true := by decide
  have h6 : aheadF (⟨⟨0, 0, 2, 0, ⟨0, 0, 0, 0⟩⟩, 0, 1⟩ : Wt) (⟨⟨0, 0, 3, 0, ⟨0, 0, 0, 0⟩⟩, 5, 2⟩ : Wt) 6 4 = true := by decide
  have H1 := Lib.hid h1; have H2 := Lib.hid h2; have H3 := Lib.hid h3; have H4 := Lib.hid h4; have H5 := Lib.hid h5; have H6 := Lib.hid h6
  clear h1 h2 h3 h4 h5 h6
  go_enter Try.func10, Try.ntmps10
  go_wp2_with fail
  refine (one_any _ _ _ _).mono ?_
  rintro e w1 ⟨rfl, hb1⟩
  go_wp2_with fail
  refine (Rank_any (⟨⟨0, 0, 2, 0, ⟨0, 0, 0, 0⟩⟩, 0, 1⟩ : Wt) 6 4 _).mono ?_
  rintro e w2 ⟨rfl, hb2⟩
  rw [H1.out, H2.out]
  go_wp2_with fail
  refine (one_any _ _ _ _).mono ?_
  rintro e w3 ⟨rfl, hb3⟩
  go_wp2_with fail
  refine (Rank_any (⟨⟨0, 0, 3, 0, ⟨0, 0, 0, 0⟩⟩, 5, 2⟩ : Wt) 6 4 _).mono ?_
  rintro e w4 ⟨rfl, hb4⟩
  rw [H3.out, H4.out]
  go_wp2_with fail
  refine (one_any _ _ _ _).mono ?_
  rintro e w5 ⟨rfl, hb5⟩
  go_wp2_with fail
  refine (one_any _ _ _ _).mono ?_
  rintro e w6 ⟨rfl, hb6⟩
  go_wp2_with fail
  refine (Ahead_any (⟨⟨0, 0, 2, 0, ⟨0, 0, 0, 0⟩⟩, 0, 1⟩ : Wt) (⟨⟨0, 0, 3, 0, ⟨0, 0, 0, 0⟩⟩, 5, 2⟩ : Wt) 6 4 _).mono ?_
  rintro e w7 ⟨rfl, hb7⟩
  rw [H5.out, H6.out]
  go_wp2
  go_ret
  have s1 := hb1.trans (hb2.mono hb1.size)
  have s2 := s1.trans (hb3.mono s1.size)
  have s3 := s2.trans (hb4.mono s2.size)
  have s4 := s3.trans (hb5.mono s3.size)
  have s5 := s4.trans (hb6.mono s4.size)
  exact ⟨rfl, s5.trans (hb7.mono s5.size)⟩

theorem cmpF_lt {a b : Int} : cmpF a b < 0 ↔ a < b := by unfold cmpF; split <;> (try split) <;> omega
theorem cmpF_ne {a b : Int} : cmpF a b ≠ 0 ↔ a ≠ b := by unfold cmpF; split <;> (try split) <;> omega
theorem aheadF_iff {a b : Wt} {now age : Int} : aheadF a b now age = true ↔
    rankF b now age < rankF a now age ∨ (rankF b now age = rankF a now age ∧ (a.number < b.number ∨ (a.number = b.number ∧ a.job.id < b.job.id))) := by
  unfold aheadF compareF
  rw [decide_eq_true_eq]
  split
  · rename_i h
    rw [cmpF_lt]; have := cmpF_ne.1 h; omega
  · rename_i h
    have h1 : rankF b now age = rankF a now age := by have := (not_congr cmpF_ne).1 h; omega
    split
    · rename_i h2
      rw [cmpF_lt]; have := cmpF_ne.1 h2; omega
    · rename_i h2
      have := (not_congr cmpF_ne).1 h2
      rw [cmpF_lt]; omega
end Go.Proofs.Ytlbneinfejnaaaa
