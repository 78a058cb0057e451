/-
  wire: the document's numbers and cuts.
-/
import Derived.Test.YtghfdiaaonjofaaWireParse
set_option linter.unusedVariables false
set_option linter.unusedSimpArgs false
namespace Go.Proofs.Ytghfdiaaonjofaa
open Go.RowKit

theorem pow256 {m : Nat} (h : m ≤ 7) : (256 : Int) ^ m ≤ 72057594037927936 := by
  have : m = 0 ∨ m = 1 ∨ m = 2 ∨ m = 3 ∨ m = 4 ∨ m = 5 ∨ m = 6 ∨ m = 7 := by omega
  rcases this with rfl | rfl | rfl | rfl | rfl | rfl | rfl | rfl <;> decide
theorem number_any (s : ByteArray) (w : World) (hs : s.size ≤ 7) : Calls Try.prog 30 #[.string s] w fun e w' => e = .returned (.int .i64 (numF s 0 s.size)) ∧ w' = w := by
  obtain ⟨n, hn⟩ : ∃ n, s.size = n := ⟨_, rfl⟩
  have HN := Lib.hid hn
  rw [hn] at hs ⊢
  go_enter Try.func30, Try.ntmps30
  go_wp2_with fail
  go_loopw [3, 4] (fun t i wr => ∃ k : Nat, k ≤ n ∧ i = .int .i64 k ∧ t = .int .i64 (numF s 0 k) ∧ wr = w) (fun _ i _ => n - (intOf i).toNat)
  case atStart => exact ⟨0, Nat.zero_le _, rfl, rfl, rfl⟩
  case round =>
    obtain ⟨k, hk, rfl, rfl, rfl⟩ := hrel
    by_cases hlt : k < n
    · have hks : k < s.size := by rw [HN.out]; exact hlt
      have hb := numF_bound s 0 k
      have hp := pow256 (m := k) (by omega)
      have hb1 : numF s 0 k < 72057594037927936 := by
        have : k ≤ 6 := by omega
        omega
      have hb0 := hb.1
      have hy : s[k].toNat < 256 := UInt8.toNat_lt _
      have e3 : (s.data[k]?).getD 0 = s[k] := by
        have : s.data[k]? = some s[k] := Array.getElem?_eq_getElem hks
        rw [this]; rfl
      have hnx : numF s 0 (k + 1) = numF s 0 k * 256 + (s[k].toNat : Int) := by
        simp only [numF, Nat.zero_add]
        rw [e3]
      have hp6 : numF s 0 k < 281474976710656 := by
        have h6 : k = 0 ∨ k = 1 ∨ k = 2 ∨ k = 3 ∨ k = 4 ∨ k = 5 ∨ k = 6 := by omega
        have := hb.2
        rcases h6 with rfl | rfl | rfl | rfl | rfl | rfl | rfl <;> simp at this <;> omega
      clear hb hp e3
      go_wp2_with fail
      exact ⟨⟨k + 1, by omega, by go_num, by first | (rw [hnx]; done) | (rw [hnx]; congr 1; first | rfl | (unfold wrap64; omega)), trivial⟩, by simp [intOf]; omega⟩
    · obtain rfl : k = n := by omega
      go_wp2_with fail
      go_ret
      exact ⟨rfl, rfl⟩
theorem cut_any (s : ByteArray) (n : Nat) (w : World) (hs : s.size ≤ 100000) (hn : n ≤ 7) : Calls Try.prog 37 #[.string s, .int .i64 n] w fun e w' =>
    (if n ≤ s.size then e = .returned (.tuple #[.int .i64 (numF s 0 n), .string (s.extract n s.size)]) else e = .returned (.tuple #[.int .i64 (-1), .string ⟨#[]⟩])) ∧ Below w.heap.size w w' := by
  by_cases h : n ≤ s.size
  · simp only [if_pos h]
    have hd : decide ((s.size : Int) < (n : Int)) = false := by simp; omega
    have hsz : (s.extract 0 n).size = n := by rw [ByteArray.size_extract]; omega
    have hnum := fun w' => number_any (s.extract 0 n) w' (by omega)
    rw [hsz, numF_extract s 0 n 0 n (by omega) h] at hnum
    go_enter Try.func37, Try.ntmps37
    go_wp2_with fail
    go_quiet ((go_at_call 30; exact Calls.quiet_of_same (hnum _)))
    have hBq : Below w.heap.size w (w.drewN nq) := ⟨rfl, rfl, rfl, Nat.le_refl _, fun _ _ => rfl⟩
    generalize w.drewN nq = wq at hBq ⊢
    go_wp2_with fail
    refine bodyPost_ret (results_tmp2 rfl _ _ _) rfl ?_
    exact ⟨by simp only [Nat.add_zero]; rfl, hBq⟩
  · simp only [if_neg h]
    have hd : decide ((s.size : Int) < (n : Int)) = true := by simp; omega
    go_enter Try.func37, Try.ntmps37
    go_wp2_with fail
    refine bodyPost_ret (results_tmp2 rfl _ _ _) rfl ?_
    exact ⟨rfl, Below.refl _ _⟩
theorem extract_drop (s : ByteArray) (a n : Nat) (h : a + n ≤ s.size) : (s.extract a s.size).extract n (s.size - a) = s.extract (a + n) s.size := by
  have hsz : s.size = s.data.size := by cases s; rfl
  apply ByteArray.ext
  rw [ByteArray.data_extract, ByteArray.data_extract, ByteArray.data_extract, Array.extract_extract]
  congr 1
  omega
theorem extract_end (s : ByteArray) : s.extract s.size s.size = ⟨#[]⟩ := by
  have hsz : s.size = s.data.size := by cases s; rfl
  apply ByteArray.ext
  rw [ByteArray.data_extract]
  simp
/-- what is cut off what is left of bytes -/
def CutP (s : ByteArray) (a n : Nat) (w : World) (e : Ending) (w' : World) : Prop :=
  ∃ (v : Int) (a' : Nat), e = .returned (.tuple #[.int .i64 v, .string (s.extract a' s.size)]) ∧ Below w.heap.size w w' ∧ a' ≤ s.size ∧ ((a + n ≤ s.size ∧ v = numF s a n ∧ a' = a + n) ∨ (s.size < a + n ∧ v = -1 ∧ a' = s.size))
theorem cutA (s : ByteArray) (a n : Nat) (w : World) (hs : s.size ≤ 100000) (ha : a ≤ s.size) (hn : n ≤ 7) : Calls Try.prog 37 #[.string (s.extract a s.size), .int .i64 n] w (CutP s a n w) := by
  have hsz : (s.extract a s.size).size = s.size - a := by rw [ByteArray.size_extract]; omega
  refine (cut_any (s.extract a s.size) n w (by omega) hn).mono ?_
  rintro e w' ⟨h, hb⟩
  rw [hsz] at h
  by_cases hf : a + n ≤ s.size
  · rw [if_pos (by omega)] at h
    refine ⟨numF s a n, a + n, ?_, hb, hf, .inl ⟨hf, rfl, rfl⟩⟩
    rw [h, numF_extract s a s.size 0 n (by omega) (Nat.le_refl _), extract_drop s a n hf, Nat.add_zero]
  · rw [if_neg (by omega)] at h
    refine ⟨-1, s.size, ?_, hb, Nat.le_refl _, .inr ⟨by omega, rfl, rfl⟩⟩
    rw [h, extract_end]
end Go.Proofs.Ytghfdiaaonjofaa
