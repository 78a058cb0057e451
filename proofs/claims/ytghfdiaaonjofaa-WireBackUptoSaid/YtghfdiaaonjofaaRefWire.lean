/-
  wire: the document's fits, bytes, Size.
-/
import Derived.Test.YtghfdiaaonjofaaWirePut3
set_option linter.unusedVariables false
set_option linter.unusedSimpArgs false
namespace Go.Proofs.Ytghfdiaaonjofaa
open Go.RowKit

theorem rfits_any (n : Int) (c : Nat) (hc : 1 ≤ c ∧ c ≤ 3) (w : World) :
    Calls Try.prog 25 #[.int .i64 n, .int .i64 c] w fun e w' => e = .returned (.bool (decide (0 ≤ n ∧ n < 256 ^ c))) ∧ w' = w := by
  obtain ⟨res, hres⟩ : ∃ res, decide (0 ≤ n ∧ n < 256 ^ c) = res := ⟨_, rfl⟩
  rw [hres]
  have HR := Lib.hid hres
  clear hres
  go_enter Try.func25, Try.ntmps25
  go_wp2_with fail
  go_loopw [5, 6] (fun m i wr => ∃ (k : Nat) (p : Int), k ≤ c ∧ i = .int .i64 k ∧ m = .int .i64 p ∧ (k = 0 ∧ p = 1 ∨ k = 1 ∧ p = 256 ∨ k = 2 ∧ p = 65536 ∨ k = 3 ∧ p = 16777216) ∧ wr = w) (fun _ i _ => c - (intOf i).toNat)
  case atStart => exact ⟨0, 1, Nat.zero_le _, rfl, rfl, .inl ⟨rfl, rfl⟩, rfl⟩
  case round =>
    obtain ⟨k, p, hk, rfl, rfl, hp, rfl⟩ := hrel
    by_cases hlt : k < c
    · have hp1 : 1 ≤ p ∧ p ≤ 65536 := by omega
      go_wp2_with fail
      exact ⟨⟨k + 1, p * 256, by omega, by go_num, by go_num, by omega, by first | rfl | trivial⟩, by simp [intOf]; omega⟩
    · obtain rfl : k = c := by omega
      have hpow : (256 : Int) ^ k = p := by
        rcases hp with ⟨rfl, rfl⟩ | ⟨rfl, rfl⟩ | ⟨rfl, rfl⟩ | ⟨rfl, rfl⟩ <;> decide
      have HR2 := HR.out
      rw [hpow] at HR2
      have HR3 := Lib.hid HR2
      clear HR2 hpow hp hk HR
      by_cases h0 : 0 ≤ n
      · have g0 : decide (0 ≤ n) = true := by simpa using h0
        by_cases h1 : n < p
        · have g1 : decide (n < p) = true := by simpa using h1
          have HQ := Lib.hid (show res = true by rw [← HR3.out]; exact decide_eq_true ⟨h0, h1⟩)
          clear h0 h1
          go_wp2_with fail
          go_ret
          exact ⟨by rw [HQ.out]; rfl, rfl⟩
        · have g1 : decide (n < p) = false := by simpa using h1
          have HQ := Lib.hid (show res = false by rw [← HR3.out]; exact decide_eq_false fun h => h1 h.2)
          clear h0 h1
          go_wp2_with fail
          go_ret
          exact ⟨by rw [HQ.out]; rfl, rfl⟩
      · have g0 : decide (0 ≤ n) = false := by simpa using h0
        have HQ := Lib.hid (show res = false by rw [← HR3.out]; exact decide_eq_false fun h => h0 h.1)
        clear h0
        go_wp2_with fail
        go_ret
        exact ⟨by rw [HQ.out]; rfl, rfl⟩

/-- a number, cut by so many bytes -/
def qd (n : Int) : Nat → Int
  | 0 => n
  | k + 1 => (qd n k).tdiv 256
/-- its last bytes -/
def rb (n : Int) : Nat → List Int
  | 0 => []
  | k + 1 => (qd n k).tmod 256 % 256 :: rb n k
theorem rb_len (n : Int) : ∀ k, (rb n k).length = k
  | 0 => rfl
  | k + 1 => by simp [rb, rb_len n k]
theorem str_cons (a : Int) (l : List Int) : strOfNums [a] ++ strOfNums l = strOfNums (a :: l) := by
  have h : ∀ (x y : ByteArray), x.data = y.data → x = y := fun x y h => by cases x; cases y; simp_all
  refine h _ _ ?_
  rw [ByteArray.data_append]
  simp [strOfNums]
theorem str_append (a l : List Int) : strOfNums a ++ strOfNums l = strOfNums (a ++ l) := by
  have h : ∀ (x y : ByteArray), x.data = y.data → x = y := fun x y h => by cases x; cases y; simp_all
  refine h _ _ ?_
  rw [ByteArray.data_append]
  simp [strOfNums]
theorem qd_nn {n : Int} (h : 0 ≤ n) : ∀ k, qd n k = n / 256 ^ k
  | 0 => by simp [qd]
  | k + 1 => by
    have ih := qd_nn h k
    have h2 : 0 ≤ n / 256 ^ k := Int.ediv_nonneg h (Int.pow_nonneg (by decide))
    simp only [qd]
    rw [ih, Int.tdiv_eq_ediv_of_nonneg h2, Int.ediv_ediv_of_nonneg (Int.pow_nonneg (by decide)), Int.pow_succ]
theorem rb_nn {n : Int} (h : 0 ≤ n) : ∀ k, rb n k = fb n k
  | 0 => rfl
  | k + 1 => by
    have h2 : 0 ≤ n / 256 ^ k := Int.ediv_nonneg h (Int.pow_nonneg (by decide))
    simp only [rb, fb]
    rw [rb_nn h k, qd_nn h k, Int.tmod_eq_emod_of_nonneg h2]
    congr 1
    omega
theorem tdiv_ok {z : Int} (h : -9223372036854775808 ≤ z ∧ z ≤ 9223372036854775807) : -9223372036854775808 ≤ z.tdiv 256 ∧ z.tdiv 256 ≤ 9223372036854775807 := by
  rcases Int.lt_or_le z 0 with h0 | h0
  · have e : z = -(-z) := by omega
    have h2 : 0 ≤ -z := by omega
    rw [e, Int.neg_tdiv, Int.tdiv_eq_ediv_of_nonneg h2]
    omega
  · rw [Int.tdiv_eq_ediv_of_nonneg h0]
    omega
set_option maxRecDepth 100000 in
set_option maxHeartbeats 1000000 in
theorem rbytes_any (n : Int) (hn : -9223372036854775808 ≤ n ∧ n ≤ 9223372036854775807) (c : Nat) (hc : c ≤ 3) (w : World) :
    Calls Try.prog 24 #[.int .i64 n, .int .i64 c] w fun e w' => e = .returned (.string (strOfNums (rb n c))) ∧ Below w.heap.size w w' := by
  go_enter Try.func24, Try.ntmps24
  go_wp2_with fail
  go_loopw [0, 5, 6] (fun q s i wr => ∃ (k : Nat) (z : Int), k ≤ c ∧ i = .int .i64 k ∧ s = .string (strOfNums (rb n k)) ∧ q = .int .i64 z ∧ (-9223372036854775808 ≤ z ∧ z ≤ 9223372036854775807) ∧ z = qd n k ∧ Hid (Below w.heap.size w wr)) (fun _ _ i _ => c - (intOf i).toNat)
  case atStart => exact ⟨0, n, Nat.zero_le _, rfl, by rw [show rb n 0 = [] from rfl, str_nil], rfl, hn, rfl, Lib.hid (Below.refl _ _)⟩
  case round =>
    obtain ⟨k, z, hk, rfl, rfl, rfl, hzr, hz, hI⟩ := hrel
    by_cases hlt : k < c
    · obtain ⟨s, hs⟩ : ∃ s, strOfNums (rb n k) = s := ⟨_, rfl⟩
      have hsz : s.size = k := by rw [← hs, strOfNums_size, rb_len]
      rw [hs]
      have HS := Lib.hid hs; have HZ := Lib.hid hz
      clear hs hz
      have hb5 := (Below.refl wr.heap.size wr).alloc (Nat.le_refl _) (.cells #[.int .u8 (z.tmod 256 % 256)] 5)
      have k5 := World.alloc_heap_new wr (.cells #[.int .u8 (z.tmod 256 % 256)] 5)
      have hrun := run_convert_bytes_arg (P := Try.prog) (wr.alloc (.cells #[.int .u8 (z.tmod 256 % 256)] 5)) 74 5 Try.underlying74 (by kernel_rfl) wr.heap.size 0 1 1 [z.tmod 256 % 256] rfl (fun i hi => by have h0 : i = 0 := (by omega); subst h0; exact cell_of_block k5 0) 9 (by kernel_rfl)
      have hcs : (strOfNums [z.tmod 256 % 256] ++ s).size = k + 1 := by rw [ByteArray.size_append, strOfNums_size, hsz]; simp; omega
      have hcl : ¬ (9223372036854775807 < (strOfNums [z.tmod 256 % 256]).size + k) := by rw [strOfNums_size]; simp; omega
      have HQ := Lib.hid (show strOfNums [z.tmod 256 % 256] ++ s = strOfNums (rb n (k + 1)) by rw [← HS.out, str_cons, HZ.out]; rfl)
      have HB5 := Lib.hid (hI.out.trans (hb5.mono hI.out.size))
      have hzd := tdiv_ok hzr
      have hwr : IntKind.i64.wrap (z.tdiv 256) = z.tdiv 256 := by rw [wrap_eq]; unfold wrap64; omega
      clear hb5 k5
      go_wp2_with fail
      rw [HQ.out]
      exact ⟨⟨k + 1, z.tdiv 256, by omega, by go_num, by first | rfl | trivial, rfl, hzd, by rw [HZ.out]; rfl, Lib.hid HB5.out⟩, by simp [intOf]; omega⟩
    · obtain rfl : k = c := by omega
      clear hlt hk hz
      go_wp2_with fail
      go_ret
      exact ⟨rfl, hI.out⟩
end Go.Proofs.Ytghfdiaaonjofaa
