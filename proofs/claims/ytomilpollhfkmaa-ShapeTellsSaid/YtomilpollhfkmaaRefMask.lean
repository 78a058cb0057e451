/-
  The document's mask functions, as printed: what they come to.
-/
import Derived.Test.YtomilpollhfkmaaXSh2
import Derived.Test.YtomilpollhfkmaaMaskFacts
import Derived.Test.YtomilpollhfkmaaLowest2
set_option linter.unusedVariables false
set_option linter.unusedSimpArgs false
namespace Go.Proofs.Ytomilpollhfkmaa.Rf
open Go.RowKit Go.Proofs.Ytomilpollhfkmaa.XSh Go.Proofs.YtomilpollhfkmaaW.PrintWords Go.Proofs.YtomilpollhfkmaaW.PrintLast

theorem bs {α β : Type} (a : α) (f : α → Option β) : (some a).bind f = f a := (Option.bind_some a f).trans (Eq.trans rfl rfl)

theorem has_l : ∀ (d k x j i : Nat), i < 64 → x < 2 ^ 64 → j + d = i → d < k → ensembleref01_Has.l0 k x i j = some (x.testBit d)
  | 0, k, x, j, i, hi, hx, hj, hk => by
    obtain ⟨k, rfl⟩ : ∃ m, k = m + 1 := ⟨k - 1, by omega⟩
    simp only [ensembleref01_Has.l0]
    rw [if_neg (by omega), if_pos (by omega), if_pos (by omega), Int.tmod_eq_emod_of_nonneg (by omega), Nat.testBit_zero]
    congr 1
    rw [Bool.eq_iff_iff]; simp; omega
  | d + 1, k, x, j, i, hi, hx, hj, hk => by
    obtain ⟨k, rfl⟩ : ∃ m, k = m + 1 := ⟨k - 1, by omega⟩
    have ih := has_l d k (x / 2) (j + 1) i hi (by omega) (by omega) (by omega)
    simp only [ensembleref01_Has.l0]
    have e1 : IntKind.u64.wrap (Int.tdiv (x : Int) 2) = ((x / 2 : Nat) : Int) := by rw [Int.tdiv_eq_ediv_of_nonneg (by omega), IntKind.wrap_u64]; omega
    have e2 : wrap64 ((j : Int) + 1) = ((j + 1 : Nat) : Int) := by unfold wrap64; omega
    rw [if_pos (by omega), e1, e2, ih, Nat.testBit_succ]
theorem has_ev {m i k : Nat} (hm : m < 2 ^ 64) (hi : i < 64) (hk : i < k) : ensembleref01_Has.f k m i = some (m.testBit i) := by
  unfold ensembleref01_Has.f
  have := has_l i k m 0 i hi hm (by omega) hk
  simpa using this
theorem units_l : ∀ (d k m j : Nat) (acc : List Int), m < 2 ^ 64 → j + d = 64 → d + 65 ≤ k → acc.length ≤ j → ensembleref01_Units.l0 k m acc j = some (acc ++ (Mk.us j d (m / 2 ^ j)).map fun u : Nat => (u : Int))
  | 0, k, m, j, acc, hm, hj, hk, _ => by
    obtain ⟨k, rfl⟩ : ∃ m, k = m + 1 := ⟨k - 1, by omega⟩
    simp only [ensembleref01_Units.l0]
    rw [if_neg (by omega)]; simp [Mk.us]
  | d + 1, k, m, j, acc, hm, hj, hk, hl => by
    obtain ⟨k, rfl⟩ : ∃ m, k = m + 1 := ⟨k - 1, by omega⟩
    simp only [ensembleref01_Units.l0]
    have e2 : wrap64 ((j : Int) + 1) = ((j + 1 : Nat) : Int) := by unfold wrap64; omega
    have e3 : m / 2 ^ j / 2 = m / 2 ^ (j + 1) := by rw [Nat.div_div_eq_div_mul, Nat.pow_succ]
    have e4 : m.testBit j = decide (m / 2 ^ j % 2 = 1) := Nat.testBit_eq_decide_div_mod_eq
    rw [if_pos (by omega), has_ev hm (by omega) (by omega), bs, e2, e4]
    simp only [Mk.us]
    by_cases h : m / 2 ^ j % 2 = 1
    · rw [if_pos (by simpa using h), if_pos (by omega), units_l d k m (j + 1) _ hm (by omega) (by omega) (by simp; omega), if_pos h, e3]; simp
    · rw [if_neg (by simpa using h), units_l d k m (j + 1) _ hm (by omega) (by omega) (by omega), if_neg h, e3]
theorem units_ev {m k : Nat} (hm : m < 2 ^ 64) (hk : 129 ≤ k) : ensembleref01_Units.f k m = some ((Mk.units m).map fun u : Nat => (u : Int)) := by
  unfold ensembleref01_Units.f
  have := units_l 64 k m 0 [] hm (by omega) (by omega) (by simp)
  simpa [Mk.units] using this
theorem bit_l : ∀ (d k j u : Nat), u < 64 → j + d = u → d < k → ensembleref01_bit.l0 k u ((2 ^ j : Nat) : Int) j = some ((2 ^ u : Nat) : Int)
  | 0, k, j, u, hu, hj, hk => by
    obtain ⟨k, rfl⟩ : ∃ m, k = m + 1 := ⟨k - 1, by omega⟩
    simp only [ensembleref01_bit.l0]
    rw [if_neg (by omega), show j = u by omega]
  | d + 1, k, j, u, hu, hj, hk => by
    obtain ⟨k, rfl⟩ : ∃ m, k = m + 1 := ⟨k - 1, by omega⟩
    have hp : 2 ^ (j + 1) < 18446744073709551616 := by have := Nat.pow_lt_pow_right (a := 2) (by omega) (show j + 1 < 64 by omega); simpa using this
    have e1 : IntKind.u64.wrap (((2 ^ j : Nat) : Int) * 2) = ((2 ^ (j + 1) : Nat) : Int) := by rw [IntKind.wrap_u64]; rw [Nat.pow_succ] at hp ⊢; omega
    have e2 : wrap64 ((j : Int) + 1) = ((j + 1 : Nat) : Int) := by unfold wrap64; omega
    simp only [ensembleref01_bit.l0]
    rw [if_pos (by omega), e1, e2, bit_l d k (j + 1) u hu (by omega) (by omega)]
theorem bit_ev {u k : Nat} (hu : u < 64) (hk : u < k) : ensembleref01_bit.f k u = some ((2 ^ u : Nat) : Int) := by
  unfold ensembleref01_bit.f
  have := bit_l u k 0 u hu (by omega) hk
  simpa using this
theorem rd_map (l : List Nat) {j : Nat} (h : j < l.length) : rd (l.map fun u : Nat => (u : Int)) j = (l[j] : Int) := by
  unfold rd; simp [h]
theorem lowest_l : ∀ (d k n j : Nat) (l : List Nat), Mk.Incr l → n ≤ l.length → j + d = n → d + 65 ≤ k → ensembleref01_Lowest.l0 k n (l.map fun u : Nat => (u : Int)) ((Mk.maskOf (l.take j) : Nat) : Int) j = some (((Mk.maskOf (l.take n) : Nat) : Int), 0)
  | 0, k, n, j, l, hl, hn, hj, hk => by
    obtain ⟨k, rfl⟩ : ∃ m, k = m + 1 := ⟨k - 1, by omega⟩
    simp only [ensembleref01_Lowest.l0]
    rw [if_neg (by omega), show j = n by omega]
  | d + 1, k, n, j, l, hl, hn, hj, hk => by
    obtain ⟨k, rfl⟩ : ∃ m, k = m + 1 := ⟨k - 1, by omega⟩
    have hjl : j < l.length := by omega
    have hlen : l.length ≤ 64 := by
      have h1 := hl.cnt
      have h2 := cnt_le (Mk.maskOf l)
      omega
    have ht : Mk.maskOf (l.take (j + 1)) = Mk.maskOf (l.take j) + 2 ^ l[j] := by rw [List.take_succ_eq_append_getElem hjl, Mk.maskOf_append]; simp [Mk.maskOf]
    have hlt := (hl.sub (List.take_sublist (j + 1) l)).mlt
    have e1 : IntKind.u64.wrap (((Mk.maskOf (l.take j) : Nat) : Int) + ((2 ^ l[j] : Nat) : Int)) = ((Mk.maskOf (l.take (j + 1)) : Nat) : Int) := by rw [IntKind.wrap_u64, ht]; omega
    have e2 : wrap64 ((j : Int) + 1) = ((j + 1 : Nat) : Int) := by unfold wrap64; omega
    simp only [ensembleref01_Lowest.l0]
    rw [if_pos (by omega), if_pos (by omega), if_pos (by simp; omega), rd_map l hjl, bit_ev (hl.lt _ (List.getElem_mem _)) (by have := hl.lt _ (List.getElem_mem hjl); omega), bs, e1, e2, lowest_l d k n (j + 1) l hl hn (by omega) (by omega)]
theorem lowest_ev {m k : Nat} (n : Int) (hm : m < 2 ^ 64) (hk : 129 ≤ k) : ensembleref01_Lowest.f k m n = some (lowestF m n) := by
  unfold ensembleref01_Lowest.f lowestF
  by_cases h0 : n < 0
  · rw [if_pos h0, if_pos h0]
  · rw [if_neg h0, if_neg h0, units_ev hm hk, bs, List.length_map, Mk.units_len]
    by_cases h1 : (Mk.cnt m : Int) < n
    · rw [if_pos h1, if_pos h1]
    · rw [if_neg h1, if_neg h1]
      have hc := cnt_le m
      obtain ⟨n', rfl⟩ : ∃ n' : Nat, n = n' := ⟨n.toNat, by omega⟩
      have := lowest_l n' k n' 0 (Mk.units m) (Mk.Incr.units m) (by rw [Mk.units_len]; omega) (by omega) (by omega)
      simpa [Mk.maskOf] using this
end Go.Proofs.Ytomilpollhfkmaa.Rf
