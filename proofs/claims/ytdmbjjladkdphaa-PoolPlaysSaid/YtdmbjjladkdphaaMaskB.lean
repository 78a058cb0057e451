/-
  Masks in layers above: First, Count, and the document's bit, Has, First, Units: contracts.
-/
import Derived.Test.YtdmbjjladkdphaaPop
import Derived.Test.YtdmbjjladkdphaaMaskFacts
import Derived.Test.YtdmbjjladkdphaaKeep
import Derived.BigQuiet
import Derived.Deep.AppendLies
set_option linter.unusedVariables false
set_option linter.unusedSimpArgs false
namespace Go.Proofs.Ytdmbjjladkdphaa
open Go.RowKit

theorem cntC (m : Nat) (hm : m < 18446744073709551616) (c : Nat) (hc : Mk.cnt m = c) (w : World) : Calls Try.prog 37 #[.int .u64 m] w fun e w' => e = .returned (.int .i64 c) ∧ w = w' := by
  subst hc; exact count_any m w hm

theorem pow_wrap (j : Nat) (hj : j ≤ 64) : IntKind.u64.wrap (IntKind.u64.wrap (2 ^ j) - 1) = ((2 ^ j - 1 : Nat) : Int) := by
  have hp : 2 ^ j ≤ 18446744073709551616 := by have := Nat.pow_le_pow_right (n := 2) (by omega) hj; simpa using this
  have h0 : 0 < 2 ^ j := Nat.two_pow_pos j
  have e2 : (2 : Int) ^ j = ((2 ^ j : Nat) : Int) := by simp
  rw [e2, IntKind.wrap_u64, IntKind.wrap_u64]
  obtain ⟨z, hz⟩ : ∃ z, 2 ^ j = z := ⟨_, rfl⟩
  rw [hz] at hp h0 ⊢
  by_cases h64 : z = 18446744073709551616
  · subst h64; rfl
  · omega

theorem firstC (n : Int) (j : Nat) (hj : j ≤ 64) (h : (n < 0 ∧ j = 0) ∨ (n = j) ∨ (64 < n ∧ j = 64)) (w : World) :
    Calls Try.prog 42 #[.int .i64 n] w fun e w' => e = .returned (.int .u64 ((2 ^ j - 1 : Nat) : Int)) ∧ w = w' := by
  have hw := Lib.hid (pow_wrap j hj)
  rcases h with ⟨h0, rfl⟩ | rfl | ⟨h0, rfl⟩
  all_goals
    go_enter Try.func42, Try.ntmps42
    go_wp2_with fail
  · go_ret
    exact ⟨rfl, rfl⟩
  · go_ret
    refine ⟨?_, rfl⟩
    rw [← hw.out]; rfl
  · obtain rfl : j = 0 := by omega
    go_ret
    exact ⟨rfl, rfl⟩
  · go_ret
    refine ⟨?_, rfl⟩
    rw [← hw.out]; rfl

theorem pow_step (k : Nat) : ((2 ^ k : Nat) : Int) * 2 = ((2 ^ (k + 1) : Nat) : Int) := by rw [Nat.pow_succ]; simp

theorem rbit_any (u : Nat) (hu : u < 64) (w : World) : Calls Try.prog 48 #[.int .i64 u] w fun e w' => e = .returned (.int .u64 (2 ^ u : Nat)) ∧ w = w' := by
  obtain ⟨P, hP⟩ : ∃ P : Nat → Nat, ∀ k, P k = 2 ^ k := ⟨_, fun _ => rfl⟩
  have h0 := Lib.hid (show P 0 = 1 from hP 0)
  have h1 := Lib.hid (show ∀ k, k < u → P k * 2 = P (k + 1) ∧ P (k + 1) < 18446744073709551616 from fun k hk => ⟨by rw [hP, hP, Nat.pow_succ], by
    rw [hP]; have := Nat.pow_lt_pow_right (a := 2) (m := k + 1) (n := 64) (by omega) (by omega); simpa using this⟩)
  rw [← hP]
  clear hP
  go_enter Try.func48, Try.ntmps48
  go_wp2_with fail
  go_loopw [3, 4] (fun b i wr => ∃ k : Nat, k ≤ u ∧ b = .int .u64 (P k : Nat) ∧ i = .int .i64 k ∧ wr = w) (fun _ i _ => u - (intOf i).toNat)
  case atStart => exact ⟨0, Nat.zero_le _, by rw [h0.out]; rfl, rfl, rfl⟩
  case round =>
    obtain ⟨k, hk, rfl, rfl, rfl⟩ := hrel
    by_cases hlt : k < u
    · obtain ⟨e1, e2⟩ := h1.out k hlt
      have HE := Lib.hid e1; have HL := Lib.hid e2
      clear e1 e2
      go_wp2_with fail
      refine ⟨⟨k + 1, by omega, ?_, by go_num, by first | exact rfl | exact True.intro⟩, by simp [intOf]; omega⟩
      have a1 := HE.out; have a2 := HL.out
      congr 1
      rw [IntKind.wrap_u64]; omega
    · obtain rfl : k = u := by omega
      go_wp2_with fail
      go_ret
      exact ⟨rfl, rfl⟩

theorem rhas_any (m u : Nat) (hm : m < 18446744073709551616) (hu : u < 64) (b : Bool) (hb : m.testBit u = b) (w : World) : Calls Try.prog 46 #[.int .u64 m, .int .i64 u] w fun e w' => e = .returned (.bool b) ∧ w = w' := by
  rw [Nat.testBit_eq_decide_div_mod_eq] at hb
  obtain ⟨P, hP⟩ : ∃ P : Nat → Nat, ∀ k, P k = m / 2 ^ k := ⟨_, fun _ => rfl⟩
  have h0 := Lib.hid (show P 0 = m by rw [hP]; simp)
  have h1 := Lib.hid (show ∀ k, P k / 2 = P (k + 1) from fun k => by rw [hP, hP, Nat.div_div_eq_div_mul, Nat.pow_succ])
  have h2 := Lib.hid (show ∀ k, P k < 18446744073709551616 from fun k => by rw [hP]; exact Nat.lt_of_le_of_lt (Nat.div_le_self _ _) hm)
  rw [← hP] at hb
  have HB := Lib.hid hb
  clear hP hb
  go_enter Try.func46, Try.ntmps46
  go_wp2_with fail
  go_loopw [0, 5] (fun x i wr => ∃ k : Nat, k ≤ u ∧ x = .int .u64 (P k : Nat) ∧ i = .int .i64 k ∧ wr = w) (fun _ i _ => u - (intOf i).toNat)
  case atStart => exact ⟨0, Nat.zero_le _, by rw [h0.out], rfl, rfl⟩
  case round =>
    obtain ⟨k, hk, rfl, rfl, rfl⟩ := hrel
    have hl := h2.out k
    by_cases hlt : k < u
    · go_wp2_with fail
      refine ⟨⟨k + 1, by omega, ?_, by go_num, by first | exact rfl | exact True.intro⟩, by simp [intOf]; omega⟩
      have a1 := h1.out k
      congr 1
      omega
    · obtain rfl : k = u := by omega
      have hb := HB.out
      obtain ⟨z, hz⟩ : ∃ z, P k = z := ⟨_, rfl⟩
      rw [hz] at hb hl ⊢
      go_wp2_with fail
      go_ret
      have hzb : ((z : Int) % 2 == 1) = b := by rw [← hb, Bool.eq_iff_iff]; simp; omega
      exact ⟨by show Ending.returned (.bool ((z : Int) % 2 == 1)) = _; rw [hzb], rfl⟩

theorem rfirst_any (n : Int) (j : Nat) (hj : j ≤ 64) (h : (n < 0 ∧ j = 0) ∨ (n = j) ∨ (64 < n ∧ j = 64)) (w : World) :
    Calls Try.prog 41 #[.int .i64 n] w fun e w' => e = .returned (.int .u64 ((2 ^ j - 1 : Nat) : Int)) ∧ w = w' := by
  obtain ⟨P, hP⟩ : ∃ P : Nat → Nat, ∀ k, P k = 2 ^ k - 1 := ⟨_, fun _ => rfl⟩
  have h0 := Lib.hid (show P 0 = 0 from hP 0)
  have h1 := Lib.hid (show ∀ k, k < 64 → P k + 2 ^ k = P (k + 1) ∧ P (k + 1) < 18446744073709551616 from fun k hk => ⟨by
    rw [hP, hP, Nat.pow_succ]; have := Nat.two_pow_pos k; omega, by
    rw [hP]; have := Nat.pow_le_pow_right (show 0 < 2 by omega) (show k + 1 ≤ 64 by omega); have := Nat.two_pow_pos (k + 1); omega⟩)
  rw [← hP]
  clear hP
  have hc : ∀ k : Nat, k < j → (k : Int) < n := fun k hk => by omega
  have hs : (n < 0 ∧ j = 0) ∨ n = j ∨ j = 64 := by omega
  clear h
  go_enter Try.func41, Try.ntmps41
  go_wp2_with fail
  go_loopw [3, 4] (fun b i wr => ∃ k : Nat, k ≤ j ∧ b = .int .u64 (P k : Nat) ∧ i = .int .i64 k ∧ wr = w) (fun _ i _ => j - (intOf i).toNat)
  case atStart => exact ⟨0, Nat.zero_le _, by rw [h0.out]; rfl, rfl, rfl⟩
  case round =>
    obtain ⟨k, hk, rfl, rfl, rfl⟩ := hrel
    by_cases hlt : k < j
    · have hkn := hc k hlt
      have hk64 : (k : Int) < 64 := by omega
      clear hs
      go_wp2_with fail
      refine (rbit_any k (by omega) _).mono ?_
      rintro e w' ⟨rfl, rfl⟩
      go_wp2_with fail
      refine ⟨⟨k + 1, by omega, ?_, by go_num, by first | exact rfl | exact True.intro⟩, by simp [intOf]; omega⟩
      obtain ⟨a1, a2⟩ := h1.out k (by omega)
      congr 1
      obtain ⟨z, hz⟩ : ∃ z, 2 ^ k = z := ⟨_, rfl⟩
      rw [hz] at a1
      have e : (2 : Int) ^ k = (z : Int) := by rw [← hz]; simp
      rw [IntKind.wrap_u64]
      first | rw [e] | rw [hz]
      omega
    · obtain rfl : k = j := by omega
      by_cases h64 : k = 64
      · subst h64
        by_cases hn : (64 : Int) < n
        · go_wp2_with fail
          go_ret
          exact ⟨rfl, rfl⟩
        · go_wp2_with fail
          go_ret
          exact ⟨rfl, rfl⟩
      · have hn : ¬ (k : Int) < n := by omega
        go_wp2_with fail
        go_ret
        exact ⟨rfl, rfl⟩
theorem infoInt : (Try.prog.info? 3).map (fun i => (i.zero, i.size, i.bytes)) = some (some (.int .i64 0), 1, 8) := by kernel_rfl

def encU (x : Fin 64) : Value := .int .i64 (x.val : Nat)

def UnitsPost (m : Nat) (w : World) (e : Ending) (w' : World) : Prop :=
  ∃ (v : Value) (L : List (Fin 64)), e = .returned v ∧ L.map Fin.val = Mk.units m ∧ w'.ownsRow w.heap.size 3 1 v L.length (L.map encU) ∧ Below w.heap.size w w'

theorem Mk.units_filter {m : Nat} (hm : m < 2 ^ 64) : (List.range 64).filter (fun i => m.testBit i) = Mk.units m := by
  have hI : Mk.Incr ((List.range 64).filter fun i => m.testBit i) := ⟨List.pairwise_lt_range.filter _, fun u hu => by simp at hu; exact hu.1⟩
  have e : Mk.maskOf ((List.range 64).filter fun i => m.testBit i) = m := Mk.bits_ext hI.mlt hm fun i hi => by
    rw [hI.bit]; simp [hi]
  have := hI.un
  rw [e] at this
  exact this.symm

set_option maxRecDepth 100000 in
set_option maxHeartbeats 1000000 in
theorem runits_any (m : Nat) (w : World) (hm : m < 18446744073709551616) : Calls Try.prog 38 #[.int .u64 m] w fun e w' => UnitsPost m w e w' := by
  obtain ⟨i0, hi0, hz0, hz1, hz2⟩ := info_parts infoInt
  go_enter Try.func38, Try.ntmps38
  go_wp2_with fail
  go_loopw [3, 4] (fun v' i wr => ∃ (k : Nat) (v : Value) (pre : List (Fin 64)), v = v' ∧ k ≤ 64 ∧ i = .int .i64 k ∧ Hid (pre.map Fin.val = (List.range k).filter (fun i => m.testBit i)) ∧ pre.length ≤ k ∧ wr.ownsRow w.heap.size 3 1 v pre.length (pre.map encU) ∧ Below w.heap.size w wr) (fun _ i _ => 64 - (intOf i).toNat)
  case atStart => exact ⟨0, _, [], rfl, by omega, rfl, Lib.hid rfl, Nat.le_refl _, World.ownsRow_nil _ _ _ _, Below.refl _ _⟩
  case round =>
    obtain ⟨k, v, pre, rfl, hk, rfl, hf, hp, hown, hB⟩ := hrel
    by_cases hlt : k < 64
    · have hsz := hB.size
      cases hb : m.testBit k with
      | false =>
        have HF := Lib.hid (show pre.map Fin.val = (List.range (k + 1)).filter (fun i => m.testBit i) by rw [List.range_succ, List.filter_append, ← hf.out]; simp [hb])
        have HB := Lib.hid hb; have HO := Lib.hid hown
        clear hb hown
        go_wp2_with fail
        refine (rhas_any m k hm hlt false HB.out _).mono ?_
        rintro e w' ⟨rfl, rfl⟩
        go_wp2_with fail
        refine ⟨⟨k + 1, v, pre, rfl, by omega, by go_num, HF, by omega, HO.out, hB⟩, by simp [intOf]; omega⟩
      | true =>
        have HF := Lib.hid (show (pre ++ [(⟨k, hlt⟩ : Fin 64)]).map Fin.val = (List.range (k + 1)).filter (fun i => m.testBit i) by rw [List.range_succ, List.filter_append, ← hf.out]; simp [hb])
        have HB := Lib.hid hb
        clear hb
        go_wp2_with fail
        refine (rhas_any m k hm hlt true HB.out _).mono ?_
        rintro e w' ⟨rfl, rfl⟩
        go_wp2_with (at_builtin; refine wpList_append_lies _ rfl _ _ _ rfl w.heap.size 3 i0 _ 1 8 Try.underlying82 hi0 hz0 hz1 hz2 rfl (by omega) v pre.length _ rfl (hown.alloc _) ⟨wr.heap.size, 0, none⟩ 1 1 [.int .i64 k] rfl rfl (World.news_of_block (cs := #[.int .i64 k]) (t := 3) (fr := (0, 0)) (World.alloc_heap_new wr _)) (by simp [Value.oneCell']) (by omega) (by unfold maxLen; omega) (by omega) (by simp; omega) (wr.heap.size + 1) (by simp) ?_)
        intro gg cap' w2 hown2 hgrow hat hlt2
        have hv := hown.lt
        go_wp2
        refine ⟨⟨k + 1, _, pre ++ [(⟨k, hlt⟩ : Fin 64)], rfl, by omega, by go_num, HF, by simp; omega, by simpa [encU] using hown2, (hB.alloc hsz _).grown hgrow (by simp; omega) (fun j e => (hv j e).1)⟩, by simp [intOf]; omega⟩
    · obtain rfl : k = 64 := by omega
      have HO := Lib.hid hown
      clear hown
      go_wp2
      go_ret
      exact ⟨v, pre, rfl, by rw [hf.out, Mk.units_filter (by omega)], HO.out, hB⟩

end Go.Proofs.Ytdmbjjladkdphaa
