/-
  slices.SortStableFunc: blocks, then merges; the whole.
-/
import Derived.Test.YtlbneinfejnaaaaSortW5
set_option linter.unusedVariables false
set_option linter.unusedSimpArgs false
namespace Go.Proofs.Ytlbneinfejnaaaa.Ss
open Go Go.RowKit
variable {W w w' : World} {B N1 N2 : Nat} {now age : Int} {tail : List Value} {d d' : List Wt}
set_option maxRecDepth 100000 in
set_option maxHeartbeats 8000000 in
theorem stable_any (h : SR W w B N1 N2 now age tail d) (n cap : Nat) (hn : d.length = n) (hc : n ≤ cap) :
    Calls Try.prog 35 #[.slice (some ⟨B, 0, none⟩) n cap, .int .i64 n, .func (.func 28) #[] #[.pointer (some ⟨N1, 0, none⟩), .pointer (some ⟨N2, 0, none⟩)]] w (MergeP W B N1 N2 now age tail 0 n d) := by
  have hml := h.len
  rw [hn] at hml
  have H := Lib.hid h; have HN := Lib.hid hn
  clear h hn
  go_enter Try.func35, Try.ntmps35
  go_wp2_with fail
  go_loopw [7, 8] (fun av bv wr => ∃ (k : Nat) (dd : List Wt), k * 20 ≤ n ∧ av = .int .i64 (k * 20 : Nat) ∧ bv = .int .i64 (k * 20 + 20 : Nat) ∧ Hid (SR W wr B N1 N2 now age tail dd) ∧ Hid (Chg (lw now age) 0 n d dd ∧ Blk (lw now age) 20 0 (k * 20) dd)) (fun av _ _ => n - (intOf av).toNat)
  case atStart => exact ⟨0, d, by omega, rfl, rfl, Lib.hid H.out, Lib.hid ⟨Chg.refl _ _ _, fun p q h1 h2 h3 => by omega⟩⟩
  case round => as_aux_lemma =>
    obtain ⟨k, dd, h1, rfl, rfl, HS, HL⟩ := hrel
    obtain ⟨a, ha⟩ : ∃ a, k * 20 = a := ⟨_, rfl⟩
    have HA := Lib.hid ha
    rw [ha] at h1 HL ⊢
    clear ha
    have HLN := Lib.hid (show dd.length = n from HL.out.1.len.trans HN.out)
    by_cases hb : a + 20 ≤ n
    · have d1 : decide (((a + 20 : Nat) : Int) ≤ n) = true := by simp; omega
      have d2 : decide (a + 20 ≤ n) = true := by simp; omega
      have HIC := Lib.hid (insertion_any HS.out a (a + 20) n cap (by omega) hb HLN.out hc)
      have HBB := Lib.hid hb
      go_wp2_with fail
      refine HIC.out.mono ?_
      rintro e w2 ⟨rfl, d2, q1, q2, q3⟩
      have Q1 := Lib.hid q1
      have Q2 := Lib.hid (show Chg (lw now age) 0 n d d2 ∧ Blk (lw now age) 20 0 ((k + 1) * 20) d2 from ⟨HL.out.1.trans (q2.mono (Nat.zero_le _) hb), by
        have hs : SortedIn (lw now age) (k * 20) ((k + 1) * 20) d2 := by rw [Nat.add_mul, HA.out]; exact q3
        refine Blk.snoc (k := k) ?_ (by omega) hs (Nat.le_refl _)
        refine (HA.out ▸ HL.out.2 : Blk (lw now age) 20 0 (k * 20) dd).congr fun i i1 i2 => q2.out i ?_
        have := HA.out
        omega⟩)
      clear q1 q2 q3 HIC
      have hk1 : (k + 1) * 20 = a + 20 := by have := HA.out; omega
      go_wp2_with fail
      exact ⟨⟨k + 1, d2, by have := HBB.out; omega, by rw [hk1]; go_num, by rw [hk1]; go_num, Lib.hid Q1.out, Lib.hid Q2.out⟩, by have := HBB.out; simp [intOf]; omega⟩
    · have d1 : decide (((a + 20 : Nat) : Int) ≤ n) = false := by simp; omega
      have d2 : decide (a + 20 ≤ n) = false := by simp; omega
      have HIC := Lib.hid (insertion_any HS.out a n n cap h1 (Nat.le_refl _) HLN.out hc)
      have HBB := Lib.hid hb
      go_wp2_with fail
      refine HIC.out.mono ?_
      rintro e w2 ⟨rfl, d2, q1, q2, q3⟩
      have Q1 := Lib.hid q1
      have Q2 := Lib.hid (show Chg (lw now age) 0 n d d2 ∧ Blk (lw now age) 20 0 n d2 from ⟨HL.out.1.trans (q2.mono (Nat.zero_le _) (Nat.le_refl _)), by
        have hbb := HBB.out
        have haa := HA.out
        refine Blk.snoc (k := k) ?_ (by omega) (by rw [haa]; exact q3) (by omega)
        exact (HA.out ▸ HL.out.2 : Blk (lw now age) 20 0 (k * 20) dd).congr fun i i1 i2 => q2.out i (by omega)⟩)
      clear q1 q2 q3 HIC HL HLN HS HA HBB
      go_wp2_with fail
      go_loopw [6, 7, 8] (fun sv av bv wr => ∃ (bs : Nat) (dd : List Wt), 20 ≤ bs ∧ bs ≤ 2000000 ∧ sv = .int .i64 bs ∧ Hid (SR W wr B N1 N2 now age tail dd) ∧ Hid (Chg (lw now age) 0 n d dd ∧ Blk (lw now age) bs 0 n dd)) (fun sv _ _ _ => n - (intOf sv).toNat)
      case atStart => exact ⟨20, d2, Nat.le_refl _, by omega, rfl, Lib.hid Q1.out, Lib.hid Q2.out⟩
      case round => as_aux_lemma =>
        clear Q1 Q2
        obtain ⟨bs, dd, g1, g2, rfl, HS, HL⟩ := hrel
        by_cases hbn : bs < n
        · have d1 : decide ((bs : Int) < n) = true := by simp; omega
          have d2 : decide (bs < n) = true := by simp; omega
          have HBN := Lib.hid hbn
          go_wp2_with fail
          go_loopw [7, 8] (fun av bv wr => ∃ (k : Nat) (d2 : List Wt), k * (2 * bs) ≤ n ∧ av = .int .i64 (k * (2 * bs) : Nat) ∧ bv = .int .i64 (k * (2 * bs) + 2 * bs : Nat) ∧ Hid (SR W wr B N1 N2 now age tail d2) ∧ Hid (Chg (lw now age) 0 n d d2 ∧ Blk (lw now age) (2 * bs) 0 (k * (2 * bs)) d2 ∧ Blk (lw now age) bs (k * (2 * bs)) n d2)) (fun av _ _ => n - (intOf av).toNat)
          case atStart => exact ⟨0, dd, by omega, by go_num, by go_num, Lib.hid HS.out, Lib.hid ⟨HL.out.1, fun p q h1 h2 h3 => by omega, HL.out.2.sub (by omega) (Nat.le_refl _)⟩⟩
          case round => as_aux_lemma =>
            clear HS HL
            obtain ⟨k, dd, k1, rfl, rfl, HS, HL⟩ := hrel
            obtain ⟨a, ha⟩ : ∃ a, k * (2 * bs) = a := ⟨_, rfl⟩
            have HA := Lib.hid ha
            rw [ha] at k1 HL ⊢
            clear ha
            have HLN := Lib.hid (show dd.length = n from HL.out.1.len.trans HN.out)
            have HK2 := Lib.hid (show (2 * k) * bs = a ∧ (2 * k + 1) * bs = a + bs ∧ (2 * k + 2) * bs = a + 2 * bs by
              have := HA.out
              rw [Nat.add_mul, Nat.add_mul, Nat.mul_assoc, Nat.mul_left_comm, this]
              omega)
            by_cases hb : a + 2 * bs ≤ n
            · have d3 : decide (((a + 2 * bs : Nat) : Int) ≤ n) = true := by simp; omega
              have d4 : decide (a + 2 * bs ≤ n) = true := by simp; omega
              have s1 : SortedIn (lw now age) a (a + bs) dd := HL.out.2.2.sorted (k := 2 * k) (by omega) (Nat.le_refl _) (by omega) (by rw [HK2.out.1]; exact Nat.le_refl _) (by rw [HK2.out.2.1]; exact Nat.le_refl _)
              have s2 : SortedIn (lw now age) (a + bs) (a + 2 * bs) dd := HL.out.2.2.sorted (k := 2 * k + 1) (by omega) (by omega) hb (by rw [HK2.out.2.1]; exact Nat.le_refl _) (by rw [HK2.out.2.2]; exact Nat.le_refl _)
              have hic := symMerge_any (W := W) (B := B) (N1 := N1) (N2 := N2) (now := now) (age := age) (tail := tail) (a + 2 * bs - a) wr dd a (a + bs) (a + 2 * bs) n cap (Nat.le_refl _) HS.out (by omega) (by omega) hb HLN.out hc s1 s2
              have HIC := Lib.hid hic
              have HBB := Lib.hid hb
              clear s1 s2 hic
              go_wp2_with fail
              refine HIC.out.mono ?_
              rintro e w2 ⟨rfl, d2, q1, q2, q3⟩
              have Q1 := Lib.hid q1
              have Q2 := Lib.hid (show Chg (lw now age) 0 n d d2 ∧ Blk (lw now age) (2 * bs) 0 ((k + 1) * (2 * bs)) d2 ∧ Blk (lw now age) bs ((k + 1) * (2 * bs)) n d2 from ⟨HL.out.1.trans (q2.mono (Nat.zero_le _) hb), by
                have haa := HA.out
                refine Blk.snoc (k := k) ?_ (by omega) (by rw [Nat.add_mul, haa, Nat.one_mul]; exact q3) (Nat.le_refl _)
                exact (haa ▸ HL.out.2.1 : Blk (lw now age) (2 * bs) 0 (k * (2 * bs)) dd).congr fun i i1 i2 => q2.out i (by omega), by
                have haa := HA.out
                rw [Nat.add_mul, haa, Nat.one_mul]
                exact (HL.out.2.2.sub (lo' := a + 2 * bs) (hi' := n) (by omega) (Nat.le_refl _)).congr fun i i1 i2 => q2.out i (by omega)⟩)
              clear q1 q2 q3 HIC
              have hk1 : (k + 1) * (2 * bs) = a + 2 * bs := by have := HA.out; rw [Nat.add_mul]; omega
              have HK1 := Lib.hid hk1
              clear hk1
              go_wp2_with fail
              exact ⟨⟨k + 1, d2, by rw [HK1.out]; exact HBB.out, by rw [HK1.out]; go_num, by rw [HK1.out]; go_num, Lib.hid Q1.out, Lib.hid Q2.out⟩, by have := HBB.out; simp [intOf]; omega⟩
            · have d3 : decide (((a + 2 * bs : Nat) : Int) ≤ n) = false := by simp; omega
              have d4 : decide (a + 2 * bs ≤ n) = false := by simp; omega
              have HBB := Lib.hid hb
              by_cases hm : a + bs < n
              · have d5 : decide (((a + bs : Nat) : Int) < n) = true := by simp; omega
                have d6 : decide (a + bs < n) = true := by simp; omega
                have s1 : SortedIn (lw now age) a (a + bs) dd := HL.out.2.2.sorted (k := 2 * k) (by omega) (Nat.le_refl _) (by omega) (by rw [HK2.out.1]; exact Nat.le_refl _) (by rw [HK2.out.2.1]; exact Nat.le_refl _)
                have s2 : SortedIn (lw now age) (a + bs) n dd := HL.out.2.2.sorted (k := 2 * k + 1) (by omega) (by omega) (Nat.le_refl _) (by rw [HK2.out.2.1]; exact Nat.le_refl _) (by rw [HK2.out.2.2]; omega)
                have hic := symMerge_any (W := W) (B := B) (N1 := N1) (N2 := N2) (now := now) (age := age) (tail := tail) (n - a) wr dd a (a + bs) n n cap (Nat.le_refl _) HS.out (by omega) (by omega) (Nat.le_refl _) HLN.out hc s1 s2
                have HIC := Lib.hid hic
                clear s1 s2 hic
                go_wp2_with fail
                refine HIC.out.mono ?_
                rintro e w2 ⟨rfl, d2, q1, q2, q3⟩
                have Q1 := Lib.hid q1
                have Q2 := Lib.hid (show Chg (lw now age) 0 n d d2 ∧ Blk (lw now age) (bs * 2) 0 n d2 from ⟨HL.out.1.trans (q2.mono (Nat.zero_le _) (Nat.le_refl _)), by
                  have haa := HA.out
                  have hbb := HBB.out
                  rw [Nat.mul_comm]
                  refine Blk.snoc (k := k) ?_ (by omega) (by rw [haa]; exact q3) (by rw [Nat.add_mul, haa]; omega)
                  exact (haa ▸ HL.out.2.1 : Blk (lw now age) (2 * bs) 0 (k * (2 * bs)) dd).congr fun i i1 i2 => q2.out i (by omega)⟩)
                clear q1 q2 q3 HIC
                go_wp2_with fail
                exact ⟨⟨bs * 2, d2, by omega, by have := HBN.out; omega, by go_num, Lib.hid Q1.out, Lib.hid Q2.out⟩, by have := HBN.out; simp [intOf]; omega⟩
              · have d5 : decide (((a + bs : Nat) : Int) < n) = false := by simp; omega
                have d6 : decide (a + bs < n) = false := by simp; omega
                have Q2 := Lib.hid (show Chg (lw now age) 0 n d dd ∧ Blk (lw now age) (bs * 2) 0 n dd from ⟨HL.out.1, by
                  have haa := HA.out
                  rw [Nat.mul_comm]
                  refine Blk.snoc (k := k) (haa ▸ HL.out.2.1 : Blk (lw now age) (2 * bs) 0 (k * (2 * bs)) dd) (by omega) ?_ (by rw [Nat.add_mul, haa]; omega)
                  rw [haa]
                  exact HL.out.2.2.sorted (k := 2 * k) (by omega) (Nat.le_refl _) (Nat.le_refl _) (by rw [HK2.out.1]; exact Nat.le_refl _) (by rw [HK2.out.2.1]; omega)⟩)
                go_wp2_with fail
                exact ⟨⟨bs * 2, dd, by omega, by have := HBN.out; omega, by go_num, Lib.hid HS.out, Lib.hid Q2.out⟩, by have := HBN.out; simp [intOf]; omega⟩
        · have d1 : decide ((bs : Int) < n) = false := by simp; omega
          have d2 : decide (bs < n) = false := by simp; omega
          have HFIN := Lib.hid (show SortedIn (lw now age) 0 n dd from HL.out.2.one (by omega))
          go_wp2_with fail
          first | go_end0 | (refine bodyPost_ret (results_none rfl _ _ _) rfl ?_)
          exact ⟨rfl, dd, HS.out, HL.out.1, HFIN.out⟩
theorem sortStable_any (h : SR W w B N1 N2 now age tail d) (n cap : Nat) (hn : d.length = n) (hc : n ≤ cap) :
    Calls Try.prog 27 #[.slice (some ⟨B, 0, none⟩) n cap, .func (.func 28) #[] #[.pointer (some ⟨N1, 0, none⟩), .pointer (some ⟨N2, 0, none⟩)]] w fun e w' => e = .returned (.tuple #[]) ∧ ∃ d', SR W w' B N1 N2 now age tail d' ∧ d'.length = n ∧ SE (lw now age) d d' ∧ Sorted (lw now age) d' := by
  have HC := Lib.hid (stable_any h n cap hn hc)
  have HN := Lib.hid hn
  clear h hn
  go_enter Try.func27, Try.ntmps27
  go_wp2_with fail
  refine HC.out.mono ?_
  rintro e w2 ⟨rfl, d', q1, q2, q3⟩
  have Q := Lib.hid (show ∃ d', SR W w2 B N1 N2 now age tail d' ∧ d'.length = n ∧ SE (lw now age) d d' ∧ Sorted (lw now age) d' from ⟨d', q1, q2.len.trans HN.out, q2.se, by
    refine SortedIn.all ?_
    rw [q2.len.trans HN.out]; exact q3⟩)
  clear q1 q2 q3 HC
  go_wp2_with fail
  first | go_end0 | (refine bodyPost_ret (results_none rfl _ _ _) rfl ?_)
  exact ⟨rfl, Q.out⟩
end Go.Proofs.Ytlbneinfejnaaaa.Ss
