/-
  slices.SortStableFunc: rotate.
-/
import Derived.Test.YtlbneinfejnaaaaSortW1
set_option linter.unusedVariables false
set_option linter.unusedSimpArgs false
namespace Go.Proofs.Ytlbneinfejnaaaa.Ss
open Go Go.RowKit
variable {W w w' : World} {B N1 N2 : Nat} {now age : Int} {tail : List Value} {d d' : List Wt}
/-- swapRange, its first two numbers as the caller has them -/
theorem swapRange_z (p x mid z q : List Wt) (a b : Int) (n cap : Nat) (f : Value) (h : SR W w B N1 N2 now age tail (p ++ (x ++ (mid ++ (z ++ q))))) (ha : (p.length : Int) = a) (hb : (p.length : Int) + x.length + mid.length = b) (hx : x.length = n) (hz : z.length = n) (m : Nat) (hm : (p ++ (x ++ (mid ++ (z ++ q)))).length = m) (hc : m ≤ cap) :
    Calls Try.prog 40 #[.slice (some ⟨B, 0, none⟩) m cap, .int .i64 a, .int .i64 b, .int .i64 n, f] w fun e w' => e = .returned (.tuple #[]) ∧ SR W w' B N1 N2 now age tail (p ++ (z ++ (mid ++ (x ++ q)))) := by
  subst ha
  subst hb
  exact swapRange_any p x mid z q p.length (p.length + x.length + mid.length) n cap f h rfl rfl hx hz m hm hc
set_option maxRecDepth 100000 in
set_option maxHeartbeats 4000000 in
theorem rotate_any (p u v q : List Wt) (a m b cap : Nat) (f : Value) (h : SR W w B N1 N2 now age tail (p ++ (u ++ (v ++ q)))) (ha : p.length = a) (hu : a + u.length = m) (hv : m + v.length = b) (h1 : 0 < u.length) (h2 : 0 < v.length) (t : Nat) (ht : (p ++ (u ++ (v ++ q))).length = t) (hc : t ≤ cap) :
    Calls Try.prog 39 #[.slice (some ⟨B, 0, none⟩) t cap, .int .i64 a, .int .i64 m, .int .i64 b, f] w fun e w' => e = .returned (.tuple #[]) ∧ SR W w' B N1 N2 now age tail (p ++ (v ++ (u ++ q))) := by
  have hml := h.len
  rw [ht] at hml
  have hbt : b ≤ t := by rw [← ht]; simp only [List.length_append]; omega
  obtain ⟨lu, hlu⟩ : ∃ lu, u.length = lu := ⟨_, rfl⟩
  obtain ⟨lv, hlv⟩ : ∃ lv, v.length = lv := ⟨_, rfl⟩
  rw [hlu] at hu h1
  rw [hlv] at hv h2
  have H := Lib.hid h; have HT := Lib.hid ht; have HA := Lib.hid ha; have HU := Lib.hid hlu; have HV := Lib.hid hlv
  clear h ht ha hlu hlv
  have e1 : (m : Int) - a = lu := by omega
  have e2 : (b : Int) - m = lv := by omega
  go_enter Try.func39, Try.ntmps39
  go_wp2_with fail
  go_loopw [10, 11] (fun iv jv wr => ∃ (i j : Nat) (L U V R : List Wt), iv = .int .i64 i ∧ jv = .int .i64 j ∧ 0 < i ∧ 0 < j ∧ i ≤ lu ∧ j ≤ lv ∧ Hid (a + L.length + i = m ∧ U.length = i ∧ V.length = j ∧ v ++ u = L ++ (V ++ (U ++ R))) ∧ Hid (SR W wr B N1 N2 now age tail (p ++ (L ++ (U ++ (V ++ (R ++ q))))))) (fun iv jv _ => (intOf iv).toNat + (intOf jv).toNat)
  case atStart => exact ⟨lu, lv, [], u, v, [], by go_num, by go_num, h1, h2, Nat.le_refl _, Nat.le_refl _, Lib.hid ⟨by simp; omega, HU.out, HV.out, by simp⟩, Lib.hid (by simpa using H.out)⟩
  case round =>
    obtain ⟨i, j, L, U, V, R, rfl, rfl, hi, hj, hil, hjl, HL, HS⟩ := hrel
    have HLEN := Lib.hid (show (p ++ (L ++ (U ++ (V ++ (R ++ q))))).length = t by
      have e := congrArg List.length HL.out.2.2.2
      have e2 := HT.out
      simp only [List.length_append] at e e2 ⊢
      omega)
    have HPL := Lib.hid (show ((p ++ L).length : Int) = (m : Int) - i by
      have := HL.out.1; have := HA.out
      rw [List.length_append]; omega)
    by_cases hgt : j < i
    · have d1 : (i == j) = false := by simp; omega
      have d2 : decide (j < i) = true := by simp; omega
      have d3 : decide ((j : Int) < i) = true := by simp; omega
      have d4 : ((i : Int) == (j : Int)) = false := by simp; omega
      have hUs : U = U.take j ++ U.drop j := (List.take_append_drop _ _).symm
      have hA : (U.take j).length = j := by rw [List.length_take, HL.out.2.1]; omega
      have hB : (U.drop j).length = i - j := by rw [List.length_drop, HL.out.2.1]
      have hcall := swapRange_z (W := W) (B := B) (N1 := N1) (N2 := N2) (now := now) (age := age) (tail := tail) (w := wr) (p ++ L) (U.take j) (U.drop j) V (R ++ q) ((m : Int) - i) (m : Int) j cap f (by
        rw [← List.append_assoc (U.take j), ← hUs, List.append_assoc]; exact HS.out) HPL.out (by rw [HPL.out, hA, hB]; omega) hA HL.out.2.2.1 t (by
        rw [← List.append_assoc (U.take j), ← hUs, List.append_assoc]; exact HLEN.out) hc
      have HCALL := Lib.hid hcall
      have HNL := Lib.hid (show a + (L ++ V).length + (i - j) = m ∧ (U.drop j).length = i - j ∧ (U.take j).length = j ∧ v ++ u = (L ++ V) ++ (U.take j ++ (U.drop j ++ R)) from
        ⟨by rw [List.length_append, HL.out.2.2.1]; have := HL.out.1; omega, hB, hA, by rw [HL.out.2.2.2, ← List.append_assoc (U.take j), ← hUs, List.append_assoc]⟩)
      have hij : ((i : Int) - j) = ((i - j : Nat) : Int) := by omega
      clear hUs hA hB hcall
      go_wp2_with fail
      refine HCALL.out.mono ?_
      rintro e w2 ⟨rfl, hs2⟩
      have HS2 := Lib.hid hs2
      clear hs2 HCALL
      go_wp2_with fail
      exact ⟨⟨i - j, j, L ++ V, U.drop j, U.take j, R, by go_num, rfl, by omega, hj, by omega, hjl, Lib.hid HNL.out, Lib.hid (by simpa [List.append_assoc] using HS2.out)⟩, by simp [intOf]; omega⟩
    · by_cases hlt : i < j
      · have d1 : (i == j) = false := by simp; omega
        have d2 : decide (j < i) = false := by simp; omega
        have d3 : decide ((j : Int) < i) = false := by simp; omega
        have d4 : ((i : Int) == (j : Int)) = false := by simp; omega
        have hVs : V = V.take (j - i) ++ V.drop (j - i) := (List.take_append_drop _ _).symm
        have hA : (V.take (j - i)).length = j - i := by rw [List.length_take, HL.out.2.2.1]; omega
        have hB : (V.drop (j - i)).length = i := by rw [List.length_drop, HL.out.2.2.1]; omega
        have hcall := swapRange_z (W := W) (B := B) (N1 := N1) (N2 := N2) (now := now) (age := age) (tail := tail) (w := wr) (p ++ L) U (V.take (j - i)) (V.drop (j - i)) (R ++ q) ((m : Int) - i) ((m : Int) + j - i) i cap f (by
          rw [← List.append_assoc (V.take (j - i)), ← hVs, List.append_assoc]; exact HS.out) HPL.out (by rw [HPL.out, hA, HL.out.2.1]; omega) HL.out.2.1 hB t (by
          rw [← List.append_assoc (V.take (j - i)), ← hVs, List.append_assoc]; exact HLEN.out) hc
        have HCALL := Lib.hid hcall
        have HNL := Lib.hid (show a + L.length + i = m ∧ (V.drop (j - i)).length = i ∧ (V.take (j - i)).length = j - i ∧ v ++ u = L ++ (V.take (j - i) ++ (V.drop (j - i) ++ (U ++ R))) from
          ⟨HL.out.1, hB, hA, by rw [HL.out.2.2.2, ← List.append_assoc (V.take (j - i)), ← hVs]⟩)
        clear hVs hA hB hcall
        go_wp2_with fail
        refine HCALL.out.mono ?_
        rintro e w2 ⟨rfl, hs2⟩
        have HS2 := Lib.hid hs2
        clear hs2 HCALL
        go_wp2_with fail
        exact ⟨⟨i, j - i, L, V.drop (j - i), V.take (j - i), U ++ R, rfl, by go_num, hi, by omega, hil, by omega, Lib.hid HNL.out, Lib.hid (by simpa [List.append_assoc] using HS2.out)⟩, by simp [intOf]; omega⟩
      · obtain rfl : i = j := by omega
        have d1 : (i == i) = true := by simp
        have hcall := swapRange_z (W := W) (B := B) (N1 := N1) (N2 := N2) (now := now) (age := age) (tail := tail) (w := wr) (p ++ L) U [] V (R ++ q) ((m : Int) - i) (m : Int) i cap f (by simpa [List.append_assoc] using HS.out) HPL.out (by rw [HPL.out, HL.out.2.1]; simp) HL.out.2.1 HL.out.2.2.1 t (by rw [List.nil_append, List.append_assoc]; exact HLEN.out) hc
        have HCALL := Lib.hid hcall
        have HE := Lib.hid (show p ++ (v ++ (u ++ q)) = p ++ L ++ (V ++ ([] ++ (U ++ (R ++ q)))) by rw [← List.append_assoc v, HL.out.2.2.2]; simp [List.append_assoc])
        clear hcall
        go_wp2_with fail
        refine HCALL.out.mono ?_
        rintro e w2 ⟨rfl, hs2⟩
        go_wp2_with fail
        go_end0
        exact ⟨rfl, by rw [HE.out]; exact hs2⟩
end Go.Proofs.Ytlbneinfejnaaaa.Ss
