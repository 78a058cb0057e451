/-
  The law WireSame.
-/
import Derived.Test.YtghfdiaaonjofaaWireFacts
set_option linter.unusedVariables false
set_option linter.unusedSimpArgs false
namespace Go.Proofs.Ytghfdiaaonjofaa
open Go.RowKit

theorem entry_place (s : ByteArray) (i : Nat) : (entryF s i).1.place = i := by
  unfold entryF
  split
  · rfl
  · split <;> rfl
theorem entriesN_cons {s : ByteArray} {f a : Nat} {x : We} {r : List We} (h : entriesN s f a = x :: r) : a < s.size ∧ ∃ f', f = f' + 1 ∧ (entryF s a).1 = x ∧ entriesN s f' (entryF s a).2 = r := by
  cases f with
  | zero => cases h
  | succ f =>
    unfold entriesN at h
    split at h
    · rename_i h1
      simp only [List.cons.injEq] at h
      exact ⟨h1, f, rfl, h.1, h.2⟩
    · cases h
theorem entriesN_nil {s : ByteArray} {f a : Nat} (h : entriesN s f a = []) (hf : s.size - a ≤ f) : s.size ≤ a := by
  cases f with
  | zero => omega
  | succ f =>
    unfold entriesN at h
    split at h
    · cases h
    · omega
theorem drop_cons {es : List We} {k : Nat} {x : We} {r : List We} (hx : es[k]? = some x) (h : es.drop k = r) : r = x :: es.drop (k + 1) := by
  obtain ⟨h1, h2⟩ := List.getElem?_eq_some_iff.1 hx
  rw [← h, List.drop_eq_getElem_cons h1, h2]
theorem entries_len (s : ByteArray) : ∀ (f a : Nat), a ≤ s.size → (entriesN s f a).length ≤ s.size - a
  | 0, a, _ => by simp [entriesN]
  | f + 1, a, h => by
    unfold entriesN
    split
    · rename_i h1
      have h2 := entry_next s h1
      have h3 := entries_len s f (entryF s a).2 h2.2
      simp only [List.length_cons]
      omega
    · simp

set_option maxRecDepth 100000 in
set_option maxHeartbeats 4000000 in
theorem wireSame_walk (s : ByteArray) (hsm : s.size ≤ maxLen) (W : World) :
    Calls Try.prog 3 #[.string s] W fun e w' => e = .returned (.bool true) ∧ Below W.heap.size W w' := by
  by_cases h0 : (3000 : Int) < s.size
  · go_enter Try.func3, Try.ntmps3
    go_wp2_with fail
    refine (awake_any _).mono ?_
    rintro e w1 ⟨rfl, hb1⟩
    go_wp2
    go_ret
    exact ⟨rfl, hb1⟩
  have hs3 : s.size ≤ 3000 := by omega
  go_enter Try.func3, Try.ntmps3
  go_wp2_with fail
  refine (awake_any _).mono ?_
  rintro e w1 ⟨rfl, hb1⟩
  have HB1 := Lib.hid hb1
  clear hb1
  go_wp2_with fail
  refine (entries_any s _ (by omega)).mono ?_
  rintro e w2 ⟨v, rfl, ho, hb2⟩
  have hs := (sliceOf_own (cells := We.cells) (sz := 12) (fun _ => rfl) (by decide) ho).1
  obtain ⟨es, hes⟩ : ∃ es, entriesN s s.size 0 = es := ⟨_, rfl⟩
  rw [hes] at hs
  obtain ⟨n, hn⟩ : ∃ n, es.length = n := ⟨_, rfl⟩
  have hn3 : n ≤ 3000 := by
    have := entries_len s s.size 0 (Nat.zero_le _)
    rw [hes] at this
    omega
  obtain ⟨a0, cap0, hv0⟩ := hs.form
  rw [hn] at hv0
  subst hv0
  have HB2 := Lib.hid (HB1.out.trans (hb2.mono HB1.out.size))
  have HSO := Lib.hid hs; have HES := Lib.hid hes; have HN := Lib.hid hn
  clear hs hes hn hb2 ho
  go_wp2_with fail
  go_loopw [4, 5] (fun av i wr => ∃ (k a : Nat), k ≤ n ∧ a ≤ s.size ∧ av = .int .i64 a ∧ i = .int .i64 k ∧ Hid (∃ f, es.drop k = entriesN s f a ∧ s.size - a ≤ f) ∧ Below w2.heap.size w2 wr) (fun _ i _ => n - (intOf i).toNat)
  case atStart => exact ⟨0, 0, Nat.zero_le _, Nat.zero_le _, rfl, rfl, Lib.hid ⟨s.size, by rw [HES.out]; rfl, by omega⟩, Below.refl _ _⟩
  case round =>
    obtain ⟨k, a, hk, ha, rfl, rfl, HI, hB⟩ := hrel
    have HBr := Lib.hid hB
    clear hB
    by_cases hlt : k < n
    · have hlq : k < es.length := by rw [HN.out]; exact hlt
      obtain ⟨f, hf1, hf2⟩ := HI.out
      have hd := drop_cons (List.getElem?_eq_getElem hlq) rfl
      rw [hf1] at hd
      obtain ⟨has, f', rfl, hx, hrest⟩ := entriesN_cons hd
      have hnx := entry_next s has
      have HNX : Hid (∃ f, es.drop (k + 1) = entriesN s f (entryF s a).2 ∧ s.size - (entryF s a).2 ≤ f) := Lib.hid ⟨f', hrest.symm, by omega⟩
      obtain ⟨bb, off, cap3, hv, _, _, hb, hcell⟩ := We.at HSO.out hlq hx.symm
      simp only [Value.slice.injEq] at hv
      obtain ⟨rfl, -, rfl⟩ := hv
      have hplace := entry_place s a
      cases hfl : fldL (byteF s a) with
      | none =>
        have he : entryF s a = (⟨zeroA, 10, a⟩, a + 1) := by unfold entryF; rw [hfl]
        rw [he] at hcell HNX
        have HC := Lib.hid hcell
        obtain ⟨c0, c1, c2, c3, c4, c5, c6, c7, c8, c9, c10, c11⟩ := HC.out wr HBr.out
        have lb := Nat.lt_of_lt_of_le hb HBr.out.size
        clear hcell hx hrest hd hf1 hf2 hfl he hplace hnx c0 c1 c2 c3 c4 c5 c6 c7 c8 c9 hlq
        go_wp2_with fail
        exact ⟨⟨k + 1, a + 1, by omega, by omega, by go_num, by go_num, HNX, HBr.out⟩, by simp [intOf]; omega⟩
      | some l =>
        by_cases hfit : a + 1 + total l ≤ s.size
        · have he : entryF s a = (⟨actF s (a + 1) (byteF s a), 0, a⟩, a + 1 + total l) := by unfold entryF; rw [hfl]; simp only; rw [if_pos hfit]
          rw [he] at hcell HNX
          obtain ⟨hby, hbl⟩ := bytesF_act s a hfl hfit
          have HF := Lib.hid (fits_act s (a + 1) hfl)
          obtain ⟨x, hxa⟩ : ∃ x, actF s (a + 1) (byteF s a) = x := ⟨_, rfl⟩
          rw [hxa] at hby hbl hcell HF
          have HC := Lib.hid hcell
          have HBY := Lib.hid hby; have HBL := Lib.hid hbl
          obtain ⟨c0, c1, c2, c3, c4, c5, c6, c7, c8, c9, c10, c11⟩ := HC.out wr HBr.out
          have lb := Nat.lt_of_lt_of_le hb HBr.out.size
          clear hcell hx hrest hd hf1 hf2 hfl he hplace hnx hlq hby hbl hxa
          go_wp2_with fail
          refine (putAct_any x l HF.out _).mono ?_
          rintro e w4 ⟨rfl, hb4⟩
          have HB4 := Lib.hid (HBr.out.trans (hb4.mono HBr.out.size))
          obtain ⟨b, hbb⟩ : ∃ b, strOfNums (bytesF x l) = b := ⟨_, rfl⟩
          have hbs : b.size = 1 + total l := by rw [← hbb, strOfNums_size]; exact HBL.out
          have hex : s.extract a (a + 1 + total l) = b := by rw [← HBY.out, hbb]
          rw [hbb]
          have HEX := Lib.hid hex
          clear hbb hb4 hex c0 c1 c2 c3 c4 c5 c6 c7 c8 c9 c10 c11
          have i0 : (0 : Int) ≤ a := by omega
          have i1 : (a : Int) ≤ a + b.size := by omega
          have i2 : (a : Int) + b.size ≤ s.size := by omega
          have i3 : decide ((s.size : Int) < (a : Int) + b.size) = false := by simp; omega
          have hsl : ∀ w' : World, (Instr.slice 9 (.string s) (some (.int .i64 a)) (some (.int .i64 ((a : Int) + b.size))) none).run Try.prog w' = .ok (.string b) w' := fun w' => by
            have h := run_slice_string (P := Try.prog) w' 9 s .i64 .i64 a ((a : Int) + b.size) (by kernel_rfl) i0 i1 i2
            have e1 : ((a : Int)).toNat = a := by omega
            have e2 : ((a : Int) + b.size).toNat = a + 1 + total l := by omega
            rw [e1, e2, HEX.out] at h
            exact h
          have HBS := Lib.hid hbs
          clear hbs
          go_wp2_with fail
          have hbs := HBS.out
          exact ⟨⟨k + 1, a + 1 + total l, by omega, hfit, by go_num, by go_num, HNX, HB4.out⟩, by simp [intOf]; omega⟩
        · have he : entryF s a = (⟨zeroA, 11, a⟩, s.size) := by unfold entryF; rw [hfl]; simp only; rw [if_neg hfit]
          rw [he] at hcell HNX
          have HC := Lib.hid hcell
          obtain ⟨c0, c1, c2, c3, c4, c5, c6, c7, c8, c9, c10, c11⟩ := HC.out wr HBr.out
          have lb := Nat.lt_of_lt_of_le hb HBr.out.size
          clear hcell hx hrest hd hf1 hf2 hfl he hplace hnx c0 c1 c2 c3 c4 c5 c6 c7 c8 c9 hlq
          go_wp2_with fail
          exact ⟨⟨k + 1, s.size, by omega, Nat.le_refl _, by go_num, by go_num, HNX, HBr.out⟩, by simp [intOf]; omega⟩
    · obtain rfl : n = k := by omega
      have hend : a = s.size := by
        obtain ⟨f, hf1, hf2⟩ := HI.out
        rw [List.drop_of_length_le (by rw [HN.out]; exact Nat.le_refl _)] at hf1
        have := entriesN_nil hf1.symm hf2
        omega
      subst hend
      have HB5 := Lib.hid (HB2.out.trans (HBr.out.mono HB2.out.size))
      go_wp2_with fail
      go_ret
      exact ⟨rfl, HB5.out⟩
end Go.Proofs.Ytghfdiaaonjofaa
