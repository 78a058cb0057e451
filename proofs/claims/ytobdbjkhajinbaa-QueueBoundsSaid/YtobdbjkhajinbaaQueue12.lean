/-
  queue: slices.Concat of the rows; All.
-/
import Derived.Test.YtobdbjkhajinbaaQueue11
set_option linter.unusedVariables false
set_option linter.unusedSimpArgs false
namespace Go.Proofs.Ytobdbjkhajinbaa
open Go.RowKit
theorem own_form {w : World} {base : Nat} {e : TypeId} {sz : Nat} {v : Value} {n : Nat} {xs : List Value} (h : w.ownsRow base e sz v n xs) : ∃ a cap, v = .slice a n cap := by
  obtain ⟨_, ⟨rfl, rfl⟩ | ⟨g, cap, _, rfl, _⟩⟩ := h
  · exact ⟨none, 0, rfl⟩
  · exact ⟨_, cap, rfl⟩
theorem src_of {w : World} {a : Option Addr} {c : Nat} {l : List Wt} (h : Rd.SliceOf w (.slice a l.length c) 10 Wt.cells l) : Src w 10 a l.length c (l.flatMap Wt.cells) := by
  rcases h with ⟨h1, rfl⟩ | ⟨a', c', h1, _, _, hc⟩
  · simp only [Value.slice.injEq] at h1
    obtain ⟨rfl, _, rfl⟩ := h1
    exact .inl ⟨rfl, rfl, rfl, rfl⟩
  · simp only [Value.slice.injEq] at h1
    obtain ⟨rfl, _, rfl⟩ := h1
    refine .inr ⟨a', rfl, flatW_len l, fun j u hu => ?_⟩
    have hj : j < l.length * 10 := by have := (List.getElem?_eq_some_iff.1 hu).1; rwa [flatW_len] at this
    have hd : j = (j / 10) * 10 + j % 10 := by omega
    have hq : j / 10 < l.length := by omega
    have hr : j % 10 < 10 := by omega
    have key : ∀ (l : List Wt) (i j : Nat) (hi : i < l.length) (hj : j < 10), (l.flatMap Wt.cells)[i * 10 + j]? = (Wt.cells l[i])[j]? := by
      intro l
      induction l with
      | nil => intro i j hi; simp at hi
      | cons y r ih =>
        intro i j hi hj
        rw [List.flatMap_cons]
        cases i with
        | zero => rw [Nat.zero_mul, Nat.zero_add, List.getElem?_append_left (by simpa [Wt.cells] using hj)]; rfl
        | succ i =>
          rw [List.getElem?_append_right (by simp [Wt.cells]; omega), show (i + 1) * 10 + j - (Wt.cells y).length = i * 10 + j by simp [Wt.cells]; omega]
          exact ih i j (by simpa using hi) hj
    have h2 := hc (j / 10) hq (j % 10) (by simpa [Wt.cells] using hr)
    rw [hd, key l _ _ hq hr, List.getElem?_eq_getElem (by simpa [Wt.cells] using hr)] at hu
    rw [hd, h2]
    exact hu
def sumL (rows : List (List Wt)) : Nat := (rows.map List.length).sum
theorem sumL_snoc (rows : List (List Wt)) (l : List Wt) : sumL (rows ++ [l]) = sumL rows + l.length := by unfold sumL; rw [List.map_append, List.sum_append]; simp
theorem sumL_flat : ∀ rows : List (List Wt), rows.flatten.length = sumL rows
  | [] => rfl
  | l :: r => by
    have := sumL_flat r
    unfold sumL at this ⊢
    rw [List.flatten_cons, List.length_append, this, List.map_cons, List.sum_cons]
theorem sumL_le : ∀ (rows : List (List Wt)), (∀ l ∈ rows, l.length ≤ 1000) → sumL rows ≤ 1000 * rows.length
  | [], _ => by simp [sumL]
  | l :: r, h => by
    have h1 := h l (List.mem_cons_self ..)
    have h2 := sumL_le r fun x hx => h x (List.mem_cons_of_mem _ hx)
    unfold sumL at h2 ⊢
    rw [List.map_cons, List.sum_cons, List.length_cons]; omega
section
variable {w w' : World} {base p R M : Nat} {vs : List Value} {rows : List (List Wt)} {rooms : List Int}
set_option maxHeartbeats 2000000 in
theorem concat_any (h : QAt w base p R M vs rows rooms) (hfew : ∀ l ∈ rows, l.length ≤ 1000) :
    Calls Try.prog 34 #[.slice (some ⟨R, 0, none⟩) rooms.length rooms.length] w fun e w' => ∃ v, e = .returned v ∧ w'.ownsRow w.heap.size 35 10 v rows.flatten.length (rows.flatten.flatMap Wt.cells) ∧ Below w.heap.size w w' := by
  obtain ⟨n, hn⟩ : ∃ n, rooms.length = n := ⟨_, rfl⟩
  have hrl := h.rlen
  have hn8 := h.few
  rw [hn] at hrl hn8 ⊢
  obtain ⟨_, _, lR, _⟩ := h.cells
  have H := Lib.hid h; have HRL := Lib.hid hrl; have HFEW := Lib.hid hfew
  clear h hn hrl hfew
  go_enter Try.func34, Try.ntmps34
  go_wp2_with fail
  go_loopw [3, 11] (fun sv iv wr => ∃ (k t : Nat), k ≤ n ∧ iv = .int .i64 k ∧ sv = .int .i64 t ∧ t ≤ 1000 * k ∧ Hid (t = sumL (rows.take k)) ∧ wr = w) (fun _ iv _ => n - (intOf iv).toNat)
  case atStart => exact ⟨0, 0, Nat.zero_le _, rfl, rfl, Nat.zero_le _, Lib.hid rfl, rfl⟩
  case round =>
    obtain ⟨k, t, hk, rfl, rfl, ht, hT, rfl⟩ := hrel
    by_cases hlt : k < n
    · have hkr : k < rows.length := by rw [HRL.out]; exact hlt
      obtain ⟨a, c, hc, hs, hlm⟩ := H.out.at hkr
      obtain ⟨l, hl⟩ : ∃ l, rows[k] = l := ⟨_, rfl⟩
      rw [hl] at hc hs hlm
      obtain ⟨m, hm⟩ : ∃ m, l.length = m := ⟨_, rfl⟩
      have hm1 : m ≤ 1000 := hm ▸ HFEW.out l (hl ▸ List.getElem_mem hkr)
      rw [hm] at hc hlm
      have htk : rows.take (k + 1) = rows.take k ++ [l] := by rw [List.take_add_one, List.getElem?_eq_getElem hkr, hl]; rfl
      have HT2 := Lib.hid (show t + m = sumL (rows.take (k + 1)) by rw [htk, sumL_snoc, ← hT.out, hm])
      have d1 : decide ((t : Int) + (m : Int) < 0) = false := by simp; omega
      have d2 : wrap64 ((t : Int) + (m : Int)) = (t : Int) + (m : Int) := by unfold wrap64; omega
      clear hs hl hm hlm htk
      go_wp2_with fail
      exact ⟨⟨k + 1, t + m, by omega, by go_num, by go_num, by omega, Lib.hid HT2.out, by first | rfl | trivial⟩, by simp [intOf]; omega⟩
    · obtain rfl : k = n := by omega
      go_wp2_with fail
      refine (grow_any t _ (by omega)).mono ?_
      rintro e w2 ⟨a0, c0, rfl, ho, hb⟩
      have HO := Lib.hid ho; have HB := Lib.hid hb
      clear ho hb
      have hBs : wr.heap.size ≤ w2.heap.size := HB.out.size
      go_wp2_with fail
      go_loopw [6, 27] (fun ov iv wx => ∃ (j : Nat) (v : Value), j ≤ k ∧ iv = .int .i64 j ∧ ov = v ∧ Hid (wx.ownsRow wr.heap.size 35 10 v (rows.take j).flatten.length ((rows.take j).flatten.flatMap Wt.cells) ∧ Below wr.heap.size wr wx)) (fun _ iv _ => k - (intOf iv).toNat)
      case atStart => exact ⟨0, _, Nat.zero_le _, rfl, rfl, Lib.hid ⟨HO.out, HB.out⟩⟩
      case round =>
        obtain ⟨j, v, hj, rfl, rfl, hI⟩ := hrel
        by_cases hjt : j < k
        · have hjr : j < rows.length := by rw [HRL.out]; exact hjt
          have HJ := Lib.hid (H.out.later hI.out.2)
          obtain ⟨a, c, hc, hs, hlm⟩ := HJ.out.at hjr
          obtain ⟨l, hl⟩ : ∃ l, rows[j] = l := ⟨_, rfl⟩
          rw [hl] at hc hs hlm
          have hsrc := src_of hs
          have hsum := sumL_le rows HFEW.out
          obtain ⟨m, hm⟩ : ∃ m, l.length = m := ⟨_, rfl⟩
          have hm1 : m ≤ 1000 := hm ▸ HFEW.out l (hl ▸ List.getElem_mem hjr)
          rw [hm] at hc hlm hsrc
          have hfl : (rows.take j).flatten.length ≤ 8000 := by
            rw [sumL_flat]
            have := sumL_le (rows.take j) (fun x hx => HFEW.out x (List.mem_of_mem_take hx))
            rw [List.length_take] at this
            have := HRL.out
            omega
          obtain ⟨q, hq⟩ : ∃ q, (rows.take j).flatten.length = q := ⟨_, rfl⟩
          have hI1 := hI.out.1
          rw [hq] at hI1 hfl
          obtain ⟨va, vc, rfl⟩ := own_form hI1
          have htk : (rows.take (j + 1)).flatten = (rows.take j).flatten ++ l := by rw [List.take_add_one, List.getElem?_eq_getElem hjr, hl]; simp
          have HTK := Lib.hid htk; have HQ := Lib.hid hq; have HM := Lib.hid hm; have HI1 := Lib.hid hI1; have HSRC := Lib.hid hsrc
          have lR2 := Nat.lt_of_lt_of_le lR hI.out.2.size
          have hbw := hI.out.2.size
          obtain ⟨i0, hi0, hz0, hz1, hz2⟩ := info_parts infoWt
          clear hs hl hm hlm htk hsum hq hI1 hsrc
          go_wp2_with (at_builtin; refine wpList_append_src _ rfl _ _ _ rfl _ 35 i0 _ 10 80 Try.underlying39 hi0 hz0 hz1 hz2 rfl (by omega) (.slice va q vc) q _ rfl HI1.out a m c _ rfl HSRC.out (flatW_one _) (by unfold maxLen; omega) (by omega) hbw ?_)
          intro v' w6 hown6 hgrow hat
          have hb6 : Below _ _ w6 := hI.out.2.trans ((Fr.grown (Fr.refl _ (fun z => (Value.slice va q vc).ownBlock = some z) _) hgrow (Nat.le_refl _) (fun z e => .inr e)).below hI.out.2.size fun g e => (HI1.out.lt g e).1)
          have HFIN := Lib.hid (And.intro hown6 hb6)
          clear hown6 hgrow hat hb6
          go_wp2_with fail
          refine ⟨⟨j + 1, v', by omega, by go_num, rfl, Lib.hid ⟨?_, HFIN.out.2⟩⟩, by simp [intOf]; omega⟩
          rw [HTK.out, List.length_append, List.flatMap_append, HQ.out, HM.out]
          exact HFIN.out.1
        · obtain rfl : j = k := by omega
          have HFIN := Lib.hid hI.out
          go_wp2_with fail
          go_ret
          refine ⟨_, rfl, ?_, HFIN.out.2⟩
          have := HFIN.out.1
          rwa [List.take_of_length_le (by rw [HRL.out]; exact Nat.le_refl _)] at this
theorem all_any (h : QAt w base p R M vs rows rooms) (hfew : ∀ l ∈ rows, l.length ≤ 1000) :
    Calls Try.prog 15 #[.pointer (some ⟨p, 0, none⟩)] w fun e w' => ∃ v, e = .returned v ∧ w'.ownsRow w.heap.size 35 10 v rows.flatten.length (rows.flatten.flatMap Wt.cells) ∧ Below w.heap.size w w' := by
  obtain ⟨⟨cm, c0, c1⟩, lp, _⟩ := h.cells
  have HC := Lib.hid (concat_any h hfew)
  clear h hfew c1
  go_enter Try.func15, Try.ntmps15
  go_wp2_with fail
  refine HC.out.mono ?_
  rintro e w2 ⟨v, rfl, ho, hb⟩
  have HO := Lib.hid ho; have HB := Lib.hid hb
  clear ho hb
  go_wp2_with fail
  go_ret
  exact ⟨_, rfl, HO.out, HB.out⟩
end
end Go.Proofs.Ytobdbjkhajinbaa
