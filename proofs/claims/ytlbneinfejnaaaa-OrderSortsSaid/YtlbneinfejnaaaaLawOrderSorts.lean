/-
  The law OrderSorts.
-/
import Derived.Test.YtlbneinfejnaaaaRefSort
import Derived.Test.YtlbneinfejnaaaaSameWt
set_option linter.unusedVariables false
set_option linter.unusedSimpArgs false
namespace Go.Proofs.Ytlbneinfejnaaaa
open Go Go.RowKit Ss
set_option maxRecDepth 100000 in
set_option maxHeartbeats 8000000 in
theorem orderSorts_walk (v : Value) (xs : List Wt) (W : World) (hs : Rd.SliceOf W v 10 Wt.cells xs) (wr0 : ∀ x ∈ xs, Wt.wf x) (now : Int) (w1 : (Lit.int .i64 now).wf = true) (age : Int) (w2 : (Lit.int .i64 age).wf = true) :
    Calls Try.prog 8 #[v, .int .i64 now, .int .i64 age] W fun e w' => e = .returned (.bool true) ∧ Below W.heap.size W w' := by
  clear wr0 w1 w2
  obtain ⟨a, cap, rfl⟩ := hs.form
  obtain ⟨n, hn⟩ : ∃ n, xs.length = n := ⟨_, rfl⟩
  have HS := Lib.hid hs; have HN := Lib.hid hn
  rw [hn]
  have hnm : n ≤ maxLen := by
    rcases id hs with ⟨h1, rfl⟩ | ⟨a, cap, h1, h2, h3, _⟩
    · rw [← hn]; exact Nat.zero_le _
    · omega
  have hn63 : n ≤ 9223372036854775807 := hnm
  clear hs hn hnm
  go_enter Try.func8, Try.ntmps8
  go_wp2_with fail
  refine (awake_any _).mono ?_
  rintro e w1 ⟨rfl, hb1⟩
  have HB1 := Lib.hid hb1
  clear hb1
  by_cases h60 : 60 < n
  · have d0 : decide ((60 : Int) < n) = true := by simp; omega
    go_wp2_with fail
    go_ret
    exact ⟨rfl, HB1.out⟩
  have d0 : decide ((60 : Int) < n) = false := by simp; omega
  have hn60 : n ≤ 60 := by omega
  have HOS := Lib.hid (ordSort_any _ xs now age w1 (HS.out.later HB1.out) (by have := HN.out; omega))
  rw [HN.out] at HOS
  clear h60
  go_wp2_with fail
  refine HOS.out.mono ?_
  rintro e w2 ⟨hb2, hc⟩
  have HB2 := Lib.hid (HB1.out.trans (hb2.mono HB1.out.size))
  obtain ⟨bo, hbo⟩ : ∃ bo, (xs.all Wt.right && timeB now age) = bo := ⟨_, rfl⟩
  obtain ⟨u, cd, rfl, hcase⟩ : ∃ (u : Value) (cd : Int), e = .returned (.tuple #[u, .int .i64 cd]) ∧ ((bo = true ∧ cd = 0 ∧ SortedRow xs now age w1.heap.size u w2) ∨ (bo = false ∧ cd = 1 ∧ u = .slice none 0 0)) := by
    rw [hbo] at hc
    cases bo with
    | true => rw [if_pos rfl] at hc; obtain ⟨u, he, hr⟩ := hc; exact ⟨u, 0, he, .inl ⟨rfl, rfl, hr⟩⟩
    | false => rw [if_neg (by simp)] at hc; exact ⟨_, 1, hc, .inr ⟨rfl, rfl, rfl⟩⟩
  have HC := Lib.hid hcase; have HBO := Lib.hid hbo
  clear hc hcase hbo hb2 HOS
  go_wp2_with fail
  refine (refTime_any now age w2).mono ?_
  rintro e z ⟨rfl, rfl⟩
  go_wp2_with fail
  go_loopw [9, 10] (fun bv iv wr => ∃ (i : Nat) (b : Bool), i ≤ n ∧ iv = .int .i64 i ∧ bv = .bool b ∧ Hid (b = (timeB now age && (xs.take i).all Wt.right)) ∧ Hid (Below W.heap.size W wr) ∧ Hid (Below w2.heap.size w2 wr)) (fun _ iv _ => n - (intOf iv).toNat)
  case atStart => exact ⟨0, _, Nat.zero_le _, rfl, rfl, Lib.hid (by simp), Lib.hid HB2.out, Lib.hid (Below.refl _ _)⟩
  case round => as_aux_lemma =>
    obtain ⟨i, b, hi, rfl, rfl, HI, HB, HB3⟩ := hrel
    by_cases hin : i < n
    · have d1 : decide ((i : Int) < n) = true := by simp; omega
      have hil : i < xs.length := by rw [HN.out]; exact hin
      obtain ⟨x, hx⟩ : ∃ x, xs[i] = x := ⟨_, rfl⟩
      obtain ⟨bb, off, cp, hv, _, _, hb, hat⟩ := Wt.at HS.out hil hx
      rw [HN.out] at hv
      simp only [Value.slice.injEq] at hv
      obtain ⟨rfl, -, rfl⟩ := hv
      obtain ⟨c0, c1, c2, c3, c4, c5, c6, c7, c8, c9⟩ := hat wr HB.out
      have lB : bb < wr.heap.size := Nat.lt_of_lt_of_le hb HB.out.size
      have HTK := Lib.hid (show xs.take (i + 1) = xs.take i ++ [x] by rw [List.take_add_one, List.getElem?_eq_getElem hil, hx]; rfl)
      have HIN := Lib.hid hin
      clear hx hat hil
      cases b with
      | false =>
        have HNI := Lib.hid (show false = (timeB now age && (xs.take (i + 1)).all Wt.right) by rw [HTK.out, List.all_append, ← Bool.and_assoc, ← HI.out]; rfl)
        go_wp2_with fail
        exact ⟨⟨i + 1, false, by omega, by go_num, rfl, Lib.hid HNI.out, Lib.hid HB.out, Lib.hid HB3.out⟩, by simp [intOf]; omega⟩
      | true =>
        obtain ⟨rb, hrb⟩ : ∃ rb, x.right = rb := ⟨_, rfl⟩
        have HNI := Lib.hid (show rb = (timeB now age && (xs.take (i + 1)).all Wt.right) by rw [HTK.out, List.all_append, ← Bool.and_assoc, ← HI.out]; simp [hrb])
        have HRR := Lib.hid (refRight_any x wr)
        rw [hrb] at HRR
        clear hrb
        go_wp2_with fail
        refine HRR.out.mono ?_
        rintro e w5 ⟨rfl, hb5⟩
        have HB5 := Lib.hid (HB.out.trans (hb5.mono HB.out.size)); have HB6 := Lib.hid (HB3.out.trans (hb5.mono HB3.out.size))
        clear hb5 HRR c0 c1 c2 c3 c4 c5 c6 c7 c8 c9 lB
        go_wp2_with fail
        exact ⟨⟨i + 1, rb, by omega, by go_num, rfl, Lib.hid HNI.out, Lib.hid HB5.out, Lib.hid HB6.out⟩, by simp [intOf]; omega⟩
    · obtain rfl : i = n := by omega
      have d1 : decide ((i : Int) < i) = false := by simp
      have hbb : b = bo := by
        rw [HI.out, List.take_of_length_le (by rw [HN.out]; exact Nat.le_refl _), Bool.and_comm]; exact HBO.out
      subst hbb
      clear hin
      rcases HC.out with ⟨rfl, rfl, hsr⟩ | ⟨rfl, rfl, rfl⟩
      · obtain ⟨d1', q1, q2, q3, q4⟩ := hsr
        have hok : ∀ x ∈ xs, RankOk x now age := fun x hx => by
          have := HBO.out
          rw [Bool.and_eq_true, List.all_eq_true] at this
          exact rank_ok (this.1 x hx) this.2
        have HRS := Lib.hid (refSort_any (now := now) (age := age) _ xs wr (HS.out.later HB.out) (by have := HN.out; omega) hok)
        rw [HN.out] at HRS
        have HQ1 := Lib.hid q1; have HQ2 := Lib.hid q2; have HQ3 := Lib.hid q3; have HQ4 := Lib.hid q4
        clear q1 q2 q3 q4 hok
        go_wp2_with fail
        refine HRS.out.mono ?_
        rintro e w6 ⟨u2, rfl, ⟨d2', p1, p2, p3, p4⟩, hb6⟩
        have hdd : d1' = d2' := SE.uniq (lw_swo now age) HQ4.out p4 (HQ3.out.symm.trans p3)
        have s1 : Rd.SliceOf w6 u 10 Wt.cells d1' := slice_own (by rw [HQ2.out]; exact ownsRow_below (ownsRow_below HQ1.out HB3.out) hb6)
        have s2 : Rd.SliceOf w6 u2 10 Wt.cells d2' := slice_own (by rw [p2]; exact p1)
        have HSM := Lib.hid (wtSame_any u u2 d1' d2' w6 s1 s2 (by rw [HQ2.out, HN.out]; omega) true (by simpa using hdd))
        have HB7 := Lib.hid (HB.out.trans (hb6.mono HB.out.size))
        clear hdd s1 s2 p1 p2 p3 p4 hb6 HRS
        go_wp2_with fail
        refine HSM.out.mono ?_
        rintro e w7 ⟨rfl, hb7⟩
        have HB8 := Lib.hid (HB7.out.trans (hb7.mono HB7.out.size))
        clear hb7 HSM
        go_wp2_with fail
        go_ret
        exact ⟨rfl, HB8.out⟩
      · go_wp2_with fail
        go_ret
        exact ⟨rfl, HB.out⟩
end Go.Proofs.Ytlbneinfejnaaaa
