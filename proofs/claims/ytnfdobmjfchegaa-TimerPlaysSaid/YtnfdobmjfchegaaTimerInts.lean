/-
  Rows of integers that came back, and whether two are alike (the reference's Ints).
-/
import Derived.Test.YtnfdobmjfchegaaTimer6
set_option linter.unusedVariables false
set_option linter.unusedSimpArgs false
namespace Go.Proofs.Ytnfdobmjfchegaa
open Go.RowKit Go.Maps

/-- v is a slice of the integers xs -/
def IntRow (w : World) (v : Value) (xs : List Int) : Prop := ∃ a cap, v = .slice a xs.length cap ∧ ∀ (i : Nat) (x : Int), xs[i]? = some x → ∃ b o, a = some ⟨b, o, none⟩ ∧ w.cell? ⟨b, o + i, none⟩ = some (.int .i64 x) ∧ b < w.heap.size
theorem IntRow.later {w w' : World} {v : Value} {xs : List Int} (h : IntRow w v xs) (hb : Below w.heap.size w w') : IntRow w' v xs := by
  obtain ⟨a, cap, hv, hc⟩ := h
  refine ⟨a, cap, hv, fun i x hx => ?_⟩
  obtain ⟨b, o, h1, h2, h3⟩ := hc i x hx
  exact ⟨b, o, h1, (hb.cell (p := ⟨b, o + i, none⟩) h3).trans h2, Nat.lt_of_lt_of_le h3 hb.size⟩
theorem bne_self_false (x : Int) : (x != x) = false := by simp

set_option maxHeartbeats 2000000 in
theorem ints_any (va vb : Value) (xs ys : List Int) (w : World) (ha : IntRow w va xs) (hb : IntRow w vb ys) (hl : xs.length ≤ 1000000) :
    Calls Try.prog 14 #[va, vb] w fun e w' => e = .returned (.bool (decide (xs = ys))) ∧ Below w.heap.size w w' := by
  obtain ⟨a, capa, rfl, hca⟩ := ha
  obtain ⟨b, capb, rfl, hcb⟩ := hb
  obtain ⟨n, hn⟩ : ∃ n, xs.length = n := ⟨_, rfl⟩
  obtain ⟨m, hm⟩ : ∃ m, ys.length = m := ⟨_, rfl⟩
  rw [hn] at hl ⊢
  rw [hm]
  have HN := Lib.hid hn; have HM := Lib.hid hm; have HA := Lib.hid hca; have HB := Lib.hid hcb
  clear hn hm hca hcb
  by_cases hnm : n = m
  · subst hnm
    have hbn : ((n : Int) != (n : Int)) = false := bne_self_false _
    go_enter Try.func14, Try.ntmps14
    go_wp2_with fail
    go_loopw [5] (fun i wr => ∃ k : Nat, k ≤ n ∧ i = .int .i64 k ∧ Hid (Below w.heap.size w wr ∧ ∀ j, j < k → xs[j]? = ys[j]?)) (fun i _ => n - (intOf i).toNat)
    case atStart => exact ⟨0, Nat.zero_le _, rfl, Lib.hid ⟨Below.refl _ _, fun j hj => by omega⟩⟩
    case round =>
      obtain ⟨k, hk, rfl, hI⟩ := hrel
      by_cases hlt : k < n
      · obtain ⟨x, hx⟩ : ∃ x, xs[k]? = some x := ⟨_, List.getElem?_eq_getElem (by rw [HN.out]; exact hlt)⟩
        obtain ⟨y, hy⟩ : ∃ y, ys[k]? = some y := ⟨_, List.getElem?_eq_getElem (by rw [HM.out]; exact hlt)⟩
        obtain ⟨ba, oa, rfl, hcx, hla⟩ := HA.out k x hx
        obtain ⟨bb, ob, rfl, hcy, hlb⟩ := HB.out k y hy
        have ex := (hI.out.1.cell (p := ⟨ba, oa + k, none⟩) hla).trans hcx
        have ey := (hI.out.1.cell (p := ⟨bb, ob + k, none⟩) hlb).trans hcy
        have la := Nat.lt_of_lt_of_le hla hI.out.1.size; have lb := Nat.lt_of_lt_of_le hlb hI.out.1.size
        have HX := Lib.hid hx; have HY := Lib.hid hy
        clear hcx hcy hx hy hla hlb
        by_cases he : x = y
        · subst he
          have hne : (x != x) = false := bne_self_false x
          go_wp2_with fail
          go_quiet (fail)
          go_wp2
          refine ⟨⟨k + 1, by omega, by go_num, Lib.hid ⟨hI.out.1.trans ⟨rfl, rfl, rfl, Nat.le_refl _, fun _ _ => rfl⟩, fun j hj => ?_⟩⟩, by simp [intOf]; omega⟩
          by_cases e : j = k
          · subst e; rw [HX.out, HY.out]
          · exact hI.out.2 j (by omega)
        · have hne : (x != y) = true := by simpa using he
          have HD := Lib.hid (show decide (xs = ys) = false by
            simp only [decide_eq_false_iff_not]
            intro e
            rw [e, HY.out] at HX
            exact he (Option.some.inj HX.out).symm)
          clear he
          go_wp2_with fail
          go_quiet (fail)
          go_wp2
          go_ret
          exact ⟨congrArg (fun b => Ending.returned (.bool b)) HD.out.symm, hI.out.1.trans ⟨rfl, rfl, rfl, Nat.le_refl _, fun _ _ => rfl⟩⟩
      · obtain rfl : k = n := by omega
        have HD := Lib.hid (show decide (xs = ys) = true by
          simp only [decide_eq_true_eq]
          refine List.ext_getElem? fun j => ?_
          by_cases hj : j < k
          · exact hI.out.2 j hj
          · rw [List.getElem?_eq_none (by rw [HN.out]; omega), List.getElem?_eq_none (by rw [HM.out]; omega)])
        go_wp2
        go_ret
        exact ⟨congrArg (fun b => Ending.returned (.bool b)) HD.out.symm, hI.out.1⟩
  · have hbn : ((n : Int) != (m : Int)) = true := by simp; omega
    have HD := Lib.hid (show decide (xs = ys) = false by
      simp only [decide_eq_false_iff_not]
      intro e
      exact hnm (by rw [← HN.out, ← HM.out, e]))
    clear hnm
    go_enter Try.func14, Try.ntmps14
    go_wp2
    go_ret
    exact ⟨congrArg (fun b => Ending.returned (.bool b)) HD.out.symm, Below.refl _ _⟩
end Go.Proofs.Ytnfdobmjfchegaa
