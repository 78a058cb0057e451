/-
  queue: are the rooms right; a copy of them.
-/
import Derived.Test.YtobdbjkhajinbaaProg
import Derived.Test.YtobdbjkhajinbaaTypes
import Derived.Test.YtobdbjkhajinbaaRead
import Derived.Test.YtobdbjkhajinbaaKeep
import Derived.Test.YtobdbjkhajinbaaAppAny
import Derived.Test.YtobdbjkhajinbaaRegions5
import Derived.Deep.QuietTactic
import Derived.BigQuiet
import Derived.BigRegion
import Derived.StillTailTactics
import Derived.Lib.Hide
import Derived.Handy
import Derived.Deep.AppendLies
import Derived.OwnWalk
import Derived.Deep.Cut
import Derived.Deep.CutRange
set_option linter.unusedVariables false
set_option linter.unusedSimpArgs false
namespace Go.Proofs.Ytobdbjkhajinbaa
open Go.RowKit
theorem I64.at {w : World} {n cap : Nat} {a : Option Addr} {xs : List Int} (s : Rd.SliceOf w (.slice a n cap) 1 I64.cells xs) {k : Nat} {x : Int} (hx : xs[k]? = some x) : ∃ b off, a = some ⟨b, off, none⟩ ∧ b < w.heap.size ∧ ∀ w', Below w.heap.size w w' → w'.cell? ⟨b, off + k, none⟩ = some (.int .i64 x) := by
  obtain ⟨hk, rfl⟩ := List.getElem?_eq_some_iff.1 hx
  have hne : xs ≠ [] := by intro e; subst e; simp at hk
  obtain ⟨b, off, cap', hv, h1, h2, h3, h4⟩ := s.plain hne (fun x _ => by simp [I64.cells])
  simp only [Value.slice.injEq] at hv
  obtain ⟨rfl, -, -⟩ := hv
  refine ⟨b, off, rfl, h3, fun w' hb => ?_⟩
  have := h4 k hk 0 (by simp [I64.cells])
  rw [hb.cell (p := ⟨b, off + k, none⟩) h3]
  simpa [I64.cells] using this
def Fresh (B : Nat) (v : Value) : Prop := ∀ a n c, v = .slice (some a) n c → B ≤ a.block

theorem sliceOf_own {w : World} {base : Nat} {e : TypeId} {sz : Nat} {v : Value} {α : Type} {cells : α → List Value} {xs : List α} (hsz : ∀ x, (cells x).length = sz) (hpos : 0 < sz) (h : w.ownsRow base e sz v xs.length (xs.flatMap cells)) :
    Rd.SliceOf w v sz cells xs ∧ Fresh base v := by
  obtain ⟨hl, ⟨rfl, h0⟩ | ⟨g, cap, cur, rfl, hg, hc, hn, hm, hs, ht⟩⟩ := h
  · exact ⟨.inl ⟨rfl, List.length_eq_zero_iff.1 h0⟩, fun a n c h => by cases h⟩
  · refine ⟨.inr ⟨_, _, rfl, hn, hm, fun i hi j hj => ?_⟩, fun a n c h => by cases h; exact hg⟩
    have hj' : j < sz := by rw [hsz] at hj; exact hj
    have hadd : (⟨g, 0, none⟩ : Addr).add (i * sz + j) = ⟨g, i * sz + j, none⟩ := by
      unfold Addr.add
      split
      · rename_i e'; rw [e']
      · simp
    rw [hadd]
    have hlt : i * sz + j < xs.length * sz := by
      have : (i + 1) * sz ≤ xs.length * sz := Nat.mul_le_mul_right _ hi
      rw [Nat.add_mul] at this
      omega
    have hcell : w.cell? ⟨g, i * sz + j, none⟩ = cur[i * sz + j]? := by simp [World.cell?, hc]
    rw [hcell]
    have h1 : (cur.toList.take (xs.length * sz))[i * sz + j]? = cur.toList[i * sz + j]? := by rw [List.getElem?_take, if_pos hlt]
    rw [ht] at h1
    rw [← Array.getElem?_toList, ← h1]
    have key : ∀ (l : List α) (i j : Nat) (hi : i < l.length) (hj : j < sz), (l.flatMap cells)[i * sz + j]? = (cells l[i])[j]? := by
      intro l
      induction l with
      | nil => intro i j hi; simp at hi
      | cons x r ih =>
        intro i j hi hj
        rw [List.flatMap_cons]
        cases i with
        | zero => rw [List.getElem?_append_left (by rw [hsz]; omega)]; simp
        | succ i =>
          rw [List.getElem?_append_right (by rw [hsz, Nat.add_mul]; omega), hsz]
          have : (i + 1) * sz + j - sz = i * sz + j := by rw [Nat.add_mul]; omega
          rw [this]
          simpa using ih i j (by simpa using hi) hj
    rw [key xs i j hi hj', List.getElem?_eq_getElem]
theorem wrap_eq (n : Int) : IntKind.i64.wrap n = wrap64 n := by first | rfl | (rw [IntKind.wrap_i64]; done) | (rw [IntKind.wrap_i64]; rfl) | (rw [IntKind.wrap_i64]; unfold wrap64; omega)
def badN (n : Int) : Bool := decide (n < 0) || decide (16 < n)
theorem new1_any (n : Int) (w : World) : Calls Try.prog 27 #[.int .i64 n] w fun e w' => e = .returned (.bool (badN n)) ∧ w' = w := by
  have HB := Lib.hid (show badN n = (decide (n < 0) || decide (16 < n)) from rfl)
  obtain ⟨b, hb⟩ : ∃ b, badN n = b := ⟨_, rfl⟩
  rw [hb]
  have HB2 := Lib.hid hb
  clear hb
  by_cases h : n < 0
  · have d1 : decide (n < 0) = true := by simp; omega
    have hr : b = true := by rw [← HB2.out, HB.out, d1]; rfl
    subst hr
    clear h
    go_enter Try.func27, Try.ntmps27
    go_wp2_with fail
    go_ret
    exact ⟨rfl, rfl⟩
  · have d1 : decide (n < 0) = false := by simp; omega
    have hr : decide (16 < n) = b := by rw [← HB2.out, HB.out, d1]; rfl
    clear h
    go_enter Try.func27, Try.ntmps27
    go_wp2_with fail
    go_ret
    exact ⟨by first | rfl | (rw [← hr]; rfl) | (rw [hr]; done), rfl⟩
theorem index_any (v : Value) (xs : List Int) (w : World) (h : Rd.SliceOf w v 1 I64.cells xs) (hl : xs.length ≤ maxLen) :
    Calls Try.prog 41 #[v, .func (.func 27) #[] #[]] w fun e w' => ∃ k : Int, e = .returned (.int .i64 k) ∧ (decide (0 ≤ k) = xs.any badN) ∧ w' = w := by
  obtain ⟨a, cap, rfl⟩ := h.form
  obtain ⟨n, hn⟩ : ∃ n, xs.length = n := ⟨_, rfl⟩
  have HN := Lib.hid hn; have HS := Lib.hid h
  rw [hn] at hl ⊢
  have hl63 : n ≤ 9223372036854775807 := hl
  clear hn h hl
  go_enter Try.func41, Try.ntmps41
  go_wp2_with fail
  go_loopw [8] (fun i wr => ∃ k : Nat, k ≤ n ∧ i = .int .i64 k ∧ Hid (∀ x ∈ xs.take k, badN x = false) ∧ wr = w) (fun i _ => n - (intOf i).toNat)
  case atStart => exact ⟨0, Nat.zero_le _, rfl, Lib.hid (fun x h => by simp at h), rfl⟩
  case round =>
    obtain ⟨k, hk, rfl, hI, rfl⟩ := hrel
    by_cases hlt : k < n
    · have hkx : k < xs.length := by rw [HN.out]; exact hlt
      obtain ⟨x, hx⟩ : ∃ x, xs[k]? = some x := ⟨_, List.getElem?_eq_getElem hkx⟩
      have HX := Lib.hid hx
      obtain ⟨b, off, hv, hb, hat⟩ := I64.at (cap := cap) (n := n) (a := a) (by have := HS.out; rw [HN.out] at this; exact this) hx
      subst hv
      have c0 := hat wr (Below.refl _ _)
      clear hx hat
      go_wp2_with fail
      refine (new1_any x _).mono ?_
      rintro e z ⟨rfl, hz⟩
      replace hz := hz.symm
      subst hz
      have htk : xs.take (k + 1) = xs.take k ++ [x] := by rw [List.take_add_one, HX.out]; rfl
      cases hbx : badN x with
      | true =>
        have hr : decide ((0 : Int) ≤ (k : Int)) = xs.any badN := by
          rw [decide_eq_true (by omega)]
          symm
          rw [List.any_eq_true]
          exact ⟨x, List.mem_of_getElem? HX.out, hbx⟩
        have HR := Lib.hid hr
        clear hr hbx htk
        go_wp2_with fail
        go_ret
        exact ⟨k, rfl, HR.out, rfl⟩
      | false =>
        have hnx : ∀ y ∈ xs.take (k + 1), badN y = false := fun y hy => by
          rw [htk] at hy
          rcases List.mem_append.1 hy with hy | hy
          · exact hI.out y hy
          · simp only [List.mem_singleton] at hy; subst hy; exact hbx
        have HNX := Lib.hid hnx
        clear hnx hbx htk
        go_wp2_with fail
        exact ⟨⟨k + 1, by omega, by go_num, Lib.hid HNX.out, by first | rfl | trivial⟩, by simp [intOf]; omega⟩
    · obtain rfl : k = n := by omega
      have hr : decide ((0 : Int) ≤ -1) = xs.any badN := by
        rw [decide_eq_false (by decide)]
        symm
        rw [List.any_eq_false]
        intro x hx
        rw [hI.out x (by rw [List.take_of_length_le (by rw [HN.out]; exact Nat.le_refl _)]; exact hx)]
        decide
      have HR := Lib.hid hr
      clear hr
      go_wp2_with fail
      go_ret
      exact ⟨-1, rfl, HR.out, rfl⟩
theorem contains_any (v : Value) (xs : List Int) (w : World) (h : Rd.SliceOf w v 1 I64.cells xs) (hl : xs.length ≤ maxLen) :
    Calls Try.prog 26 #[v, .func (.func 27) #[] #[]] w fun e w' => e = .returned (.bool (xs.any badN)) ∧ w' = w := by
  have HI := Lib.hid (index_any v xs w h hl)
  obtain ⟨b, hb⟩ : ∃ b, xs.any badN = b := ⟨_, rfl⟩
  have HB := Lib.hid hb
  rw [hb]
  clear h hb
  go_enter Try.func26, Try.ntmps26
  go_wp2_with fail
  refine HI.out.mono ?_
  rintro e z ⟨k, rfl, hk, hz⟩
  replace hz := hz.symm
  subst hz
  rw [HB.out] at hk
  go_wp2_with fail
  go_ret
  exact ⟨by first | rfl | (rw [← hk]; rfl), rfl⟩
theorem infoI : (Try.prog.info? 3).map (fun i => (i.zero, i.size, i.bytes)) = some (some (.int .i64 0), 1, 8) := by kernel_rfl
theorem clone_any (v : Value) (xs : List Int) (w : World) (h : Rd.SliceOf w v 1 I64.cells xs) (hl : xs.length ≤ 1000000) (hne : xs ≠ []) :
    Calls Try.prog 28 #[v] w fun e w' => ∃ u, e = .returned u ∧ w'.ownsRow w.heap.size 3 1 u xs.length (xs.flatMap I64.cells) ∧ Below w.heap.size w w' := by
  obtain ⟨b, off, cap, rfl, h1, h2, h3, h4⟩ := h.plain hne (fun x _ => by simp [I64.cells])
  obtain ⟨n, hn⟩ : ∃ n, xs.length = n := ⟨_, rfl⟩
  have hfl : ∀ ys : List Int, (ys.flatMap I64.cells).length = ys.length := fun ys => by
    induction ys with
    | nil => rfl
    | cons y r ih => rw [List.flatMap_cons, List.length_append, ih, List.length_cons]; simp [I64.cells]; omega
  have hc : ∀ j u, (xs.flatMap I64.cells)[j]? = some u → w.cell? ⟨b, off + j, none⟩ = some u := fun j u hu => by
    have hj : j < xs.length := by have := (List.getElem?_eq_some_iff.1 hu).1; rwa [hfl] at this
    have e1 : xs.flatMap I64.cells = xs.map (Value.int .i64) := by
      clear hu hj h4 h1 hn hne h hl
      induction xs with
      | nil => rfl
      | cons y r ih => rw [List.flatMap_cons, ih]; rfl
    rw [e1, List.getElem?_map, List.getElem?_eq_getElem hj] at hu
    have := h4 j hj 0 (by simp [I64.cells])
    rw [Nat.mul_one, Nat.add_zero] at this
    rw [this, ← hu]
    simp [I64.cells]
  have HC := Lib.hid hc; have HN := Lib.hid hn; have HFL := Lib.hid (hfl xs); have HNE := Lib.hid hne
  rw [hn] at hl h1 ⊢
  clear h h4 hc hfl hn hne
  obtain ⟨i0, hi0, hz0, hz1, hz2⟩ := info_parts infoI
  have hcmp : ∀ w' : World, (binOp BinOp.eql 22 (.slice (some ⟨b, off, none⟩) n cap) (.slice none 0 0)).run Try.prog w' = .ok (.bool false) w' := fun w' => by
    first | rfl | (simp [binOp, go_sem]; done)
  have hone : ∀ u ∈ xs.flatMap I64.cells, u.oneCell' = true := by
    intro u hu
    obtain ⟨x, _, hx⟩ := List.mem_flatMap.1 hu
    simp [I64.cells] at hx
    subst hx; rfl
  have hown0 : (w.alloc (.cells #[] 3)).ownsRow w.heap.size 3 1 (.slice (some ⟨w.heap.size, 0, none⟩) 0 0) 0 [] :=
    ⟨rfl, .inr ⟨w.heap.size, 0, #[], rfl, Nat.le_refl _, World.alloc_heap_new w _, Nat.le_refl _, Nat.zero_le _, rfl, rfl⟩⟩
  have HO := Lib.hid hown0; have HONE := Lib.hid hone
  have hb1 := (Below.refl w.heap.size w).alloc (Nat.le_refl _) (.cells #[] 3)
  have HB := Lib.hid hb1
  have hn0 : 0 < n := by
    rcases Nat.eq_zero_or_pos n with h | h
    · exfalso; exact HNE.out (List.length_eq_zero_iff.1 (HN.out.trans h))
    · exact h
  have hnw : ∀ j u, (xs.flatMap I64.cells)[j]? = some u → (w.alloc (.cells #[] 3)).cell? ((⟨b, off, none⟩ : Addr).add j) = some u := fun j u hu => by
    have h1 := HC.out j u hu
    have hadd : (⟨b, off, none⟩ : Addr).add j = ⟨b, off + j, none⟩ := by
      unfold Addr.add
      split
      · rename_i e'; rw [e']; rfl
      · rfl
    rw [hadd, HB.out.cell (World.block_lt_of_cell? w _ h1)]
    exact h1
  have HNW := Lib.hid hnw
  clear hown0 hone hb1 hnw
  go_enter Try.func28, Try.ntmps28
  go_wp2_with (at_builtin; refine wpList_append_lies _ rfl _ _ _ rfl w.heap.size 3 i0 _ 1 8 Try.underlying22 hi0 hz0 hz1 hz2 rfl (by omega) (.slice (some ⟨w.heap.size, 0, none⟩) 0 0) 0 _ rfl HO.out ⟨b, off, none⟩ n cap (xs.flatMap I64.cells) rfl (by rw [HFL.out, HN.out]; omega) HNW.out HONE.out hn0 (by unfold maxLen; omega) (by omega) (by simp) (w.heap.size + 1) (by simp) ?_)
  intro gg cap' w6 hown6 hgrow hat hlt6
  have hf6 := Fr.grown (Fr.refl _ (fun q => (Value.slice (some ⟨w.heap.size, 0, none⟩) 0 0).ownBlock = some q) _) hgrow (Nat.le_refl _) (fun q e => .inr e)
  have hb6 : Below w.heap.size w w6 := HB.out.trans (hf6.below HB.out.size fun q e => by simp only [Value.ownBlock, Option.some.injEq] at e; omega)
  have HFIN := Lib.hid (And.intro hown6 hb6)
  clear hown6 hgrow hat hlt6 hf6 hb6
  go_wp2_with fail
  go_ret
  exact ⟨_, rfl, by first | exact HFIN.out.1 | (rw [Nat.zero_add]; exact HFIN.out.1), HFIN.out.2⟩
end Go.Proofs.Ytobdbjkhajinbaa
