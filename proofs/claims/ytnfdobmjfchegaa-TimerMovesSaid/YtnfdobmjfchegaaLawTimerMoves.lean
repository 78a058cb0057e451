/-
  The law TimerMoves.
-/
import Derived.Test.YtnfdobmjfchegaaTimerBook
set_option linter.unusedVariables false
set_option linter.unusedSimpArgs false
namespace Go.Proofs.Ytnfdobmjfchegaa
open Go.RowKit Go.Maps

theorem set_one {s : List En} {id n : Int} (hn : 0 ≤ n ∧ n ≤ 1073741824) (hs : s = [] ∨ ∃ m, s = [⟨m, id⟩]) : setE s id n = (0, [⟨n, id⟩]) := by
  have h1 : ¬ (n < 0 ∨ 1073741824 < n) := by omega
  rcases hs with rfl | ⟨m, rfl⟩
  · unfold setE
    rw [if_neg h1]
    rfl
  · unfold setE
    rw [if_neg h1]
    have hl : lookE [⟨m, id⟩] id = some ⟨m, id⟩ := by unfold lookE; rw [List.find?_cons_of_pos (by simp)]
    rw [hl]
    have ho : outE [⟨m, id⟩] id = [] := by unfold outE; rw [List.filter_cons_of_neg (by simp)]; rfl
    simp only
    by_cases e : m = n
    · rw [if_pos e, e]
    · rw [if_neg e, ho]; rfl
theorem I64.at {w : World} {n cap : Nat} {a : Option Addr} {xs : List Int} (s : Rd.SliceOf w (.slice a n cap) 1 I64.cells xs) {k : Nat} {x : Int} (hx : xs[k]? = some x) : ∃ b off, a = some ⟨b, off, none⟩ ∧ b < w.heap.size ∧ ∀ w', Below w.heap.size w w' → w'.cell? ⟨b, off + k, none⟩ = some (.int .i64 x) := by
  obtain ⟨hk, rfl⟩ := List.getElem?_eq_some_iff.1 hx
  have hne : xs ≠ [] := by intro e; subst e; simp at hk
  obtain ⟨b, off, cap', hv, h1, h2, h3, h4⟩ := s.plain hne (fun x _ => by simp [I64.cells])
  simp only [Value.slice.injEq] at hv
  obtain ⟨rfl, -, -⟩ := hv
  refine ⟨b, off, rfl, h3, fun w' hb => ?_⟩
  have := h4 k hk 0 (by simp [I64.cells])
  rw [hb.cell (p := ⟨b, off + k, none⟩) h3]
  simpa [I64.cells] using this
theorem land_bound (x : Int) : 0 ≤ bits .and .i64 x 1048575 ∧ bits .and .i64 x 1048575 ≤ 1048575 := by
  have h : bits .and .i64 x 1048575 = IntKind.i64.wrap ((BitVec.ofInt 64 x &&& BitVec.ofInt 64 1048575).toNat : Int) := rfl
  have h2 : (BitVec.ofInt 64 x &&& BitVec.ofInt 64 1048575).toNat ≤ 1048575 := by
    rw [BitVec.toNat_and]
    exact Nat.and_le_right
  rw [h, wrap_eq]
  unfold wrap64
  omega
set_option maxHeartbeats 2000000 in
theorem timerMoves_walk (id : Int) (wid : (Lit.int .i64 id).wf = true) (v : Value) (xs : List Int) (W : World) (s : Rd.SliceOf W v 1 I64.cells xs) (wf : ∀ x ∈ xs, I64.wf x) (drop : Bool) :
    Calls Try.prog 6 #[.int .i64 id, v, .bool drop] W fun e w' => e = .returned (.bool true) ∧ Below W.heap.size W w' := by
  obtain ⟨a0, cap0, hv0⟩ := s.form
  obtain ⟨n, hn⟩ : ∃ n, xs.length = n := ⟨_, rfl⟩
  have HS := Lib.hid s; have HN := Lib.hid hn
  rw [hn] at hv0
  subst hv0
  clear s hn
  by_cases h0 : (60 : Int) < n
  · go_enter Try.func6, Try.ntmps6
    go_wp2_with fail
    refine (awake_any _).mono ?_
    rintro e w1 ⟨rfl, hb1⟩
    go_wp2
    go_ret
    exact ⟨rfl, hb1⟩
  have hn60 : n ≤ 60 := by omega
  by_cases h1 : n = 0
  · subst h1
    go_enter Try.func6, Try.ntmps6
    go_wp2_with fail
    refine (awake_any _).mono ?_
    rintro e w1 ⟨rfl, hb1⟩
    go_wp2
    go_ret
    exact ⟨rfl, hb1⟩
  have hn1 : ((n : Int) == 0) = false := by simp; omega
  go_enter Try.func6, Try.ntmps6
  go_wp2_with fail
  refine (awake_any _).mono ?_
  rintro e w1 ⟨rfl, hb1⟩
  have K1 := Lib.hid ((Kept.start W).later hb1)
  clear hb1
  go_wp2_with fail
  refine (TK.start K1.out).mono ?_
  rintro e w2 ⟨p, rfl, G2⟩
  have HG2 := Lib.hid G2
  clear G2 K1
  go_wp2_with fail
  go_loopw [8, 9] (fun lv i wr => ∃ (k : Nat) (m : Int) (s : List En), k ≤ n ∧ 0 ≤ m ∧ m ≤ 1048575 ∧ lv = .int .i64 m ∧ i = .int .i64 k ∧ Hid (TK W wr p k s [] ∧ ((k = 0 ∧ s = []) ∨ s = [⟨m, id⟩]))) (fun _ i _ => n - (intOf i).toNat)
  case atStart => exact ⟨0, 0, [], Nat.zero_le _, by omega, by omega, rfl, rfl, Lib.hid ⟨HG2.out, .inl ⟨rfl, rfl⟩⟩⟩
  case round =>
    obtain ⟨k, m, s, hk, hm0, hm1, rfl, rfl, hI⟩ := hrel
    have HBW := Lib.hid hI.out.1.below
    by_cases hlt : k < n
    · obtain ⟨x, hx⟩ : ∃ x, xs[k]? = some x := ⟨_, List.getElem?_eq_getElem (by rw [HN.out]; exact hlt)⟩
      obtain ⟨b, off, rfl, hb, hcell⟩ := I64.at HS.out hx
      have c0 := hcell wr HBW.out
      have lb := Nat.lt_of_lt_of_le hb HBW.out.size
      clear hcell hb hx
      obtain ⟨y, hy⟩ : ∃ y, bits .and .i64 x 1048575 = y := ⟨_, rfl⟩
      have hyb := land_bound x
      rw [hy] at hyb
      have hset := set_one (s := s) (id := id) (n := y) (by omega) (hI.out.2.imp (fun h => h.2) (fun h => ⟨m, h⟩))
      have HSET := Lib.hid hset; have HY := Lib.hid hy
      have hy0 := hyb.1; have hy1 := hyb.2
      clear hset hy hyb
      go_wp2_with fail
      rw [HY.out]
      refine (hI.out.1.set id y wid (by omega)).mono ?_
      rintro e w3 ⟨rfl, G3⟩
      rw [HSET.out] at G3 ⊢
      have HG3 := Lib.hid G3
      clear G3 c0 lb
      go_wp2_with fail
      refine HG3.out.len.mono ?_
      rintro e w4 ⟨rfl, G4⟩
      have HG4 := Lib.hid G4
      clear G4
      go_wp2_with fail
      exact ⟨⟨k + 1, y, [⟨y, id⟩], by omega, hy0, hy1, rfl, by go_num, Lib.hid ⟨HG4.out, .inr rfl⟩⟩, by simp [intOf]; omega⟩
    · obtain rfl : k = n := by omega
      have hs : s = [⟨m, id⟩] := hI.out.2.resolve_left fun h => h1 h.1
      subst hs
      have HG := Lib.hid hI.out.1
      have hl : lookE [⟨m, id⟩] id = some ⟨m, id⟩ := by unfold lookE; rw [List.find?_cons_of_pos (by simp)]
      have HDR := Lib.hid (show dropE [⟨m, id⟩] id = (0, []) by
        unfold dropE
        rw [hl]
        have ho : outE [⟨m, id⟩] id = [] := by unfold outE; rw [List.filter_cons_of_neg (by simp)]; rfl
        rw [ho])
      have HAT := Lib.hid hl
      have HD1 := Lib.hid (show dueE [⟨m, id⟩] (m - 1) = [] ∧ restE [⟨m, id⟩] (m - 1) = [⟨m, id⟩] from due_stop (by simp only; omega))
      have HD2 := Lib.hid (show dueE [⟨m, id⟩] m = [⟨m, id⟩] ∧ restE [⟨m, id⟩] m = [] from due_cons (x := ⟨m, id⟩) (r := []) (now := m) (by simp only; omega))
      clear hl hI
      cases drop with
      | true =>
        go_wp2_with fail
        refine (HG.out.drop id wid).mono ?_
        rintro e w3 ⟨rfl, G3⟩
        rw [HDR.out] at G3 ⊢
        have HG3 := Lib.hid G3
        clear G3
        go_wp2_with fail
        refine (HG3.out.due 1073741824 (by omega)).mono ?_
        rintro e w4 ⟨vo, L', rfl, G4, _, _, a, cap, hvo⟩
        have HG4 := Lib.hid (show TK W w4 p k [] L' from G4)
        rw [show (dueE [] 1073741824 : List En).length = 0 from rfl] at hvo
        subst hvo
        clear G4
        go_wp2_with fail
        refine HG4.out.len.mono ?_
        rintro e w5 ⟨rfl, G5⟩
        have HB5 := Lib.hid G5.below
        clear G5
        go_wp2
        go_ret
        exact ⟨rfl, HB5.out⟩
      | false =>
        go_wp2_with fail
        refine (HG.out.at id wid).mono ?_
        rintro e w3 ⟨rfl, G3⟩
        rw [HAT.out]
        simp only
        have HG3 := Lib.hid G3
        have hmm : (m != m) = false := bne_self_false m
        clear G3
        go_wp2_with fail
        refine (HG3.out.due (m - 1) (by omega)).mono ?_
        rintro e w4 ⟨vo, L', rfl, G4, _, _, a, cap, hvo⟩
        rw [HD1.out.1] at hvo
        rw [HD1.out.2] at G4
        have HG4 := Lib.hid G4
        rw [show ([] : List En).length = 0 from rfl] at hvo
        subst hvo
        clear G4
        go_wp2_with fail
        refine (HG4.out.due m (by omega)).mono ?_
        rintro e w5 ⟨vo, L2, rfl, G5, _, hr, a2, cap2, hvo⟩
        rw [HD2.out.1] at hr hvo
        rw [HD2.out.2] at G5
        have HG5 := Lib.hid G5
        have HR := Lib.hid hr
        clear G5 hr
        subst hvo
        go_wp2_with fail
        have hb := (Below.refl w5.heap.size w5).alloc (Nat.le_refl _) (.cells #[.int .i64 id] 3)
        have hrow : IntRow (w5.alloc (.cells #[.int .i64 id] 3)) (.slice (some ⟨w5.heap.size, 0, none⟩) 1 1) [id] := IntRow.of (xs := [id]) (World.alloc_heap_new _ _) (fun i x hx => by
          rcases i with _ | i
          · simp at hx; subst hx; rfl
          · simp at hx) 1
        have HB := Lib.hid hb
        refine (ints_any _ _ _ _ _ (HR.out.later hb) hrow (by simp [idsL])).mono ?_
        clear hb hrow
        rintro e w7 ⟨rfl, hb7⟩
        rw [show decide (idsL [⟨m, id⟩] = [id]) = true by simp [idsL]]
        have H7 := Lib.hid ((HG5.out.later HB.out).later hb7)
        clear hb7
        go_wp2_with fail
        refine (H7.out.due 1073741824 (by omega)).mono ?_
        rintro e w8 ⟨vo, L', rfl, G8, _, _, a, cap, hvo⟩
        have HB8 := Lib.hid G8.below
        rw [show (dueE [] 1073741824 : List En).length = 0 from rfl] at hvo
        subst hvo
        clear G8
        go_wp2
        go_ret
        exact ⟨rfl, HB8.out⟩
end Go.Proofs.Ytnfdobmjfchegaa
