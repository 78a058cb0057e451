/-
  The law TimerSplits.
-/
import Derived.Test.YtnfdobmjfchegaaTimerTwo
import Derived.Test.YtnfdobmjfchegaaFlatAct07
set_option linter.unusedVariables false
set_option linter.unusedSimpArgs false
namespace Go.Proofs.Ytnfdobmjfchegaa
open Go.RowKit Go.Maps

theorem due_split (s : List En) {a b : Int} (h : a ≤ b) : dueE s b = dueE s a ++ dueE (restE s a) b ∧ restE s b = restE (restE s a) b := by
  induction s with
  | nil => exact ⟨rfl, rfl⟩
  | cons x r ih =>
    by_cases h1 : x.tick ≤ a
    · have e1 := due_cons (r := r) h1
      have e2 := due_cons (r := r) (show x.tick ≤ b by omega)
      rw [e1.1, e1.2, e2.1, e2.2]
      exact ⟨by rw [ih.1]; rfl, ih.2⟩
    · have e1 := due_stop (r := r) (show a < x.tick by omega)
      rw [e1.1, e1.2]
      exact ⟨rfl, rfl⟩
theorem rest_head (s : List En) (b : Int) : ∀ x r, restE s b = x :: r → b < x.tick := by
  induction s with
  | nil => intro x r h; cases h
  | cons y q ih =>
    intro x r h
    by_cases h1 : y.tick ≤ b
    · rw [(due_cons (r := q) h1).2] at h; exact ih x r h
    · rw [(due_stop (r := q) (show b < y.tick by omega)).2] at h
      cases h; omega
theorem outE_len (s : List En) (id : Int) : (outE s id).length ≤ s.length := List.length_filter_le _ _
theorem insE_len (x : En) (s : List En) : (insE x s).length = s.length + 1 := by rw [(insE_perm x s).length_eq]; rfl
theorem dropE_len (s : List En) (id : Int) : (dropE s id).2.length ≤ s.length := by
  unfold dropE
  split
  · exact Nat.le_refl _
  · exact outE_len s id
theorem setE_len (s : List En) (id t : Int) : (setE s id t).2.length ≤ s.length + 1 := by
  have := outE_len s id
  unfold setE
  split
  · simp
  · split
    · split
      · simp
      · simp only [insE_len]; omega
    · split
      · simp
      · simp only [insE_len]; omega
theorem dueE_len (s : List En) (b : Int) : (dueE s b).length ≤ s.length ∧ (restE s b).length ≤ s.length := by
  have h : (dueE s b).length + (restE s b).length = s.length := by
    unfold dueE restE
    rw [← List.length_append, List.takeWhile_append_dropWhile]
  omega
theorem ints_one (zs : List Int) : ∀ u ∈ zs.map (Value.int .i64), u.oneCell' = true := by
  intro u hu
  obtain ⟨x, _, rfl⟩ := List.mem_map.1 hu
  rfl
theorem acts_ok {xs : List Act07} (h : ∀ x ∈ xs, x.wf) {k : Nat} (hk : k < xs.length) {x : Act07} (hx : xs[k] = x) : okInt x.id := by
  have h1 := h x (hx ▸ List.getElem_mem hk)
  unfold Act07.wf at h1
  exact h1.2.1

set_option maxRecDepth 100000 in
set_option maxHeartbeats 4000000 in
theorem timerSplits_walk (v : Value) (xs : List Act07) (W : World) (s : Rd.SliceOf W v 3 Act07.cells xs) (hwf : ∀ x ∈ xs, x.wf) (a : Int) (_ : (Lit.int .i64 a).wf = true) (b : Int) (_ : (Lit.int .i64 b).wf = true) :
    Calls Try.prog 4 #[v, .int .i64 a, .int .i64 b] W fun e w' => e = .returned (.bool true) ∧ Below W.heap.size W w' := by
  obtain ⟨a0, cap0, hv0⟩ := s.form
  obtain ⟨n, hn⟩ : ∃ n, xs.length = n := ⟨_, rfl⟩
  have HS := Lib.hid s; have HN := Lib.hid hn; have HW := Lib.hid hwf
  rw [hn] at hv0
  subst hv0
  clear s hn hwf
  by_cases h0 : (200 : Int) < n
  · go_enter Try.func4, Try.ntmps4
    go_wp2_with fail
    refine (awake_any _).mono ?_
    rintro e w1 ⟨rfl, hb1⟩
    go_wp2
    go_ret
    exact ⟨rfl, hb1⟩
  have hn200 : n ≤ 200 := by omega
  by_cases hab : b < a
  · go_enter Try.func4, Try.ntmps4
    go_wp2_with fail
    refine (awake_any _).mono ?_
    rintro e w1 ⟨rfl, hb1⟩
    go_wp2
    go_ret
    exact ⟨rfl, hb1⟩
  have hab2 : a ≤ b := by omega
  go_enter Try.func4, Try.ntmps4
  go_wp2_with fail
  refine (awake_any _).mono ?_
  rintro e w1 ⟨rfl, hb1⟩
  have K1 := Lib.hid ((Kept.start W).later hb1)
  clear hb1
  go_wp2_with fail
  refine (TK.start K1.out).mono ?_
  rintro e w2 ⟨p, rfl, G2⟩
  have HG2 := Lib.hid G2
  clear G2 K1
  go_wp2_with fail
  refine (TK2.start HG2.out).mono ?_
  rintro e w3 ⟨p2, rfl, G3⟩
  have HG3 := Lib.hid G3
  clear G3 HG2
  go_wp2_with fail
  go_loopw [9] (fun i wr => ∃ (k : Nat) (s : List En), k ≤ n ∧ i = .int .i64 k ∧ Hid (TK2 W wr p k s p2 k s [] ∧ s.length ≤ k)) (fun i _ => n - (intOf i).toNat)
  case atStart => exact ⟨0, [], Nat.zero_le _, rfl, Lib.hid ⟨HG3.out, Nat.le_refl _⟩⟩
  case round =>
    obtain ⟨k, s, hk, rfl, HGs⟩ := hrel
    have HG := Lib.hid HGs.out.1
    have HSL := Lib.hid HGs.out.2
    clear HGs
    have HBW := Lib.hid HG.out.below
    by_cases hlt : k < n
    · have hlq : k < xs.length := by rw [HN.out]; exact hlt
      obtain ⟨x, hx⟩ : ∃ x, xs[k] = x := ⟨_, rfl⟩
      have HID := Lib.hid (acts_ok HW.out hlq hx)
      obtain ⟨bb, off, cap3, hv, _, _, hb, hcell⟩ := Act07.at HS.out hlq hx
      simp only [Value.slice.injEq] at hv
      obtain ⟨rfl, -, rfl⟩ := hv
      have HCELL := Lib.hid hcell
      obtain ⟨c0, c1, c2⟩ := HCELL.out wr HBW.out
      have lb := Nat.lt_of_lt_of_le hb HBW.out.size
      clear hcell hx
      by_cases hk1 : x.kind = 1
      · have hkb : (x.kind == 1) = true := by simpa using hk1
        clear hk1
        go_wp2_with fail
        refine (HG.out.drop x.id HID.out).mono ?_
        rintro e w4 ⟨rfl, G4⟩
        have HG4 := Lib.hid G4
        clear G4 c0 c1 c2 lb
        obtain ⟨c0, c1, c2⟩ := HCELL.out w4 HG4.out.below
        have lb := Nat.lt_of_lt_of_le hb HG4.out.below.size
        go_wp2_with fail
        refine (HG4.out.swap.drop x.id HID.out).mono ?_
        rintro e w5 ⟨rfl, G5⟩
        have HG5 := Lib.hid G5.swap
        clear G5 c0 c1 c2 lb
        go_wp2_with fail
        exact ⟨⟨k + 1, (dropE s x.id).2, by omega, by go_num, Lib.hid ⟨HG5.out.moreBoth, Nat.le_succ_of_le (Nat.le_trans (dropE_len s x.id) HSL.out)⟩⟩, by simp [intOf]; omega⟩
      · have hkb : (x.kind == 1) = false := by simpa using hk1
        clear hk1
        go_wp2_with fail
        clear c0 c1 c2 lb
        have f1 : ∀ y : Later W, y.wd.cell? ⟨bb, off + k * 3 + 1, none⟩ = some (.int .i64 x.id) := fun y => (HCELL.out y.wd y.bel).2.1
        have f2 : ∀ y : Later W, y.wd.cell? ⟨bb, off + k * 3 + 2, none⟩ = some (.int .i64 x.tick) := fun y => (HCELL.out y.wd y.bel).2.2
        refine Rg.wp_region_pick (by kernel_rfl) [0, 1, 2, 3, 4, 5, 6, 7, 8, 9, 10] [11] 12 (by kernel_rfl) (by kernel_rfl) (by kernel_rfl) (fun w' => ∃ y : Later W, w' = y.wd) (fun c a a' w hd h => ⟨hd.symm.trans h.1, h.2⟩) ⟨⟨_, HG.out.below.drew⟩, rfl⟩ ?_
        simp only [Rg.picks, List.getElem?_cons_succ, List.getElem?_cons_zero, Option.toList, List.cons_append, List.nil_append]
        repeat (quiet_step (fail))
        refine wpQuiet_nil ?_
        clear f1 f2
        simp only [Rg.pickn, List.getElem?_cons_succ, List.getElem?_cons_zero, Option.toList, List.map_cons, List.map_nil, List.cons_append, List.nil_append]
        refine Rg.wpN_step (fun K hK => ?_) ⟨⟨_, HG.out.below.drew⟩, rfl⟩
        go_simp
        refine ((TK2.later HG.out ((Below.refl _ _).drew)).set x.id x.tick HID.out (by omega)).mono ?_
        rintro e w4 ⟨rfl, G4⟩
        have HG4 := Lib.hid G4
        clear G4
        refine hK _ _ (fun _ => ⟨⟨_, HG4.out.below⟩, rfl⟩) ?_
        clear hK K
        refine Rg.wpN_list (by simp) ?_
        simp only [List.map_cons, List.map_nil]
        go_wp2_with fail
        have f1 : ∀ y : Later W, y.wd.cell? ⟨bb, off + k * 3 + 1, none⟩ = some (.int .i64 x.id) := fun y => (HCELL.out y.wd y.bel).2.1
        have f2 : ∀ y : Later W, y.wd.cell? ⟨bb, off + k * 3 + 2, none⟩ = some (.int .i64 x.tick) := fun y => (HCELL.out y.wd y.bel).2.2
        refine Rg.wp_region_pick (by kernel_rfl) [0, 1, 2, 3, 4, 5, 6, 7, 8, 9, 10] [11] 12 (by kernel_rfl) (by kernel_rfl) (by kernel_rfl) (fun w' => ∃ y : Later W, w' = y.wd) (fun c a a' w hd h => ⟨hd.symm.trans h.1, h.2⟩) ⟨⟨_, HG4.out.below.drew⟩, rfl⟩ ?_
        simp only [Rg.picks, List.getElem?_cons_succ, List.getElem?_cons_zero, Option.toList, List.cons_append, List.nil_append]
        repeat (quiet_step (fail))
        refine wpQuiet_nil ?_
        clear f1 f2
        simp only [Rg.pickn, List.getElem?_cons_succ, List.getElem?_cons_zero, Option.toList, List.map_cons, List.map_nil, List.cons_append, List.nil_append]
        refine Rg.wpN_step (fun K hK => ?_) ⟨⟨_, HG4.out.below.drew⟩, rfl⟩
        go_simp
        refine ((TK2.later HG4.out ((Below.refl _ _).drew)).swap.set x.id x.tick HID.out (by omega)).mono ?_
        rintro e w5 ⟨rfl, G5⟩
        have HG5 := Lib.hid G5.swap
        clear G5
        refine hK _ _ (fun _ => ⟨⟨_, HG5.out.below⟩, rfl⟩) ?_
        clear hK K
        refine Rg.wpN_list (by simp) ?_
        simp only [List.map_cons, List.map_nil]
        go_wp2_with fail
        exact ⟨⟨k + 1, (setE s x.id x.tick).2, by omega, by go_num, Lib.hid ⟨HG5.out, Nat.le_trans (setE_len s x.id x.tick) (Nat.succ_le_succ HSL.out)⟩⟩, by simp [intOf]; omega⟩
    · obtain rfl : k = n := by omega
      clear hlt hk
      go_wp2_with fail
      refine (HG.out.due a (by omega)).mono ?_
      rintro e w4 ⟨va, L1, rfl, G4, _, hr4⟩
      have HG4 := Lib.hid G4; have HR4 := Lib.hid hr4
      clear G4 hr4
      go_wp2_with fail
      refine (HG4.out.due b (by omega)).mono ?_
      rintro e w5 ⟨vb, L2, rfl, G5, hL2, hr5⟩
      have HG5 := Lib.hid G5; have HR5 := Lib.hid hr5; have HR4' := Lib.hid (HR4.out.mono hL2)
      clear G5 hr5 hL2
      obtain ⟨a1, ca, hva⟩ := HR4'.out.form
      obtain ⟨A2, cb, hvb, hsrc⟩ := HR5.out.src HG5.out.kept
      subst hva hvb
      have hn1 : (idsL (dueE s a)).length ≤ 200 := by
        have := (dueE_len s a).1; have := HSL.out; simp [idsL]; omega
      have hn2 : (idsL (dueE (restE s a) b)).length ≤ 200 := by
        have := (dueE_len s a).2; have := (dueE_len (restE s a) b).1; have := HSL.out; simp [idsL]; omega
      have HSRC := Lib.hid hsrc
      have HOWN := Lib.hid (HR4'.out.own HG5.out.kept)
      obtain ⟨i0, hi0, hz0, hz1, hz2⟩ := info_parts infoInt
      have hWs := HG5.out.below.size
      clear hsrc
      obtain ⟨n1, hN1⟩ : ∃ n1, (idsL (dueE s a)).length = n1 := ⟨_, rfl⟩
      obtain ⟨n2, hN2⟩ : ∃ n2, (idsL (dueE (restE s a) b)).length = n2 := ⟨_, rfl⟩
      rw [hN1] at HOWN hn1 ⊢
      rw [hN2] at HSRC hn2 ⊢
      have HN1 := Lib.hid hN1; have HN2 := Lib.hid hN2
      clear hN1 hN2
      go_wp2_with (at_builtin; refine wpList_append_src _ (by rfl) _ _ _ (by rfl) W.heap.size 3 i0 _ 1 8 Try.underlying29 hi0 hz0 hz1 hz2 rfl (by omega) (.slice a1 n1 ca) n1 _ (by rfl) HOWN.out A2 n2 cb _ (by rfl) HSRC.out (ints_one _) (by unfold maxLen; omega) (by omega) hWs ?_)
      intro vx w6 hown hgrow hat
      have hown' : w6.ownsRow W.heap.size 3 1 vx (idsL (dueE s b)).length ((idsL (dueE s b)).map (Value.int .i64)) := by
        have e1 : idsL (dueE s b) = idsL (dueE s a) ++ idsL (dueE (restE s a) b) := by rw [(due_split s hab2).1]; simp [idsL]
        rw [e1, List.length_append, List.map_append, HN1.out, HN2.out]
        exact hown
      have happ := TK2.appended HG5.out HR4'.out (by rw [HN1.out]; exact hgrow) hown' (by rw [HN1.out]; exact hat)
      rw [← (due_split s hab2).2] at happ
      obtain ⟨L6, G6, hr6⟩ := happ
      have HG6 := Lib.hid G6.swap; have HR6 := Lib.hid hr6
      clear hown hgrow hat hown' G6 hr6 hWs hn1 hn2 hi0 hz0 hz1 hz2
      go_wp2_with fail
      refine (HG6.out.due b (by omega)).mono ?_
      rintro e w7 ⟨vy, L7, rfl, G7, hL7, hr7⟩
      have HG7 := Lib.hid G7; have HR7 := Lib.hid hr7; have HR6' := Lib.hid (HR6.out.mono hL7)
      clear G7 hr7 hL7
      go_wp2_with fail
      refine (HG7.out.next (by omega)).mono ?_
      rintro e w8 ⟨rfl, G8⟩
      have HG8 := Lib.hid G8
      clear G8
      have hl6 : (idsL (dueE s b)).length ≤ 1000000 := by
        have := (dueE_len s b).1; have := HSL.out; simp [idsL]; omega
      have HI := Lib.hid (ints_any vx vy (idsL (dueE s b)) (idsL (dueE s b)) w8 (HR6'.out.int HG8.out.kept) (HR7.out.int HG8.out.kept) hl6)
      clear hl6
      have hend : restE s b = [] ∨ ∃ x r, restE s b = x :: r ∧ b < x.tick := by
        cases hr : restE s b with
        | nil => exact .inl rfl
        | cons x r => exact .inr ⟨x, r, rfl, rest_head s b x r hr⟩
      obtain ⟨rs, hrs⟩ : ∃ rs, restE s b = rs := ⟨_, rfl⟩
      rw [hrs] at HG8 hend ⊢
      clear hrs
      rcases hend with rfl | ⟨x, r, rfl, hbx⟩
      · rw [show headE [] = ⟨0, 0⟩ from rfl, show (!([] : List En).isEmpty) = false from rfl]
        go_wp2_with fail
        refine HI.out.mono ?_
        rintro e w9 ⟨rfl, hb9⟩
        simp only [decide_true]
        have H9 := Lib.hid (HG8.out.later hb9)
        clear hb9
        go_wp2_with fail
        refine H9.out.swap.len.mono ?_
        rintro e w10 ⟨rfl, G10⟩
        have H10 := Lib.hid G10
        clear G10
        go_wp2_with fail
        refine H10.out.swap.len.mono ?_
        rintro e w11 ⟨rfl, G11⟩
        have HB := Lib.hid G11.below
        clear G11
        go_wp2
        go_ret
        exact ⟨rfl, HB.out⟩
      · rw [show headE (x :: r) = x from rfl, show (!(x :: r).isEmpty) = true from rfl]
        have hbx2 : decide (b < x.tick) = true := by simpa using hbx
        clear hbx
        go_wp2_with fail
        refine HI.out.mono ?_
        rintro e w9 ⟨rfl, hb9⟩
        simp only [decide_true]
        have H9 := Lib.hid (HG8.out.later hb9)
        clear hb9
        go_wp2_with fail
        refine H9.out.swap.len.mono ?_
        rintro e w10 ⟨rfl, G10⟩
        have H10 := Lib.hid G10
        clear G10
        go_wp2_with fail
        refine H10.out.swap.len.mono ?_
        rintro e w11 ⟨rfl, G11⟩
        have HB := Lib.hid G11.below
        clear G11
        go_wp2
        go_ret
        exact ⟨rfl, HB.out⟩
end Go.Proofs.Ytnfdobmjfchegaa
