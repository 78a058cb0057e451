/-
  The law TimerFills.
-/
import Derived.Test.YtnfdobmjfchegaaTimerTwo
set_option linter.unusedVariables false
set_option linter.unusedSimpArgs false
namespace Go.Proofs.Ytnfdobmjfchegaa
open Go.RowKit Go.Maps

/-- the entry that is set in round i -/
def ent (f st : Int) (i : Nat) : En := ⟨((i : Int) * st) % 4096, f + i⟩
structure Filled (f st : Int) (k : Nat) (s : List En) : Prop where
  row : Row s
  perm : s.Perm ((List.range k).map (ent f st))
theorem Filled.nil (f st : Int) : Filled f st 0 [] := ⟨Row.nil, by simp⟩
theorem Filled.len {f st : Int} {k : Nat} {s : List En} (h : Filled f st k s) : s.length = k := by rw [h.perm.length_eq]; simp
theorem Filled.mem {f st : Int} {k : Nat} {s : List En} (h : Filled f st k s) (e : En) : e ∈ s ↔ ∃ i, i < k ∧ e = ent f st i := by
  rw [h.perm.mem_iff, List.mem_map]
  constructor
  · rintro ⟨i, hi, rfl⟩; exact ⟨i, List.mem_range.1 hi, rfl⟩
  · rintro ⟨i, hi, rfl⟩; exact ⟨i, List.mem_range.2 hi, rfl⟩
theorem out_same {s : List En} {id : Int} (h : lookE s id = none) : outE s id = s := by
  unfold outE
  rw [List.filter_eq_self]
  intro e he
  simpa using lookE_none.1 h e he
theorem Filled.no {f st : Int} {k : Nat} {s : List En} (h : Filled f st k s) {id : Int} (hid : id < f ∨ f + k ≤ id) : lookE s id = none := by
  refine lookE_none.2 fun e he => ?_
  obtain ⟨i, hi, rfl⟩ := (h.mem e).1 he
  simp only [ent]
  omega
theorem Filled.step {f st : Int} {k : Nat} {s : List En} (h : Filled f st k s) (hk : k < 4096) (hst : 0 ≤ st) : setE s (f + k) (((k : Int) * st) % 4096) = (0, insE (ent f st k) s) ∧ Filled f st (k + 1) (insE (ent f st k) s) := by
  have hno := h.no (id := f + k) (by omega)
  have hm : 0 ≤ ((k : Int) * st) % 4096 ∧ ((k : Int) * st) % 4096 < 4096 := ⟨Int.emod_nonneg _ (by omega), Int.emod_lt_of_pos _ (by omega)⟩
  constructor
  · unfold setE
    rw [if_neg (by omega), hno]
    simp only
    rw [if_neg (by rw [h.len]; omega), out_same hno]
    rfl
  · refine ⟨h.row.ins ?_, ?_⟩
    · intro hx
      obtain ⟨e, he, hee⟩ := List.mem_map.1 hx
      exact lookE_none.1 hno e he hee
    · rw [List.range_succ, List.map_append]
      refine (insE_perm _ _).trans ?_
      refine (h.perm.cons _).trans ?_
      exact (List.perm_append_singleton _ _).symm
theorem Filled.full {f st : Int} {s : List En} (h : Filled f st 4096 s) : setE s (f - 1) 0 = (2, s) := by
  have hno := h.no (id := f - 1) (by omega)
  unfold setE
  rw [if_neg (by omega), hno]
  simp only
  rw [if_pos (by rw [h.len]; omega)]
/-- behind the last Set: one of 5000, and all others -/
structure Last (f st : Int) (s : List En) : Prop where
  row : Row s
  perm : s.Perm (⟨5000, f⟩ :: (List.range' 1 4095).map (ent f st))
theorem Filled.last {f st : Int} {s : List En} (h : Filled f st 4096 s) : (setE s f 5000).1 = 0 ∧ Last f st (setE s f 5000).2 := by
  have h0 : ent f st 0 ∈ s := (h.mem _).2 ⟨0, by omega, rfl⟩
  have hl : lookE s f = some (ent f st 0) := by
    have := lookE_mem h.row h0
    rwa [show (ent f st 0).id = f by simp [ent]] at this
  have ht : (ent f st 0).tick = 0 := by simp [ent]
  have hs : setE s f 5000 = (0, insE ⟨5000, f⟩ (outE s f)) := by
    unfold setE
    rw [if_neg (by omega), hl]
    simp only
    rw [if_neg (by rw [ht]; omega)]
  rw [hs]
  refine ⟨rfl, (h.row.out f).ins (out_no s f), (insE_perm _ _).trans (List.Perm.cons _ ?_)⟩
  unfold outE
  refine (h.perm.filter _).trans ?_
  have e : List.range 4096 = 0 :: List.range' 1 4095 := by
    rw [List.range_eq_range']; rfl
  rw [e, List.map_cons, List.filter_cons_of_neg (by simp [ent])]
  refine List.Perm.of_eq ?_
  rw [List.filter_eq_self]
  intro x hx
  obtain ⟨i, hi, rfl⟩ := List.mem_map.1 hx
  rw [List.mem_range'_1] at hi
  have hne : (ent f st i).id ≠ f := by show f + (i : Int) ≠ f; omega
  simp [hne]
theorem Last.len {f st : Int} {s : List En} (h : Last f st s) : s.length = 4096 := by rw [h.perm.length_eq]; simp
theorem tick_le {a b : En} (h : ltE a b = true) : a.tick ≤ b.tick := by
  unfold ltE at h
  split at h
  · omega
  · simp at h; omega
/-- what is due of a row that rises: all that is low -/
theorem due_filter : ∀ {s : List En} (h : s.Pairwise fun a b => ltE a b = true) (now : Int), dueE s now = s.filter (fun e => decide (e.tick ≤ now))
  | [], _, _ => rfl
  | x :: r, h, now => by
    obtain ⟨h1, h2⟩ := List.pairwise_cons.1 h
    by_cases hx : x.tick ≤ now
    · rw [(due_cons (r := r) hx).1, List.filter_cons_of_pos (by simpa using hx), due_filter h2 now]
    · rw [(due_stop (r := r) (show now < x.tick by omega)).1, List.filter_cons_of_neg (by simpa using hx)]
      symm
      rw [List.filter_eq_nil_iff]
      intro e he
      have := tick_le (h1 e he)
      simp; omega
theorem ent_tick (f st : Int) (i : Nat) : 0 ≤ (ent f st i).tick ∧ (ent f st i).tick < 4096 := ⟨Int.emod_nonneg _ (by omega), Int.emod_lt_of_pos _ (by omega)⟩
theorem Last.due {f st : Int} {s : List En} (h : Last f st s) : (dueE s 4096).length = 4095 ∧ (restE s 4096).length = 1 ∧ ∀ e ∈ dueE s 4096, ∃ i : Nat, 1 ≤ i ∧ i ≤ 4095 ∧ e = ent f st i := by
  have hd := due_filter h.row.sorted 4096
  have hp : (dueE s 4096).Perm ((List.range' 1 4095).map (ent f st)) := by
    rw [hd]
    refine (h.perm.filter _).trans ?_
    rw [List.filter_cons_of_neg (by simp)]
    refine List.Perm.of_eq ?_
    rw [List.filter_eq_self]
    intro x hx
    obtain ⟨i, hi, rfl⟩ := List.mem_map.1 hx
    have := ent_tick f st i
    simp; omega
  have h1 : (dueE s 4096).length = 4095 := by rw [hp.length_eq]; simp
  have h2 : (dueE s 4096).length + (restE s 4096).length = s.length := by
    unfold dueE restE
    rw [← List.length_append, List.takeWhile_append_dropWhile]
  refine ⟨h1, by have := h.len; omega, fun e he => ?_⟩
  obtain ⟨i, hi, rfl⟩ := List.mem_map.1 (hp.mem_iff.1 he)
  rw [List.mem_range'_1] at hi
  exact ⟨i, by omega, by omega, rfl⟩
theorem due_rises {s : List En} (h : Row s) (now : Int) {i : Nat} {x y : En} (hx : (dueE s now)[i]? = some x) (hy : (dueE s now)[i + 1]? = some y) : x.tick ≤ y.tick := by
  have hp : (dueE s now).Pairwise fun a b => ltE a b = true := h.sorted.sublist (List.takeWhile_sublist _)
  obtain ⟨l1, e1⟩ := List.getElem?_eq_some_iff.1 hx
  obtain ⟨l2, e2⟩ := List.getElem?_eq_some_iff.1 hy
  have := List.pairwise_iff_getElem.1 hp i (i + 1) l1 l2 (by omega)
  rw [e1, e2] at this
  exact tick_le this

set_option maxRecDepth 100000 in
set_option maxHeartbeats 4000000 in
theorem timerFills_walk (f : Int) (wf : (Lit.int .i16 f).wf = true) (b : Int) (wb : (Lit.int .u8 b).wf = true) (W : World) :
    Calls Try.prog 3 #[.int .i16 f, .int .u8 b] W fun e w' => e = .returned (.bool true) ∧ Below W.heap.size W w' := by
  have hf : -32768 ≤ f ∧ f ≤ 32767 := by simp [Lit.wf, IntKind.min, IntKind.max, IntKind.bits, IntKind.signed] at wf; omega
  have hb : 0 ≤ b ∧ b ≤ 255 := by simp [Lit.wf, IntKind.min, IntKind.max, IntKind.bits, IntKind.signed] at wb; omega
  obtain ⟨hf1, hf2⟩ := hf
  obtain ⟨hb1, hb2⟩ := hb
  go_enter Try.func3, Try.ntmps3
  go_wp2_with fail
  refine (awake_any _).mono ?_
  rintro e w1 ⟨rfl, hb1⟩
  have K1 := Lib.hid ((Kept.start W).later hb1)
  clear hb1
  go_wp2_with fail
  refine (TK.start K1.out).mono ?_
  rintro e w2 ⟨p, rfl, G2⟩
  have HG2 := Lib.hid G2
  clear G2 K1
  have hst : 1 ≤ 2 * (b % 50) + 1 ∧ 2 * (b % 50) + 1 ≤ 99 := by omega
  go_wp2_with fail
  obtain ⟨st, hste⟩ : ∃ st, 2 * (b % 50) + 1 = st := ⟨_, rfl⟩
  rw [hste] at hst ⊢
  obtain ⟨hst1, hst2⟩ := hst
  clear hste
  go_loopw [7] (fun i wr => ∃ (k : Nat) (s : List En), k ≤ 4096 ∧ i = .int .i64 k ∧ Hid (TK W wr p k s [] ∧ Filled f st k s)) (fun i _ => 4096 - (intOf i).toNat)
  case atStart => exact ⟨0, [], Nat.zero_le _, rfl, Lib.hid ⟨HG2.out, Filled.nil f st⟩⟩
  case round =>
    obtain ⟨k, s, hk, rfl, HG⟩ := hrel
    by_cases hlt : k < 4096
    · obtain ⟨hs, hF⟩ := HG.out.2.step (k := k) hlt (by omega)
      have HS := Lib.hid hs; have HF := Lib.hid hF
      have hid : okInt (f + k) := by
        unfold okInt
        simp [Lit.wf, IntKind.min, IntKind.max, IntKind.bits, IntKind.signed]
        omega
      have hk5 : (k : Int) ≤ 4095 := by omega
      have hm1 : 0 ≤ (k : Int) * st := Int.mul_nonneg (by omega) (by omega)
      have hm2 : (k : Int) * st ≤ 4095 * 99 := Int.mul_le_mul hk5 hst2 (by omega) (by omega)
      have HID := Lib.hid hid
      clear hs hF hid
      go_wp2_with fail
      refine (HG.out.1.set (f + k) ((k : Int) * st % 4096) HID.out (by omega)).mono ?_
      rintro e w3 ⟨rfl, G3⟩
      rw [HS.out] at G3 ⊢
      have HG3 := Lib.hid G3
      clear G3
      go_wp2_with fail
      exact ⟨⟨k + 1, _, by omega, by go_num, Lib.hid ⟨HG3.out, HF.out⟩⟩, by simp [intOf]; omega⟩
    · obtain rfl : k = 4096 := by omega
      have HFu := Lib.hid HG.out.2.full
      obtain ⟨hl1, hl2⟩ := HG.out.2.last
      have HL1 := Lib.hid hl1; have HL2 := Lib.hid hl2
      have HID1 := Lib.hid (show okInt (f - 1) by
        unfold okInt
        simp [Lit.wf, IntKind.min, IntKind.max, IntKind.bits, IntKind.signed]
        omega)
      have HID2 := Lib.hid (show okInt f by
        unfold okInt
        simp [Lit.wf, IntKind.min, IntKind.max, IntKind.bits, IntKind.signed]
        omega)
      clear hl1 hl2 hlt hk
      go_wp2_with fail
      refine (HG.out.1.set (f - 1) 0 HID1.out (by omega)).mono ?_
      rintro e w3 ⟨rfl, G3⟩
      rw [HFu.out] at G3 ⊢
      have HG3 := Lib.hid G3
      clear G3
      go_wp2_with fail
      refine (HG3.out.set f 5000 HID2.out (by omega)).mono ?_
      rintro e w4 ⟨rfl, G4⟩
      rw [HL1.out]
      obtain ⟨s', hs'⟩ : ∃ s', (setE s f 5000).2 = s' := ⟨_, rfl⟩
      rw [hs'] at G4 HL2
      have HG4 := Lib.hid G4
      clear G4 hs'
      go_wp2_with fail
      refine HG4.out.len.mono ?_
      rintro e w5 ⟨rfl, G5⟩
      rw [HL2.out.len]
      have HG5 := Lib.hid G5
      clear G5
      go_wp2_with fail
      refine (HG5.out.due 4096 (by omega)).mono ?_
      rintro e w6 ⟨vo, L', rfl, G6, _, hr, a, cap, hvo⟩
      rw [HL2.out.due.1] at hvo
      have HG6 := Lib.hid G6; have HR := Lib.hid hr
      subst hvo
      clear G6 hr
      go_wp2_with fail
      go_loopw [9] (fun i wr => ∃ k : Nat, 1 ≤ k ∧ k ≤ 4095 ∧ i = .int .i64 k ∧ Hid (Below w6.heap.size w6 wr)) (fun i _ => 4095 - (intOf i).toNat)
      case atStart => exact ⟨1, by omega, by omega, rfl, Lib.hid (Below.refl _ _)⟩
      case round =>
        obtain ⟨k, hk1, hk, rfl, HB⟩ := hrel
        by_cases hlt : k < 4095
        · obtain ⟨j, rfl⟩ : ∃ j, k = j + 1 := ⟨k - 1, by omega⟩
          have hdl := HL2.out.due.1
          obtain ⟨x, hx⟩ : ∃ x, (dueE s' 4096)[j]? = some x := ⟨_, List.getElem?_eq_getElem (by omega)⟩
          obtain ⟨y, hy⟩ : ∃ y, (dueE s' 4096)[j + 1]? = some y := ⟨_, List.getElem?_eq_getElem (by omega)⟩
          have hxy := due_rises HL2.out.row 4096 hx hy
          obtain ⟨ix, hx1, hx2, hxe⟩ := HL2.out.due.2.2 x (List.mem_of_getElem? hx)
          obtain ⟨iy, hy1, hy2, hye⟩ := HL2.out.due.2.2 y (List.mem_of_getElem? hy)
          obtain ⟨a', cap', hv', hcell⟩ := HR.out
          have hxi : (idsL (dueE s' 4096))[j]? = some (f + ix) := by unfold idsL; rw [List.getElem?_map, hx, hxe]; rfl
          have hyi : (idsL (dueE s' 4096))[j + 1]? = some (f + iy) := by unfold idsL; rw [List.getElem?_map, hy, hye]; rfl
          obtain ⟨bb, o, ha, hcx, hlb⟩ := hcell j _ hxi
          obtain ⟨bb2, o2, ha2, hcy, _⟩ := hcell (j + 1) _ hyi
          rw [ha] at ha2
          simp only [Option.some.injEq, Addr.mk.injEq, and_true] at ha2
          obtain ⟨rfl, rfl⟩ := ha2
          simp only [Value.slice.injEq] at hv'
          obtain ⟨rfl, -, rfl⟩ := hv'
          subst ha
          have ex := (HB.out.cell (p := ⟨bb, o + j, none⟩) hlb).trans hcx
          have ey := (HB.out.cell (p := ⟨bb, o + (j + 1), none⟩) hlb).trans hcy
          have lb := Nat.lt_of_lt_of_le hlb HB.out.size
          have hxm : 0 ≤ (ix : Int) * st := Int.mul_nonneg (by omega) (by omega)
          have hxM : (ix : Int) * st ≤ 4095 * 99 := Int.mul_le_mul (by omega) hst2 (by omega) (by omega)
          have hym : 0 ≤ (iy : Int) * st := Int.mul_nonneg (by omega) (by omega)
          have hyM : (iy : Int) * st ≤ 4095 * 99 := Int.mul_le_mul (by omega) hst2 (by omega) (by omega)
          have hcmp : decide ((wrap64 ((f + iy - f) * st)).tmod 4096 < (wrap64 ((f + ix - f) * st)).tmod 4096) = false := by
            rw [hxe, hye] at hxy
            simp only [ent] at hxy
            rw [show f + (iy : Int) - f = iy by omega, show f + (ix : Int) - f = ix by omega]
            have w1 : wrap64 ((iy : Int) * st) = (iy : Int) * st := by unfold wrap64; omega
            have w2 : wrap64 ((ix : Int) * st) = (ix : Int) * st := by unfold wrap64; omega
            rw [w1, w2, Int.tmod_eq_emod_of_nonneg hym, Int.tmod_eq_emod_of_nonneg hxm]
            simp; omega
          clear hx hy hxe hye hxi hyi hcx hcy hxy hdl hcell
          go_wp2_with fail
          go_quiet (fail)
          go_wp2
          exact ⟨⟨j + 1 + 1, by omega, by omega, by go_num, Lib.hid (HB.out.trans ⟨rfl, rfl, rfl, Nat.le_refl _, fun _ _ => rfl⟩)⟩, by simp [intOf]; omega⟩
        · obtain rfl : k = 4095 := by omega
          have HG7 := Lib.hid (HG6.out.later HB.out)
          clear hlt hk hk1
          go_wp2_with fail
          refine HG7.out.len.mono ?_
          rintro e w8 ⟨rfl, G8⟩
          rw [HL2.out.due.2.1]
          have HB8 := Lib.hid G8.below
          clear G8
          go_wp2
          go_ret
          exact ⟨rfl, HB8.out⟩
end Go.Proofs.Ytnfdobmjfchegaa
