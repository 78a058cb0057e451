/-
  The law GangCounts.
-/
import Derived.Test.YtaopekoehaccbaaGangPure
import Derived.Test.YtaopekoehaccbaaGangAwake
import Derived.Test.YtaopekoehaccbaaFlatAct11
set_option linter.unusedVariables false
set_option linter.unusedSimpArgs false
namespace Go.Proofs.Ytaopekoehaccbaa
open Go.RowKit Go.Maps

def actsV (a : Act11) : Value := .agg #[.int .i64 a.kind, .int .i64 a.n, .int .i64 a.m, .int .i64 a.k, .int .i64 a.j.id, .int .i64 a.j.queue, .int .i64 a.j.prio, .int .i64 a.j.runtime, .int .i64 a.j.shape.gpus, .int .i64 a.j.shape.cpus, .int .i64 a.j.shape.mn, .int .i64 a.j.shape.mx]
theorem acts_id {xs : List Act11} (h : ∀ x ∈ xs, x.wf) {k : Nat} (hk : k < xs.length) {x : Act11} (hx : xs[k] = x) : okInt x.j.id := by
  have h1 := h x (hx ▸ List.getElem_mem hk)
  unfold Act11.wf at h1
  exact h1.2.2.2.2.1

/-- how many are in one of the first states -/
def upto (l : List Rc) : Nat → Nat
  | 0 => 0
  | s + 1 => upto l s + (l.filter fun x => x.state == (s : Int)).length
theorem upto_all (l : List Rc) (s : Nat) : upto l s = (l.filter fun x => decide (0 ≤ x.state ∧ x.state < (s : Int))).length := by
  induction s with
  | zero =>
    have : (l.filter fun x => decide (0 ≤ x.state ∧ x.state < ((0 : Nat) : Int))) = [] := by
      rw [List.filter_eq_nil_iff]; intro x _; simp <;> omega
    rw [this]; rfl
  | succ s ih =>
    unfold upto
    rw [ih]
    clear ih
    induction l with
    | nil => rfl
    | cons x r ih =>
      simp only [List.filter_cons]
      by_cases h1 : x.state = (s : Int)
      · have e1 : (x.state == (s : Int)) = true := by simpa using h1
        have e2 : decide (0 ≤ x.state ∧ x.state < (s : Int)) = false := by simp; omega
        have e3 : decide (0 ≤ x.state ∧ x.state < ((s + 1 : Nat) : Int)) = true := by simp; omega
        simp only [e1, e2, e3, if_true, Bool.false_eq_true, if_false, List.length_cons]
        omega
      · have e1 : (x.state == (s : Int)) = false := by simpa using h1
        by_cases h2 : 0 ≤ x.state ∧ x.state < (s : Int)
        · have e2 : decide (0 ≤ x.state ∧ x.state < (s : Int)) = true := by simp; omega
          have e3 : decide (0 ≤ x.state ∧ x.state < ((s + 1 : Nat) : Int)) = true := by simp; omega
          simp only [e1, e2, e3, if_true, Bool.false_eq_true, if_false, List.length_cons]
          omega
        · have e2 : decide (0 ≤ x.state ∧ x.state < (s : Int)) = false := by simp; omega
          have e3 : decide (0 ≤ x.state ∧ x.state < ((s + 1 : Nat) : Int)) = false := by simp; omega
          simp only [e1, e2, e3, Bool.false_eq_true, if_false]
          exact ih
theorem upto_8 {l : List Rc} (h : Well l) : upto l 8 = l.length := by
  rw [upto_all]
  congr 1
  rw [List.filter_eq_self]
  intro x hx
  obtain ⟨k, hk, rfl⟩ := List.getElem_of_mem hx
  have := (h.ok k hk).st
  simp; omega
theorem upto_le (l : List Rc) (s : Nat) : upto l s ≤ l.length := by rw [upto_all]; exact List.length_filter_le _ _
theorem rising_filter {l : List Rc} (h : Well l) (f : Rc → Bool) (k : Nat) (hk : k + 1 < (l.filter f).length) : (l.filter f)[k].number < (l.filter f)[k + 1].number := by
  have hp : l.Pairwise fun x y => x.number < y.number := by
    rw [List.pairwise_iff_getElem]
    intro i j hi hj hij
    rw [h.num i hi, h.num j hj]; omega
  exact List.pairwise_iff_getElem.1 (hp.filter f) k (k + 1) (by omega) hk (by omega)

set_option maxRecDepth 100000 in
set_option maxHeartbeats 4000000 in
theorem gangCounts_walk (v : Value) (xs : List Act11) (W : World) (s : Rd.SliceOf W v 12 Act11.cells xs) (hwf : ∀ x ∈ xs, x.wf) :
    Calls Try.prog 7 #[v] W fun e w' => e = .returned (.bool true) ∧ Below W.heap.size W w' := by
  obtain ⟨a0, cap0, hv0⟩ := s.form
  obtain ⟨n, hn⟩ : ∃ n, xs.length = n := ⟨_, rfl⟩
  have HS := Lib.hid s; have HN := Lib.hid hn; have HW := Lib.hid hwf
  rw [hn] at hv0
  subst hv0
  clear s hn hwf
  by_cases h0 : (100 : Int) < n
  · go_enter Try.func7, Try.ntmps7
    go_wp2_with fail
    refine (awake_any _).mono ?_
    rintro e w1 ⟨rfl, hb1⟩
    go_wp2
    go_ret
    exact ⟨rfl, hb1⟩
  have hn100 : n ≤ 100 := by omega
  go_enter Try.func7, Try.ntmps7
  go_wp2_with fail
  refine (awake_any _).mono ?_
  rintro e w1 ⟨rfl, hb1⟩
  have K1 := Lib.hid ((Kept.start W).later hb1)
  clear hb1
  go_wp2_with fail
  refine (GK.start K1.out).mono ?_
  rintro e w2 ⟨p, rfl, G2⟩
  have HG2 := Lib.hid G2
  clear G2 K1
  go_wp2_with fail
  go_loopw [4] (fun i wr => ∃ (k : Nat) (l : List Rc), k ≤ n ∧ i = .int .i64 k ∧ GK W wr p l [] ∧ Hid (Well l) ∧ l.length ≤ k) (fun i _ => n - (intOf i).toNat)
  case atStart => exact ⟨0, [], Nat.zero_le _, rfl, HG2.out, Lib.hid Well.nil, Nat.le_refl _⟩
  case round =>
    obtain ⟨k, l, hk, rfl, GR, HWl, hlk⟩ := hrel
    have HGR := Lib.hid GR
    have HBW := Lib.hid GR.below
    clear GR
    by_cases hlt : k < n
    · have hlq : k < xs.length := by rw [HN.out]; exact hlt
      obtain ⟨x, hx⟩ : ∃ x, xs[k] = x := ⟨_, rfl⟩
      have HID := Lib.hid (acts_id HW.out hlq hx)
      obtain ⟨b, off, cap3, hv, _, _, hb, hcell⟩ := Act11.at HS.out hlq hx
      simp only [Value.slice.injEq] at hv
      obtain ⟨rfl, -, rfl⟩ := hv
      obtain ⟨c0, c1, c2, c3, c4, c5, c6, c7, c8, c9, c10, c11⟩ := hcell wr HBW.out
      clear hcell hx
      go_wp2_with fail
      refine (HGR.out.doAny x HID.out (by omega)).mono ?_
      rintro e w3 ⟨rfl, G3⟩
      have HG3 := Lib.hid G3
      have HST := Lib.hid (doR_step l x)
      have hle := HST.out.le
      clear G3 c0 c1 c2 c3 c4 c5 c6 c7 c8 c9 c10 c11
      go_wp2
      refine ⟨⟨k + 1, (doR l x).2, by omega, by go_num, HG3.out, Lib.hid (HWl.out.step HST.out), by omega⟩, by simp [intOf]; omega⟩
    · obtain rfl : k = n := by omega
      clear hlt hk
      obtain ⟨ln, hln⟩ : ∃ ln, l.length = ln := ⟨_, rfl⟩
      have HLN := Lib.hid hln
      have hln100 : ln ≤ 100 := by omega
      clear hln hlk
      go_wp2_with fail
      go_loopw [5, 6] (fun nv i wr => ∃ s : Nat, s ≤ 8 ∧ nv = .int .i64 (upto l s : Nat) ∧ i = .int .i64 s ∧ GK W wr p l []) (fun _ i _ => 8 - (intOf i).toNat)
      case atStart => exact ⟨0, by omega, rfl, rfl, HGR.out⟩
      case round =>
        obtain ⟨s, hs, rfl, rfl, GR⟩ := hrel
        have HGR2 := Lib.hid GR
        clear GR
        by_cases hlt : s < 8
        · have hs7 : (s : Int) ≤ 7 := by omega
          go_wp2_with fail
          refine (HGR2.out.inState s (by rw [HLN.out]; omega)).mono ?_
          rintro e w3 ⟨v', rfl, hrow⟩
          obtain ⟨ys, hys⟩ : ∃ ys, (l.filter fun x => x.state == (s : Int)) = ys := ⟨_, rfl⟩
          have HUP := Lib.hid (show upto l (s + 1) = upto l s + ys.length by rw [← hys]; rfl)
          have HUL := Lib.hid (show upto l s + ys.length ≤ 100 by have := upto_le l (s + 1); rw [HUP.out, HLN.out] at this; omega)
          have HYS := Lib.hid (show ∀ (k : Nat) (hk : k < ys.length), ys[k].state = (s : Int) from fun k hk => by
            subst hys
            simpa using (List.mem_filter.1 (List.getElem_mem hk)).2)
          have HYN := Lib.hid (show ∀ (k : Nat) (hk : k + 1 < ys.length), ys[k].number < ys[k + 1].number from fun k hk => by
            subst hys
            exact rising_filter HWl.out _ k hk)
          rw [hys] at hrow
          clear hys
          rcases hrow with ⟨rfl, rfl, G3⟩ | ⟨g, cap4, cur, rfl, hcap, hcap2, hcur, G3⟩
          · have HG3 := Lib.hid G3
            have hup : upto l (s + 1) = upto l s := HUP.out
            have hul : upto l s ≤ 100 := HUL.out
            clear G3
            go_wp2_with fail
            go_loopw [8] (fun i wr => i = .int .i64 0 ∧ GK W wr p l []) (fun i _ => 0)
            case atStart => exact ⟨rfl, HG3.out⟩
            case round =>
              obtain ⟨rfl, GR⟩ := hrel
              have HG4 := Lib.hid GR
              clear GR
              go_wp2
              refine ⟨⟨s + 1, by omega, by rw [hup] <;> go_num, by go_num, HG4.out⟩, by simp [intOf]; omega⟩
          · obtain ⟨m, hm⟩ : ∃ m, ys.length = m := ⟨_, rfl⟩
            have HM := Lib.hid hm
            have hul := HUL.out
            rw [hm] at hcap hul ⊢
            have hup : upto l (s + 1) = upto l s + m := by rw [HUP.out, hm]
            have HG3 := Lib.hid G3; have HCUR := Lib.hid hcur
            clear G3 hcur hm
            go_wp2_with fail
            go_loopw [8] (fun i wr => ∃ k : Nat, k ≤ m ∧ i = .int .i64 k ∧ GK W wr p l [(g, cur, 38)]) (fun i _ => m - (intOf i).toNat)
            case atStart => exact ⟨0, Nat.zero_le _, rfl, HG3.out⟩
            case round =>
              obtain ⟨k, hk, rfl, GR⟩ := hrel
              have HG4 := Lib.hid GR
              have lg := GR.kept.lt 0 rfl
              have q := GR.kept.cells 0 rfl
              clear GR
              by_cases hkm : k < m
              · have hky : k < ys.length := by rw [HM.out]; exact hkm
                have c1 : wr.cell? ⟨g, k * 16 + 8, none⟩ = some (.int .i64 (s : Int)) := by
                  rw [q, HCUR.out k hky 8 (by omega), ← HYS.out k hky]; rfl
                obtain ⟨nk, hnk⟩ : ∃ nk, ys[k].number = nk := ⟨_, rfl⟩
                have c2 : wr.cell? ⟨g, k * 16 + 10, none⟩ = some (.int .i64 nk) := by
                  rw [q, HCUR.out k hky 10 (by omega), ← hnk]; rfl
                have hnd : ∀ w', Below wr.heap.size wr w' → GK W w' p l [(g, cur, 38)] := fun w' hb => HG4.out.later hb
                have HND := Lib.hid hnd
                clear q hnd
                cases k with
                | zero =>
                  simp only [Nat.zero_mul, Nat.zero_add] at c1 c2
                  clear hnk
                  go_wp2_with fail
                  go_quiet (fail)
                  go_wp2
                  refine ⟨⟨1, by omega, by go_num, HND.out _ ⟨rfl, rfl, rfl, Nat.le_refl _, fun _ _ => rfl⟩⟩, by simp [intOf]; omega⟩
                | succ k =>
                  have hky0 : k < ys.length := by omega
                  obtain ⟨n0, hn0⟩ : ∃ n0, ys[k].number = n0 := ⟨_, rfl⟩
                  have c3 : wr.cell? ⟨g, k * 16 + 10, none⟩ = some (.int .i64 n0) := by
                    rw [HG4.out.kept.cells 0 rfl, HCUR.out k hky0 10 (by omega), ← hn0]; rfl
                  have hlt2 := HYN.out k hky
                  rw [hn0, hnk] at hlt2
                  have hgt : decide (nk ≤ n0) = false := by simpa using hlt2
                  have hw1 : IntKind.i64.wrap (k : Int) = k := by rw [wrap_eq]; unfold wrap64; omega
                  have i0 : (0 : Int) ≤ k := by omega
                  have i1 : (k : Int) < m := by omega
                  have i2 : (k : Int) + 1 < m := by omega
                  have i3 : (0 : Int) < (k : Int) + 1 := by omega
                  have i4 : (0 : Int) ≤ (k : Int) + 1 := by omega
                  have i5 : ((k : Int) + 1).toNat = k + 1 := by omega
                  clear hn0 hnk hlt2
                  go_wp2_with fail
                  go_quiet (fail)
                  go_wp2
                  refine ⟨⟨k + 2, by omega, by go_num, HND.out _ ⟨rfl, rfl, rfl, Nat.le_refl _, fun _ _ => rfl⟩⟩, by simp [intOf]; omega⟩
              · obtain rfl : k = m := by omega
                clear q
                go_wp2
                refine ⟨⟨s + 1, by omega, by rw [hup]; go_num, by go_num, HG4.out.sub (fun x hx => by cases hx)⟩, by simp [intOf]; omega⟩
        · obtain rfl : s = 8 := by omega
          rw [show upto l 8 = ln from (upto_8 HWl.out).trans HLN.out]
          clear hlt hs
          go_wp2_with fail
          refine (HGR2.out.all (by rw [HLN.out]; omega)).mono ?_
          rintro e w3 ⟨v', rfl, hrow⟩
          rcases hrow with ⟨rfl, hnil, G3⟩ | ⟨g, cap4, cur, rfl, hcap, hcap2, hcur, G3⟩
          · have hl0 : ln = 0 := by have := HLN.out; rw [hnil] at this; simpa using this.symm
            subst hl0
            have HG3 := Lib.hid G3
            clear G3 hnil
            go_wp2_with fail
            go_loopw [10] (fun i wr => i = .int .i64 0 ∧ GK W wr p l []) (fun i _ => 0)
            case atStart => exact ⟨rfl, HG3.out⟩
            case round =>
              obtain ⟨rfl, GR⟩ := hrel
              have HB4 := Lib.hid GR.below
              clear GR
              go_wp2
              go_ret
              exact ⟨rfl, HB4.out⟩
          · rw [HLN.out] at hcap ⊢
            have HG3 := Lib.hid G3; have HCUR := Lib.hid hcur
            clear G3 hcur
            go_wp2_with fail
            go_loopw [10] (fun i wr => ∃ k : Nat, k ≤ ln ∧ i = .int .i64 k ∧ GK W wr p l [(g, cur, 38)]) (fun i _ => ln - (intOf i).toNat)
            case atStart => exact ⟨0, Nat.zero_le _, rfl, HG3.out⟩
            case round =>
              obtain ⟨k, hk, rfl, GR⟩ := hrel
              have HG4 := Lib.hid GR
              have lg := GR.kept.lt 0 rfl
              have q := GR.kept.cells 0 rfl
              have HB4 := Lib.hid GR.below
              clear GR
              by_cases hkm : k < ln
              · have hky : k < l.length := by rw [HLN.out]; exact hkm
                have c2 : wr.cell? ⟨g, k * 16 + 10, none⟩ = some (.int .i64 ((k : Int) + 1)) := by
                  rw [q, HCUR.out k hky 10 (by omega), ← HWl.out.num k hky]; rfl
                clear q
                go_wp2
                refine ⟨⟨k + 1, by omega, by go_num, HG4.out⟩, by simp [intOf]; omega⟩
              · obtain rfl : k = ln := by omega
                clear q
                go_wp2
                go_ret
                exact ⟨rfl, HB4.out⟩
end Go.Proofs.Ytaopekoehaccbaa
