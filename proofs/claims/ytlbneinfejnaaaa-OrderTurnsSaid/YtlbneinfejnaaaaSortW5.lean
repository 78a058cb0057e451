/-
  slices.SortStableFunc: symMerge.
-/
import Derived.Test.YtlbneinfejnaaaaSortW4
import Derived.Deep.CutBlock
set_option linter.unusedVariables false
set_option linter.unusedSimpArgs false
namespace Go.Proofs.Ytlbneinfejnaaaa.Ss
open Go Go.RowKit
variable {W w w' : World} {B N1 N2 : Nat} {now age : Int} {tail : List Value} {d d' : List Wt}

def MergeP (W : World) (B N1 N2 : Nat) (now age : Int) (tail : List Value) (a b : Nat) (d : List Wt) (e : Ending) (w' : World) : Prop := e = .returned (.tuple #[]) ∧ ∃ d', SR W w' B N1 N2 now age tail d' ∧ Chg (lw now age) a b d d' ∧ SortedIn (lw now age) a b d'
set_option maxRecDepth 100000 in
set_option maxHeartbeats 8000000 in
theorem symMerge_any : ∀ (N : Nat) (w : World) (d : List Wt) (a m b t cap : Nat), b - a ≤ N → SR W w B N1 N2 now age tail d → a < m → m < b → b ≤ t → d.length = t → t ≤ cap → SortedIn (lw now age) a m d → SortedIn (lw now age) m b d →
    Calls Try.prog 38 #[.slice (some ⟨B, 0, none⟩) t cap, .int .i64 a, .int .i64 m, .int .i64 b, .func (.func 28) #[] #[.pointer (some ⟨N1, 0, none⟩), .pointer (some ⟨N2, 0, none⟩)]] w (MergeP W B N1 N2 now age tail a b d) := by
  intro N
  induction N with
  | zero => intro w d a m b t cap h0 _ h1 h2; omega
  | succ N ih =>
    intro w d a m b t cap hN h ham hmb hbt ht hc hs1 hs2
    by_cases hm1 : m = a + 1
    · subst hm1
      exact merge_up h a b t cap hmb hbt ht hc hs2
    by_cases hb1 : b = m + 1
    · subst hb1
      exact merge_dn h a m t cap (by omega) hbt ht hc hs1
    have hml := h.len
    rw [ht] at hml
    have IH := Lib.hid ih
    have H := Lib.hid h; have HT := Lib.hid ht; have HS1 := Lib.hid hs1; have HS2 := Lib.hid hs2
    clear h ht hs1 hs2 ih
    obtain ⟨mid, hmid⟩ : ∃ mid, (a + b) / 2 = mid := ⟨_, rfl⟩
    have e3 : ((a : Int) + b) / 2 = (mid : Int) := by omega
    have hamid : a < mid := by omega
    have hmidb : mid < b := by omega
    have e0 : ((m : Int) - a == 1) = false := by simp; omega
    have e1 : ((b : Int) - m == 1) = false := by simp; omega
    have e0' : ¬ (m : Int) - a = 1 := by omega
    have e1' : ¬ (b : Int) - m = 1 := by omega
    have HMID := Lib.hid hmid
    clear hmid hm1 hb1
    obtain ⟨n, hn⟩ : ∃ n, mid + m = n := ⟨_, rfl⟩
    have e4 : (mid : Int) + m = (n : Int) := by omega
    obtain ⟨pp, hpp⟩ : ∃ pp, pp + 1 = n := ⟨n - 1, by omega⟩
    have e5 : (n : Int) - 1 = (pp : Int) := by omega
    have HNN := Lib.hid hn; have HPP := Lib.hid hpp
    have hn1 : n ≤ 2000000 := by omega
    clear hn hpp
    go_enter Try.func38, Try.ntmps38
    go_upto_if 140 with fail
    go_cut [20, 21] from 25 (fun sv rv wy => ∃ s0 r0 : Nat, sv = .int .i64 s0 ∧ rv = .int .i64 r0 ∧ w = wy ∧ Hid ((mid < m ∧ s0 + b = n ∧ r0 = mid) ∨ (m ≤ mid ∧ s0 = a ∧ r0 = m)))
    case first => as_aux_lemma =>
      have hnn := HNN.out
      by_cases hmm : mid < m
      · have d1 : decide ((mid : Int) < m) = true := by simp; omega
        have hnb : b ≤ n := by omega
        have HQ := Lib.hid (show mid < m ∧ (n - b) + b = n from ⟨hmm, by omega⟩)
        clear hnn
        go_wp2_with fail
        go_meet
        exact ⟨n - b, mid, by congr 1; omega, rfl, rfl, Lib.hid (.inl ⟨HQ.out.1, HQ.out.2, rfl⟩)⟩
      · have d1 : decide ((mid : Int) < m) = false := by simp; omega
        have HQ := Lib.hid (show m ≤ mid from by omega)
        clear hnn
        go_wp2_with fail
        go_meet
        exact ⟨a, m, rfl, rfl, rfl, Lib.hid (.inr ⟨HQ.out, rfl, rfl⟩)⟩
    case rest =>
      obtain ⟨s0, r0, rfl, rfl, rfl, HSR⟩ := hcut
      have hs0 : a ≤ s0 ∧ s0 ≤ r0 ∧ r0 ≤ m ∧ r0 ≤ mid := by have := HSR.out; have := HNN.out; have := HMID.out; omega
      obtain ⟨k1, k2, k3, k4⟩ := hs0
      have hs0b : n ≤ s0 + b := by have := HSR.out; have := HNN.out; have := HMID.out; omega
      go_wp2_with fail
      go_loopw [20, 21] (fun sv rv wr => ∃ s r : Nat, s0 ≤ s ∧ s ≤ r ∧ r ≤ r0 ∧ sv = .int .i64 s ∧ rv = .int .i64 r ∧ Hid (SR W wr B N1 N2 now age tail d) ∧ Hid (s0 < s → Le (lw now age) d (s - 1) (n - s)) ∧ Hid (r < r0 → ∀ x y, d[r]? = some x → d[n - 1 - r]? = some y → lw now age y x = true)) (fun sv rv _ => (intOf rv).toNat - (intOf sv).toNat)
      case atStart => exact ⟨s0, r0, Nat.le_refl _, k2, Nat.le_refl _, rfl, rfl, Lib.hid H.out, Lib.hid (fun e => by omega), Lib.hid (fun e => by omega)⟩
      case round =>
        obtain ⟨s, r, h1, h2, h3, rfl, rfl, HS, HLO, HHI⟩ := hrel
        by_cases hsr : s < r
        · as_aux_lemma =>
          have d1 : decide ((s : Int) < r) = true := by simp; omega
          have d2 : decide (s < r) = true := by simp; omega
          obtain ⟨c, hce⟩ : ∃ c, (s + r) / 2 = c := ⟨_, rfl⟩
          have e6 : ((s : Int) + r) / 2 = (c : Int) := by omega
          have hsc : s ≤ c := by omega
          have hcr : c < r := by omega
          have hnn := HNN.out
          have hpp := HPP.out
          obtain ⟨pc, hpc⟩ : ∃ pc, pc + c = pp := ⟨pp - c, by omega⟩
          have hpct : pc < t := by omega
          have hct : c < t := by omega
          obtain ⟨x, hx⟩ := get_of_lt (d := d) (i := c) (by rw [HT.out]; exact hct)
          obtain ⟨y, hy⟩ := get_of_lt (d := d) (i := pc) (by rw [HT.out]; exact hpct)
          have HX := Lib.hid hx; have HY := Lib.hid hy; have HPC := Lib.hid hpc
          have hw1 : IntKind.i64.wrap ((pp : Int) - c) = (pc : Int) := by rw [IntKind.wrap_i64]; omega
          clear hx hy hce hnn hpp hpc hsr
          go_upto_region 35 with fail
          clear e6
          have HCMP := Lib.hid (fun w' (hw' : Below wr.heap.size wr w') => cmp_z (HS.out.later hw') y x (HS.out.ok _ (List.mem_of_getElem? HY.out)) (HS.out.ok _ (List.mem_of_getElem? HX.out)))
          obtain ⟨cv, hcv⟩ : ∃ cv, compareF y x now age = cv := ⟨_, rfl⟩
          have HCV := Lib.hid (show lw now age y x = decide (cv < 0) by rw [← hcv]; rfl)
          rw [hcv] at HCMP
          clear hcv
          obtain ⟨c0, c1, c2, c3, c4, c5, c6, c7, c8, c9⟩ := HS.out.at HY.out wr (Below.refl _ _)
          obtain ⟨e0, e1, e2, e3, e4, e5, e6, e7, e8, e9⟩ := HS.out.at HX.out wr (Below.refl _ _)
          have lB := lt_of_block HS.out.blk
          have qa0 : ∀ z9 : Later wr, z9.wd.cell? ⟨B, pc * 10, none⟩ = some (.int .i64 y.job.id) := fun z9 => (z9.cell lB).trans c0
          have qa1 : ∀ z9 : Later wr, z9.wd.cell? ⟨B, pc * 10 + 1, none⟩ = some (.int .i64 y.job.queue) := fun z9 => (z9.cell lB).trans c1
          have qa2 : ∀ z9 : Later wr, z9.wd.cell? ⟨B, pc * 10 + 2, none⟩ = some (.int .i64 y.job.prio) := fun z9 => (z9.cell lB).trans c2
          have qa3 : ∀ z9 : Later wr, z9.wd.cell? ⟨B, pc * 10 + 3, none⟩ = some (.int .i64 y.job.runtime) := fun z9 => (z9.cell lB).trans c3
          have qa4 : ∀ z9 : Later wr, z9.wd.cell? ⟨B, pc * 10 + 4, none⟩ = some (.int .i64 y.job.shape.gpus) := fun z9 => (z9.cell lB).trans c4
          have qa5 : ∀ z9 : Later wr, z9.wd.cell? ⟨B, pc * 10 + 5, none⟩ = some (.int .i64 y.job.shape.cpus) := fun z9 => (z9.cell lB).trans c5
          have qa6 : ∀ z9 : Later wr, z9.wd.cell? ⟨B, pc * 10 + 6, none⟩ = some (.int .i64 y.job.shape.mn) := fun z9 => (z9.cell lB).trans c6
          have qa7 : ∀ z9 : Later wr, z9.wd.cell? ⟨B, pc * 10 + 7, none⟩ = some (.int .i64 y.job.shape.mx) := fun z9 => (z9.cell lB).trans c7
          have qa8 : ∀ z9 : Later wr, z9.wd.cell? ⟨B, pc * 10 + 8, none⟩ = some (.int .i64 y.since) := fun z9 => (z9.cell lB).trans c8
          have qa9 : ∀ z9 : Later wr, z9.wd.cell? ⟨B, pc * 10 + 9, none⟩ = some (.int .i64 y.number) := fun z9 => (z9.cell lB).trans c9
          have qb0 : ∀ z9 : Later wr, z9.wd.cell? ⟨B, c * 10, none⟩ = some (.int .i64 x.job.id) := fun z9 => (z9.cell lB).trans e0
          have qb1 : ∀ z9 : Later wr, z9.wd.cell? ⟨B, c * 10 + 1, none⟩ = some (.int .i64 x.job.queue) := fun z9 => (z9.cell lB).trans e1
          have qb2 : ∀ z9 : Later wr, z9.wd.cell? ⟨B, c * 10 + 2, none⟩ = some (.int .i64 x.job.prio) := fun z9 => (z9.cell lB).trans e2
          have qb3 : ∀ z9 : Later wr, z9.wd.cell? ⟨B, c * 10 + 3, none⟩ = some (.int .i64 x.job.runtime) := fun z9 => (z9.cell lB).trans e3
          have qb4 : ∀ z9 : Later wr, z9.wd.cell? ⟨B, c * 10 + 4, none⟩ = some (.int .i64 x.job.shape.gpus) := fun z9 => (z9.cell lB).trans e4
          have qb5 : ∀ z9 : Later wr, z9.wd.cell? ⟨B, c * 10 + 5, none⟩ = some (.int .i64 x.job.shape.cpus) := fun z9 => (z9.cell lB).trans e5
          have qb6 : ∀ z9 : Later wr, z9.wd.cell? ⟨B, c * 10 + 6, none⟩ = some (.int .i64 x.job.shape.mn) := fun z9 => (z9.cell lB).trans e6
          have qb7 : ∀ z9 : Later wr, z9.wd.cell? ⟨B, c * 10 + 7, none⟩ = some (.int .i64 x.job.shape.mx) := fun z9 => (z9.cell lB).trans e7
          have qb8 : ∀ z9 : Later wr, z9.wd.cell? ⟨B, c * 10 + 8, none⟩ = some (.int .i64 x.since) := fun z9 => (z9.cell lB).trans e8
          have qb9 : ∀ z9 : Later wr, z9.wd.cell? ⟨B, c * 10 + 9, none⟩ = some (.int .i64 x.number) := fun z9 => (z9.cell lB).trans e9
          clear c0 e0 c1 e1 c2 e2 c3 e3 c4 e4 c5 e5 c6 e6 c7 e7 c8 e8 c9 e9 
          go_wp2_with fail
          refine wp_region_later (by kernel_rfl) (by kernel_rfl) ?_
          repeat (quiet_step (exact Calls.later (HCMP.out _ (Later.bel _))))
          refine wpQuiet_nil ?_
          rintro w1 ⟨⟨_, hb1⟩, rfl⟩
          have HS1 := Lib.hid (HS.out.later hb1)
          clear qa0 qb0 qa1 qb1 qa2 qb2 qa3 qb3 qa4 qb4 qa5 qb5 qa6 qb6 qa7 qb7 qa8 qb8 qa9 qb9 HCMP HS lB
          have HS := HS1
          clear HS1 hb1
          by_cases hcl : cv < 0
          · have dn : (!decide (cv < 0)) = false := by simp; omega
            have HLT := Lib.hid (HCV.out.trans (by simpa using hcl : decide (cv < 0) = true))
            have HNL := Lib.hid (show c < r0 → ∀ x y, d[c]? = some x → d[n - 1 - c]? = some y → lw now age y x = true from fun _ x' y' a1 a2 => by
              rw [HX.out] at a1
              rw [show n - 1 - c = pc by have := HPP.out; have := HPC.out; omega, HY.out] at a2
              cases a1; cases a2
              exact HLT.out)
            go_wp2_with fail
            all_goals first | exact ⟨⟨s, c, h1, by omega, by omega, rfl, by go_num, Lib.hid HS.out, Lib.hid HLO.out, Lib.hid HNL.out⟩, by simp [intOf]; omega⟩ | (rename_i h9; exact absurd (h9.symm.trans dn) (by decide))
          · have dn : (!decide (cv < 0)) = true := by simp; omega
            have HLT := Lib.hid (HCV.out.trans (by simpa using hcl : decide (cv < 0) = false))
            have HNL := Lib.hid (show s0 < c + 1 → Le (lw now age) d (c + 1 - 1) (n - (c + 1)) from fun _ x' y' a1 a2 => by
              rw [show c + 1 - 1 = c by omega, HX.out] at a1
              rw [show n - (c + 1) = pc by have := HPP.out; have := HPC.out; omega, HY.out] at a2
              cases a1; cases a2
              exact HLT.out)
            go_wp2_with fail
            all_goals first | exact ⟨⟨c + 1, r, by omega, by omega, h3, by go_num, rfl, Lib.hid HS.out, Lib.hid HNL.out, Lib.hid HHI.out⟩, by simp [intOf]; omega⟩ | (rename_i h9; exact absurd (h9.symm.trans dn) (by decide))
        · as_aux_lemma =>
          obtain rfl : s = r := by omega
          have d1 : decide ((s : Int) < s) = false := by simp
          have hsm : s ≤ m := by omega
          obtain ⟨en, hen⟩ : ∃ en, s + en = n := ⟨n - s, by have := HNN.out; omega⟩
          have e7 : (n : Int) - s = (en : Int) := by omega
          have HEN := Lib.hid hen
          have HM := Lib.hid (show Mid (lw now age) a m b s en d by
            have q1 := HSR.out; have q2 := HNN.out; have q3 := HMID.out; have q4 := HT.out
            refine ⟨⟨by omega, hsm, by omega, by omega, by omega, ham, hmb⟩, by omega, HS1.out, HS2.out, fun i1 i2 => ?_, fun i1 i2 x y i3 i4 => ?_⟩
            · have := HLO.out (by omega)
              rw [show n - s = en by omega] at this
              exact this
            · exact HHI.out (by omega) x y i3 (by rw [show n - 1 - s = en - 1 by omega]; exact i4))
          obtain ⟨g1, g2, g3, g4, g5, g6, g7⟩ := HM.out.lens
          clear hsr hen g5 g6 g7
          go_upto_region 39 with fail
          go_cut [185] from 25 (fun v9 wy => ∃ bv : Bool, v9 = .bool bv ∧ wr = wy ∧ Hid (bv = true ↔ s < m ∧ m < en))
          case first => as_aux_lemma =>
            by_cases c1 : s < m
            · have d3 : decide ((s : Int) < m) = true := by simp; omega
              have d3' : decide (s < m) = true := by simp; omega
              by_cases c2 : m < en
              · have d4 : decide ((m : Int) < en) = true := by simp; omega
                have d4' : decide (m < en) = true := by simp; omega
                go_wp2_with fail
                go_meet
                exact ⟨true, rfl, rfl, Lib.hid ⟨fun _ => ⟨c1, c2⟩, fun _ => rfl⟩⟩
              · have d4 : decide ((m : Int) < en) = false := by simp; omega
                have d4' : decide (m < en) = false := by simp; omega
                go_wp2_with fail
                go_meet
                exact ⟨false, rfl, rfl, Lib.hid ⟨fun e => (by cases e), fun e => absurd e.2 c2⟩⟩
            · have d3 : decide ((s : Int) < m) = false := by simp; omega
              have d3' : decide (s < m) = false := by simp; omega
              go_wp2_with fail
              go_meet
              exact ⟨false, rfl, rfl, Lib.hid ⟨fun e => (by cases e), fun e => absurd e.1 c1⟩⟩
          case rest =>
          obtain ⟨bv, rfl, rfl, HBV⟩ := hcut
          go_upto_if 185 with fail
          go_cut [] from 25 (fun wy => ∃ wx : World, wx = wy ∧ Hid (SR W wx B N1 N2 now age tail (rot d s m en)))
          case first => as_aux_lemma =>
            cases bv with
            | true =>
              obtain ⟨c1, c2⟩ := HBV.out.1 rfl
              have l1 : (d.take s).length = s := by rw [List.length_take, HT.out]; omega
              have l2 := part_len (d := d) g2 (by rw [HT.out]; omega)
              have l3 := part_len (d := d) g3 (by rw [HT.out]; omega)
              have hsp := rot_split (d := d) g2 g3
              have hrc := rotate_any (W := W) (B := B) (N1 := N1) (N2 := N2) (now := now) (age := age) (tail := tail) (w := wr) (d.take s) (part d s m) (part d m en) (d.drop en) s m en cap (.func (.func 28) #[] #[.pointer (some ⟨N1, 0, none⟩), .pointer (some ⟨N2, 0, none⟩)]) (by rw [← hsp]; exact HS.out) l1 (by rw [l2]; omega) (by rw [l3]; omega) (by rw [l2]; omega) (by rw [l3]; omega) t (by rw [← hsp]; exact HT.out) hc
              have HRC := Lib.hid hrc
              clear l1 l2 l3 hsp hrc
              go_wp2_with fail
              refine HRC.out.mono ?_
              rintro e w2 ⟨rfl, hs2⟩
              have HS2' := Lib.hid hs2
              clear hs2 HRC
              go_wp2_with fail
              go_meet
              exact ⟨_, rfl, Lib.hid HS2'.out⟩
            | false =>
              have hno : ¬ (s < m ∧ m < en) := fun e => by have := HBV.out.2 e; cases this
              have HE := Lib.hid (show SR W wr B N1 N2 now age tail (rot d s m en) by rw [rot_none g2 g3 (by omega)]; exact HS.out)
              clear hno
              go_wp2_with fail
              go_meet
              exact ⟨_, rfl, Lib.hid HE.out⟩
          case rest =>
            clear HS
            obtain ⟨wx, rfl, HS⟩ := hcut
            have HP := Lib.hid (HM.out.parts (lw_swo now age))
            rw [HMID.out] at HP
            have HL1 := Lib.hid (show (rot d s m en).length = t by rw [rot_len g2 g3 (by rw [HT.out]; omega)]; exact HT.out)
            obtain ⟨dd1, hdd1⟩ : ∃ dd1, rot d s m en = dd1 := ⟨_, rfl⟩
            rw [hdd1] at HS HP HL1
            have HD1 := Lib.hid hdd1
            have hsmid : s ≤ mid := by omega
            have hmide : mid ≤ en := by have := HEN.out; have := HNN.out; omega
            clear hdd1
            go_upto_region 41 with fail
            go_cut [199] from 25 (fun v9 wy => ∃ bv : Bool, v9 = .bool bv ∧ wx = wy ∧ Hid (bv = true ↔ a < s ∧ s < mid))
            case first => as_aux_lemma =>
              by_cases c1 : a < s
              · have d3 : decide ((a : Int) < s) = true := by simp; omega
                have d3' : decide (a < s) = true := by simp; omega
                by_cases c2 : s < mid
                · have d4 : decide ((s : Int) < mid) = true := by simp; omega
                  have d4' : decide (s < mid) = true := by simp; omega
                  go_wp2_with fail
                  go_meet
                  exact ⟨true, rfl, rfl, Lib.hid ⟨fun _ => ⟨c1, c2⟩, fun _ => rfl⟩⟩
                · have d4 : decide ((s : Int) < mid) = false := by simp; omega
                  have d4' : decide (s < mid) = false := by simp; omega
                  go_wp2_with fail
                  go_meet
                  exact ⟨false, rfl, rfl, Lib.hid ⟨fun e => (by cases e), fun e => absurd e.2 c2⟩⟩
              · have d3 : decide ((a : Int) < s) = false := by simp; omega
                have d3' : decide (a < s) = false := by simp; omega
                go_wp2_with fail
                go_meet
                exact ⟨false, rfl, rfl, Lib.hid ⟨fun e => (by cases e), fun e => absurd e.1 c1⟩⟩
            case rest =>
            obtain ⟨bv, rfl, rfl, HBV⟩ := hcut
            go_upto_if 199 with fail
            go_cut [] from 25 (fun wy => ∃ (wx : World) (d2 : List Wt), wx = wy ∧ Hid (SR W wx B N1 N2 now age tail d2) ∧ Hid (Chg (lw now age) a mid dd1 d2 ∧ SortedIn (lw now age) a mid d2))
            case first => as_aux_lemma =>
              cases bv with
              | true =>
                obtain ⟨c1, c2⟩ := HBV.out.1 rfl
                have HRC := Lib.hid (IH.out _ dd1 a s mid t cap (by omega) HS.out c1 c2 (by omega) HL1.out hc HP.out.1 HP.out.2.1)
                go_wp2_with fail
                refine HRC.out.mono ?_
                rintro e w2 ⟨rfl, d2, q1, q2, q3⟩
                have Q1 := Lib.hid q1; have Q2 := Lib.hid q2; have Q3 := Lib.hid q3
                clear q1 q2 q3 HRC
                go_wp2_with fail
                go_meet
                exact ⟨_, d2, rfl, Lib.hid Q1.out, Lib.hid ⟨Q2.out, Q3.out⟩⟩
              | false =>
                have hno : ¬ (a < s ∧ s < mid) := fun e => by have := HBV.out.2 e; cases this
                have HE := Lib.hid (show SortedIn (lw now age) a mid dd1 by
                  by_cases e : a < s
                  · rw [show mid = s by omega]; exact HP.out.1
                  · rw [show a = s by omega]; exact HP.out.2.1)
                clear hno
                go_wp2_with fail
                go_meet
                exact ⟨_, dd1, rfl, Lib.hid HS.out, Lib.hid ⟨Chg.refl _ _ _, HE.out⟩⟩
            case rest =>
              clear HS
              obtain ⟨wz, d2, rfl, HS, HC1⟩ := hcut
              have HP2 := Lib.hid (show SortedIn (lw now age) mid en d2 ∧ SortedIn (lw now age) en b d2 from
                ⟨HP.out.2.2.1.congr (fun i i1 i2 => HC1.out.1.out i (by omega)), HP.out.2.2.2.congr (fun i i1 i2 => HC1.out.1.out i (by omega))⟩)
              have HL2 := Lib.hid (show d2.length = t from HC1.out.1.len.trans HL1.out)
              have HJ := Lib.hid (show ∀ d3, Chg (lw now age) mid b d2 d3 → SortedIn (lw now age) mid b d3 → SortedIn (lw now age) a b d3 ∧ Chg (lw now age) a b d d3 from fun d3 i1 i2 => by
                have hm := HMID.out
                subst hm
                have hd := HD1.out
                subst hd
                exact HM.out.join (lw_swo now age) HC1.out.1 HC1.out.2 i1 i2)
              go_upto_region 43 with fail
              go_cut [213] from 25 (fun v9 wy => ∃ bv : Bool, v9 = .bool bv ∧ wz = wy ∧ Hid (bv = true ↔ mid < en ∧ en < b))
              case first => as_aux_lemma =>
                by_cases c1 : mid < en
                · have d3 : decide ((mid : Int) < en) = true := by simp; omega
                  have d3' : decide (mid < en) = true := by simp; omega
                  by_cases c2 : en < b
                  · have d4 : decide ((en : Int) < b) = true := by simp; omega
                    have d4' : decide (en < b) = true := by simp; omega
                    go_wp2_with fail
                    go_meet
                    exact ⟨true, rfl, rfl, Lib.hid ⟨fun _ => ⟨c1, c2⟩, fun _ => rfl⟩⟩
                  · have d4 : decide ((en : Int) < b) = false := by simp; omega
                    have d4' : decide (en < b) = false := by simp; omega
                    go_wp2_with fail
                    go_meet
                    exact ⟨false, rfl, rfl, Lib.hid ⟨fun e => (by cases e), fun e => absurd e.2 c2⟩⟩
                · have d3 : decide ((mid : Int) < en) = false := by simp; omega
                  have d3' : decide (mid < en) = false := by simp; omega
                  go_wp2_with fail
                  go_meet
                  exact ⟨false, rfl, rfl, Lib.hid ⟨fun e => (by cases e), fun e => absurd e.1 c1⟩⟩
              case rest =>
              obtain ⟨bv, rfl, rfl, HBV⟩ := hcut
              cases bv with
              | true =>
                obtain ⟨c1, c2⟩ := HBV.out.1 rfl
                have HRC := Lib.hid (IH.out _ d2 mid en b t cap (by omega) HS.out c1 c2 (by omega) HL2.out hc HP2.out.1 HP2.out.2)
                go_wp2_with fail
                refine HRC.out.mono ?_
                rintro e w2 ⟨rfl, d3, q1, q2, q3⟩
                have Q1 := Lib.hid q1; have Q2 := Lib.hid (HJ.out d3 q2 q3)
                clear q1 q2 q3 HRC
                go_wp2_with fail
                first | go_end0 | (refine bodyPost_ret (results_none rfl _ _ _) rfl ?_)
                exact ⟨rfl, d3, Q1.out, Q2.out.2, Q2.out.1⟩
              | false =>
                have hno : ¬ (mid < en ∧ en < b) := fun e => by have := HBV.out.2 e; cases this
                have HE := Lib.hid (HJ.out d2 (Chg.refl _ _ _) (by
                  by_cases e : mid < en
                  · rw [show b = en by omega]; exact HP2.out.1
                  · rw [show mid = en by omega]; exact HP2.out.2))
                clear hno
                go_wp2_with fail
                first | go_end0 | (refine bodyPost_ret (results_none rfl _ _ _) rfl ?_)
                exact ⟨rfl, d2, HS.out, HE.out.2, HE.out.1⟩
end Go.Proofs.Ytlbneinfejnaaaa.Ss
