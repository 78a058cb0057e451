/-
  slices.SortStableFunc: symMerge.
-/
import Derived.Test.YtlbneinfejnaaaaSortW3
set_option linter.unusedVariables false
set_option linter.unusedSimpArgs false
namespace Go.Proofs.Ytlbneinfejnaaaa.Ss
open Go Go.RowKit
variable {W w w' : World} {B N1 N2 : Nat} {now age : Int} {tail : List Value} {d d' : List Wt}

set_option maxRecDepth 100000 in
set_option maxHeartbeats 8000000 in
theorem merge_up (h : SR W w B N1 N2 now age tail d) (a b t cap : Nat) (hab : a + 1 < b) (hb : b ≤ t) (ht : d.length = t) (hc : t ≤ cap) (hsd : SortedIn (lw now age) (a + 1) b d) :
    Calls Try.prog 38 #[.slice (some ⟨B, 0, none⟩) t cap, .int .i64 a, .int .i64 ((a + 1 : Nat) : Int), .int .i64 b, .func (.func 28) #[] #[.pointer (some ⟨N1, 0, none⟩), .pointer (some ⟨N2, 0, none⟩)]] w fun e w' => e = .returned (.tuple #[]) ∧ ∃ d', SR W w' B N1 N2 now age tail d' ∧ Chg (lw now age) a b d d' ∧ SortedIn (lw now age) a b d' := by
  have hml := h.len
  rw [ht] at hml
  obtain ⟨x, hx⟩ := get_of_lt (d := d) (i := a) (by omega)
  obtain ⟨m, hm⟩ : ∃ m, a + 1 = m := ⟨_, rfl⟩
  have H := Lib.hid h; have HT := Lib.hid ht; have HSD := Lib.hid hsd; have HX := Lib.hid hx; have HM := Lib.hid hm
  rw [hm]
  have e0 : ((m : Int) - a == 1) = true := by simp; omega
  have e0' : (m : Int) - a = 1 := by omega
  have am : a < t := by omega
  have hmb : m < b := by omega
  clear h ht hsd hx hm hab
  go_enter Try.func38, Try.ntmps38
  go_wp2_with fail
  go_loopw [10, 11] (fun iv jv wr => ∃ i j : Nat, m ≤ i ∧ i ≤ j ∧ j ≤ b ∧ iv = .int .i64 i ∧ jv = .int .i64 j ∧ Hid (SR W wr B N1 N2 now age tail d) ∧ Hid (∀ q y, m ≤ q → q < i → d[q]? = some y → lw now age y x = true) ∧ Hid (∀ q y, j ≤ q → q < b → d[q]? = some y → lw now age y x = false)) (fun iv jv _ => (intOf jv).toNat - (intOf iv).toNat)
  case atStart => exact ⟨m, b, Nat.le_refl _, by omega, Nat.le_refl _, rfl, rfl, Lib.hid H.out, Lib.hid (fun q y h1 h2 => by omega), Lib.hid (fun q y h1 h2 => by omega)⟩
  case round =>
    obtain ⟨i, j, h1, h2, h3, rfl, rfl, HS, HLO, HHI⟩ := hrel
    by_cases hij : i < j
    · have d1 : decide ((i : Int) < j) = true := by simp; omega
      have d2 : decide (i < j) = true := by simp; omega
      have HIJ := Lib.hid hij
      obtain ⟨hh, hhe⟩ : ∃ hh, (i + j) / 2 = hh := ⟨_, rfl⟩
      obtain ⟨y, hy⟩ := get_of_lt (d := d) (i := hh) (by have := HT.out; omega)
      have HY := Lib.hid hy
      have e3 : ((i : Int) + j) / 2 = (hh : Int) := by omega
      have hih : i ≤ hh := by omega
      have hhj : hh < j := by omega
      have hht : hh < t := by have := HT.out; omega
      clear hy hij hhe
      go_upto_region 5 with fail
      clear e3
      have HCMP := Lib.hid (fun w' (hw' : Below wr.heap.size wr w') => cmp_z (HS.out.later hw') y x (HS.out.ok _ (List.mem_of_getElem? HY.out)) (HS.out.ok _ (List.mem_of_getElem? HX.out)))
      obtain ⟨cv, hcv⟩ : ∃ cv, compareF y x now age = cv := ⟨_, rfl⟩
      have HCV := Lib.hid (show lw now age y x = decide (cv < 0) by rw [← hcv]; rfl)
      rw [hcv] at HCMP
      clear hcv
      obtain ⟨c0, c1, c2, c3, c4, c5, c6, c7, c8, c9⟩ := HS.out.at HY.out wr (Below.refl _ _)
      obtain ⟨e0, e1, e2, e3, e4, e5, e6, e7, e8, e9⟩ := HS.out.at HX.out wr (Below.refl _ _)
      have lB := lt_of_block HS.out.blk
      have qa0 : ∀ z9 : Later wr, z9.wd.cell? ⟨B, hh * 10, none⟩ = some (.int .i64 y.job.id) := fun z9 => (z9.cell lB).trans c0
      have qa1 : ∀ z9 : Later wr, z9.wd.cell? ⟨B, hh * 10 + 1, none⟩ = some (.int .i64 y.job.queue) := fun z9 => (z9.cell lB).trans c1
      have qa2 : ∀ z9 : Later wr, z9.wd.cell? ⟨B, hh * 10 + 2, none⟩ = some (.int .i64 y.job.prio) := fun z9 => (z9.cell lB).trans c2
      have qa3 : ∀ z9 : Later wr, z9.wd.cell? ⟨B, hh * 10 + 3, none⟩ = some (.int .i64 y.job.runtime) := fun z9 => (z9.cell lB).trans c3
      have qa4 : ∀ z9 : Later wr, z9.wd.cell? ⟨B, hh * 10 + 4, none⟩ = some (.int .i64 y.job.shape.gpus) := fun z9 => (z9.cell lB).trans c4
      have qa5 : ∀ z9 : Later wr, z9.wd.cell? ⟨B, hh * 10 + 5, none⟩ = some (.int .i64 y.job.shape.cpus) := fun z9 => (z9.cell lB).trans c5
      have qa6 : ∀ z9 : Later wr, z9.wd.cell? ⟨B, hh * 10 + 6, none⟩ = some (.int .i64 y.job.shape.mn) := fun z9 => (z9.cell lB).trans c6
      have qa7 : ∀ z9 : Later wr, z9.wd.cell? ⟨B, hh * 10 + 7, none⟩ = some (.int .i64 y.job.shape.mx) := fun z9 => (z9.cell lB).trans c7
      have qa8 : ∀ z9 : Later wr, z9.wd.cell? ⟨B, hh * 10 + 8, none⟩ = some (.int .i64 y.since) := fun z9 => (z9.cell lB).trans c8
      have qa9 : ∀ z9 : Later wr, z9.wd.cell? ⟨B, hh * 10 + 9, none⟩ = some (.int .i64 y.number) := fun z9 => (z9.cell lB).trans c9
      have qb0 : ∀ z9 : Later wr, z9.wd.cell? ⟨B, a * 10, none⟩ = some (.int .i64 x.job.id) := fun z9 => (z9.cell lB).trans e0
      have qb1 : ∀ z9 : Later wr, z9.wd.cell? ⟨B, a * 10 + 1, none⟩ = some (.int .i64 x.job.queue) := fun z9 => (z9.cell lB).trans e1
      have qb2 : ∀ z9 : Later wr, z9.wd.cell? ⟨B, a * 10 + 2, none⟩ = some (.int .i64 x.job.prio) := fun z9 => (z9.cell lB).trans e2
      have qb3 : ∀ z9 : Later wr, z9.wd.cell? ⟨B, a * 10 + 3, none⟩ = some (.int .i64 x.job.runtime) := fun z9 => (z9.cell lB).trans e3
      have qb4 : ∀ z9 : Later wr, z9.wd.cell? ⟨B, a * 10 + 4, none⟩ = some (.int .i64 x.job.shape.gpus) := fun z9 => (z9.cell lB).trans e4
      have qb5 : ∀ z9 : Later wr, z9.wd.cell? ⟨B, a * 10 + 5, none⟩ = some (.int .i64 x.job.shape.cpus) := fun z9 => (z9.cell lB).trans e5
      have qb6 : ∀ z9 : Later wr, z9.wd.cell? ⟨B, a * 10 + 6, none⟩ = some (.int .i64 x.job.shape.mn) := fun z9 => (z9.cell lB).trans e6
      have qb7 : ∀ z9 : Later wr, z9.wd.cell? ⟨B, a * 10 + 7, none⟩ = some (.int .i64 x.job.shape.mx) := fun z9 => (z9.cell lB).trans e7
      have qb8 : ∀ z9 : Later wr, z9.wd.cell? ⟨B, a * 10 + 8, none⟩ = some (.int .i64 x.since) := fun z9 => (z9.cell lB).trans e8
      have qb9 : ∀ z9 : Later wr, z9.wd.cell? ⟨B, a * 10 + 9, none⟩ = some (.int .i64 x.number) := fun z9 => (z9.cell lB).trans e9
      clear c0 e0 c1 e1 c2 e2 c3 e3 c4 e4 c5 e5 c6 e6 c7 e7 c8 e8 c9 e9 
      go_wp2_with fail
      refine wp_region_later (by kernel_rfl) (by kernel_rfl) ?_
      repeat (quiet_step (exact Calls.later (HCMP.out _ (Later.bel _))))
      refine wpQuiet_nil ?_
      rintro w1 ⟨⟨_, hb1⟩, rfl⟩
      have HS1 := Lib.hid (HS.out.later hb1)
      clear qa0 qb0 qa1 qb1 qa2 qb2 qa3 qb3 qa4 qb4 qa5 qb5 qa6 qb6 qa7 qb7 qa8 qb8 qa9 qb9 HCMP HS lB
      have HS := HS1
      clear HS1 hb1
      by_cases hcl : cv < 0
      · have HLT := Lib.hid (HCV.out.trans (by simpa using hcl : decide (cv < 0) = true))
        have HNL := Lib.hid (show ∀ q z, m ≤ q → q < hh + 1 → d[q]? = some z → lw now age z x = true from fun q z a1 a2 a3 =>
          (lw_swo now age).le_lt (HSD.out.le (lw_swo now age) (p := q) (q := hh) (by have := HM.out; omega) (by omega) (by omega) z y a3 HY.out) HLT.out)
        go_wp2_with fail
        exact ⟨⟨hh + 1, j, by omega, by omega, h3, by go_num, rfl, Lib.hid HS.out, Lib.hid HNL.out, Lib.hid HHI.out⟩, by simp [intOf]; omega⟩
      · have HLT := Lib.hid (HCV.out.trans (by simpa using hcl : decide (cv < 0) = false))
        have HNL := Lib.hid (show ∀ q z, hh ≤ q → q < b → d[q]? = some z → lw now age z x = false from fun q z a1 a2 a3 =>
          (lw_swo now age).ntr z y x (HSD.out.le (lw_swo now age) (p := hh) (q := q) (by have := HM.out; omega) a1 a2 y z HY.out a3) HLT.out)
        go_wp2_with fail
        exact ⟨⟨i, hh, h1, by omega, by omega, rfl, by go_num, Lib.hid HS.out, Lib.hid HLO.out, Lib.hid HNL.out⟩, by simp [intOf]; omega⟩
    · obtain rfl : i = j := by omega
      have d1 : decide ((i : Int) < i) = false := by simp
      clear hij
      go_wp2_with fail
      go_loopw [13] (fun kv wx => ∃ (k : Nat) (dd : List Wt), a ≤ k ∧ k + 1 ≤ i ∧ kv = .int .i64 k ∧ Hid (SR W wx B N1 N2 now age tail dd) ∧ Hid (Up (lw now age) a k x d dd ∧ Chg (lw now age) a b d dd)) (fun kv _ => i - (intOf kv).toNat)
      case atStart => exact ⟨a, d, Nat.le_refl _, by have := HM.out; omega, rfl, Lib.hid HS.out, Lib.hid ⟨Up.start HX.out, Chg.refl _ _ _⟩⟩
      case round =>
        clear HS
        obtain ⟨k, dd, h4, h5, rfl, HS, HL⟩ := hrel
        by_cases hk : k + 1 < i
        · obtain ⟨s, hs⟩ : ∃ s, k + 1 = s := ⟨_, rfl⟩
          have hlen : dd.length = t := HL.out.2.len.trans HT.out
          obtain ⟨y, hy⟩ := get_of_lt (d := dd) (i := s) (by omega)
          have HLT := Lib.hid (show lw now age y x = true by
            have e := HL.out.1.rest s (by omega)
            rw [hy] at e
            exact HLO.out s y (by have := HM.out; omega) (by omega) e.symm)
          have d3 : decide ((k : Int) < (i : Int) - 1) = true := by simp; omega
          have hw1 : IntKind.i64.wrap ((k : Int) + 1) = (s : Int) := by rw [IntKind.wrap_i64]; omega
          have HKS := Lib.hid hs; have HKI := Lib.hid hk
          have hkt : k < t := by omega
          have hst : s < t := by omega
          have hif := HL.out.1.here
          have his := hy
          have hne : k ≠ s := by omega
          obtain ⟨⟨u0, u1, u2, u3, ⟨u4, u5, u6, u7⟩⟩, u8, u9⟩ := x
          obtain ⟨⟨v0, v1, v2, v3, ⟨v4, v5, v6, v7⟩⟩, v8, v9⟩ := y
          clear hs hlen hy hk
          have HIF := Lib.hid hif; have HIS := Lib.hid his; have HNE := Lib.hid hne
          have hlen1 := Lib.hid (List.getElem?_eq_some_iff.1 hif).1
          have HRU := Lib.hid (HS.out.ok _ (List.mem_of_getElem? hif)); have HRV := Lib.hid (HS.out.ok _ (List.mem_of_getElem? his))
          obtain ⟨c0, c1, c2, c3, c4, c5, c6, c7, c8, c9⟩ := HS.out.at hif wr (Below.refl _ _)
          obtain ⟨e0, e1, e2, e3, e4, e5, e6, e7, e8, e9⟩ := HS.out.at his wr (Below.refl _ _)
          have lB := lt_of_block HS.out.blk
          have fz := frozen_of_block HS.out.blk
          have fx0 := (Below.refl wr.heap.size wr).drew
          have qa0 : ∀ y : Later wr, y.wd.cell? ⟨B, k * 10, none⟩ = some (.int .i64 u0) := fun y => (y.cell lB).trans c0
          have qa1 : ∀ y : Later wr, y.wd.cell? ⟨B, k * 10 + 1, none⟩ = some (.int .i64 u1) := fun y => (y.cell lB).trans c1
          have qa2 : ∀ y : Later wr, y.wd.cell? ⟨B, k * 10 + 2, none⟩ = some (.int .i64 u2) := fun y => (y.cell lB).trans c2
          have qa3 : ∀ y : Later wr, y.wd.cell? ⟨B, k * 10 + 3, none⟩ = some (.int .i64 u3) := fun y => (y.cell lB).trans c3
          have qa4 : ∀ y : Later wr, y.wd.cell? ⟨B, k * 10 + 4, none⟩ = some (.int .i64 u4) := fun y => (y.cell lB).trans c4
          have qa5 : ∀ y : Later wr, y.wd.cell? ⟨B, k * 10 + 5, none⟩ = some (.int .i64 u5) := fun y => (y.cell lB).trans c5
          have qa6 : ∀ y : Later wr, y.wd.cell? ⟨B, k * 10 + 6, none⟩ = some (.int .i64 u6) := fun y => (y.cell lB).trans c6
          have qa7 : ∀ y : Later wr, y.wd.cell? ⟨B, k * 10 + 7, none⟩ = some (.int .i64 u7) := fun y => (y.cell lB).trans c7
          have qa8 : ∀ y : Later wr, y.wd.cell? ⟨B, k * 10 + 8, none⟩ = some (.int .i64 u8) := fun y => (y.cell lB).trans c8
          have qa9 : ∀ y : Later wr, y.wd.cell? ⟨B, k * 10 + 9, none⟩ = some (.int .i64 u9) := fun y => (y.cell lB).trans c9
          have qb0 : ∀ y : Later wr, y.wd.cell? ⟨B, s * 10, none⟩ = some (.int .i64 v0) := fun y => (y.cell lB).trans e0
          have qb1 : ∀ y : Later wr, y.wd.cell? ⟨B, s * 10 + 1, none⟩ = some (.int .i64 v1) := fun y => (y.cell lB).trans e1
          have qb2 : ∀ y : Later wr, y.wd.cell? ⟨B, s * 10 + 2, none⟩ = some (.int .i64 v2) := fun y => (y.cell lB).trans e2
          have qb3 : ∀ y : Later wr, y.wd.cell? ⟨B, s * 10 + 3, none⟩ = some (.int .i64 v3) := fun y => (y.cell lB).trans e3
          have qb4 : ∀ y : Later wr, y.wd.cell? ⟨B, s * 10 + 4, none⟩ = some (.int .i64 v4) := fun y => (y.cell lB).trans e4
          have qb5 : ∀ y : Later wr, y.wd.cell? ⟨B, s * 10 + 5, none⟩ = some (.int .i64 v5) := fun y => (y.cell lB).trans e5
          have qb6 : ∀ y : Later wr, y.wd.cell? ⟨B, s * 10 + 6, none⟩ = some (.int .i64 v6) := fun y => (y.cell lB).trans e6
          have qb7 : ∀ y : Later wr, y.wd.cell? ⟨B, s * 10 + 7, none⟩ = some (.int .i64 v7) := fun y => (y.cell lB).trans e7
          have qb8 : ∀ y : Later wr, y.wd.cell? ⟨B, s * 10 + 8, none⟩ = some (.int .i64 v8) := fun y => (y.cell lB).trans e8
          have qb9 : ∀ y : Later wr, y.wd.cell? ⟨B, s * 10 + 9, none⟩ = some (.int .i64 v9) := fun y => (y.cell lB).trans e9
          clear hif his hne 
          go_wp2_with fail
          refine Rg.wp_region_late (by kernel_rfl) [0, 1, 2, 3, 4, 5, 6, 7, 8, 10, 11, 12] [9, 13] [14, 15, 16, 17] [15, 17] (by kernel_rfl) (by kernel_rfl) (by kernel_rfl) (fun w' => ∃ y : Later wr, w' = y.wd) (fun c a a' w hd h => ⟨hd.symm.trans h.1, h.2⟩) ⟨⟨_, fx0⟩, rfl⟩ ?_
          simp only [Rg.picks, List.getElem?_cons_succ, List.getElem?_cons_zero, Option.toList, List.cons_append, List.nil_append]
          repeat (quiet_step (fail))
          refine wpQuiet_nil ?_
          repeat (quiet_step (fail))
          try refine wpQuiet_nil ?_
          simp only [Rg.pickn, List.getElem?_cons_succ, List.getElem?_cons_zero, Option.toList, List.map_cons, List.map_nil, List.cons_append, List.nil_append]
          clear qa0 qb0 qa1 qb1 qa2 qb2 qa3 qb3 qa4 qb4 qa5 qb5 qa6 qb6 qa7 qb7 qa8 qb8 qa9 qb9
          refine Rg.wpNr_step (fun K hK => ?_)
          go_simp
          refine hK _ _ (fun _ h => h) ?_
          clear hK K
          refine Rg.wpNr_step (fun K hK => ?_)
          go_simp
          refine hK _ _ (fun h => absurd h (by decide)) ?_
          clear hK K
          have h2 : SR W (((((((((((wr.setCell ⟨B, k * 10, none⟩ (.int .i64 v0)).setCell ⟨B, k * 10 + 1, none⟩ (.int .i64 v1)).setCell ⟨B, k * 10 + 2, none⟩ (.int .i64 v2)).setCell ⟨B, k * 10 + 3, none⟩ (.int .i64 v3)).setCell ⟨B, k * 10 + 4, none⟩ (.int .i64 v4)).setCell ⟨B, k * 10 + 5, none⟩ (.int .i64 v5)).setCell ⟨B, k * 10 + 6, none⟩ (.int .i64 v6)).setCell ⟨B, k * 10 + 7, none⟩ (.int .i64 v7)).setCell ⟨B, k * 10 + 8, none⟩ (.int .i64 v8)).setCell ⟨B, k * 10 + 9, none⟩ (.int .i64 v9))).drew B N1 N2 now age tail ((dd).set k ⟨⟨v0, v1, v2, v3, ⟨v4, v5, v6, v7⟩⟩, v8, v9⟩) := (HS.out.set (x := ⟨⟨v0, v1, v2, v3, ⟨v4, v5, v6, v7⟩⟩, v8, v9⟩) hlen1.out HRV.out).later ((Below.refl _ _).drew)
          clear c0 e0 c1 e1 c2 e2 c3 e3 c4 e4 c5 e5 c6 e6 c7 e7 c8 e8 c9 e9 fz lB
          generalize (((((((((((wr.setCell ⟨B, k * 10, none⟩ (.int .i64 v0)).setCell ⟨B, k * 10 + 1, none⟩ (.int .i64 v1)).setCell ⟨B, k * 10 + 2, none⟩ (.int .i64 v2)).setCell ⟨B, k * 10 + 3, none⟩ (.int .i64 v3)).setCell ⟨B, k * 10 + 4, none⟩ (.int .i64 v4)).setCell ⟨B, k * 10 + 5, none⟩ (.int .i64 v5)).setCell ⟨B, k * 10 + 6, none⟩ (.int .i64 v6)).setCell ⟨B, k * 10 + 7, none⟩ (.int .i64 v7)).setCell ⟨B, k * 10 + 8, none⟩ (.int .i64 v8)).setCell ⟨B, k * 10 + 9, none⟩ (.int .i64 v9))).drew = w2 at h2 ⊢
          have H2 := Lib.hid h2
          have his2 := (List.getElem?_set_ne HNE.out (l := dd) (a := ⟨⟨v0, v1, v2, v3, ⟨v4, v5, v6, v7⟩⟩, v8, v9⟩)).trans HIS.out
          obtain ⟨e0, e1, e2, e3, e4, e5, e6, e7, e8, e9⟩ := h2.at his2 w2 (Below.refl _ _)
          have lB := lt_of_block h2.blk
          have fz := frozen_of_block h2.blk
          have hl2 := Lib.hid (List.getElem?_eq_some_iff.1 his2).1
          clear h2 his2
          refine Rg.wpNr_step (fun K hK => ?_)
          go_simp
          refine hK _ _ (fun _ h => h) ?_
          clear hK K
          refine Rg.wpNr_step (fun K hK => ?_)
          go_simp
          refine hK _ _ (fun h => absurd h (by decide)) ?_
          clear hK K
          have h3 : SR W (((((((((((w2.setCell ⟨B, s * 10, none⟩ (.int .i64 u0)).setCell ⟨B, s * 10 + 1, none⟩ (.int .i64 u1)).setCell ⟨B, s * 10 + 2, none⟩ (.int .i64 u2)).setCell ⟨B, s * 10 + 3, none⟩ (.int .i64 u3)).setCell ⟨B, s * 10 + 4, none⟩ (.int .i64 u4)).setCell ⟨B, s * 10 + 5, none⟩ (.int .i64 u5)).setCell ⟨B, s * 10 + 6, none⟩ (.int .i64 u6)).setCell ⟨B, s * 10 + 7, none⟩ (.int .i64 u7)).setCell ⟨B, s * 10 + 8, none⟩ (.int .i64 u8)).setCell ⟨B, s * 10 + 9, none⟩ (.int .i64 u9))) B N1 N2 now age tail (Ss.swap (dd) k s ⟨⟨u0, u1, u2, u3, ⟨u4, u5, u6, u7⟩⟩, u8, u9⟩ ⟨⟨v0, v1, v2, v3, ⟨v4, v5, v6, v7⟩⟩, v8, v9⟩) := H2.out.set (x := ⟨⟨u0, u1, u2, u3, ⟨u4, u5, u6, u7⟩⟩, u8, u9⟩) hl2.out HRU.out
          clear e0 e1 e2 e3 e4 e5 e6 e7 e8 e9 fz lB
          generalize ((((((((((w2.setCell ⟨B, s * 10, none⟩ (.int .i64 u0)).setCell ⟨B, s * 10 + 1, none⟩ (.int .i64 u1)).setCell ⟨B, s * 10 + 2, none⟩ (.int .i64 u2)).setCell ⟨B, s * 10 + 3, none⟩ (.int .i64 u3)).setCell ⟨B, s * 10 + 4, none⟩ (.int .i64 u4)).setCell ⟨B, s * 10 + 5, none⟩ (.int .i64 u5)).setCell ⟨B, s * 10 + 6, none⟩ (.int .i64 u6)).setCell ⟨B, s * 10 + 7, none⟩ (.int .i64 u7)).setCell ⟨B, s * 10 + 8, none⟩ (.int .i64 u8)).setCell ⟨B, s * 10 + 9, none⟩ (.int .i64 u9)) = w3 at h3 ⊢
          have H3 := Lib.hid h3
          clear h3
          simp only [Rg.wpNr]
          have HCH := Lib.hid (show Up (lw now age) a (k + 1) ⟨⟨u0, u1, u2, u3, ⟨u4, u5, u6, u7⟩⟩, u8, u9⟩ d (Ss.swap dd k s ⟨⟨u0, u1, u2, u3, ⟨u4, u5, u6, u7⟩⟩, u8, u9⟩ ⟨⟨v0, v1, v2, v3, ⟨v4, v5, v6, v7⟩⟩, v8, v9⟩) ∧ Chg (lw now age) a b d (Ss.swap dd k s ⟨⟨u0, u1, u2, u3, ⟨u4, u5, u6, u7⟩⟩, u8, u9⟩ ⟨⟨v0, v1, v2, v3, ⟨v4, v5, v6, v7⟩⟩, v8, v9⟩) by
            have hs := HKS.out
            subst hs
            have hki := HKI.out
            exact ⟨HL.out.1.step HIS.out, HL.out.2.trans ((Chg.swap (lw_swo now age) HIF.out HIS.out HLT.out).mono (by omega) (by omega))⟩)
          have hs := HKS.out
          go_wp2_with fail
          refine ⟨⟨k + 1, _, by omega, ?_, by go_num, Lib.hid H3.out, Lib.hid HCH.out⟩, ?_⟩
          · have h8 := HKI.out
            omega
          · have h8 := HKI.out
            simp [intOf]
            omega
        · have d3 : decide ((k : Int) < (i : Int) - 1) = false := by simp; omega
          have HFIN := Lib.hid (show SortedIn (lw now age) a b dd from HL.out.1.done (lw_swo now age) (by omega) (by rw [HM.out]; exact HM.out ▸ HSD.out) (fun q z a1 a2 a3 => HLO.out q z (by have := HM.out; omega) (by omega) a3) (fun q z a1 a2 a3 => HHI.out q z (by omega) a2 a3))
          clear hk
          go_wp2_with fail
          first | go_end0 | (refine bodyPost_ret (results_none rfl _ _ _) rfl ?_)
          exact ⟨rfl, dd, HS.out, HL.out.2, HFIN.out⟩
set_option maxRecDepth 100000 in
set_option maxHeartbeats 8000000 in
theorem merge_dn (h : SR W w B N1 N2 now age tail d) (a m t cap : Nat) (ham : a + 1 < m) (hb : m + 1 ≤ t) (ht : d.length = t) (hc : t ≤ cap) (hsd : SortedIn (lw now age) a m d) :
    Calls Try.prog 38 #[.slice (some ⟨B, 0, none⟩) t cap, .int .i64 a, .int .i64 m, .int .i64 ((m + 1 : Nat) : Int), .func (.func 28) #[] #[.pointer (some ⟨N1, 0, none⟩), .pointer (some ⟨N2, 0, none⟩)]] w fun e w' => e = .returned (.tuple #[]) ∧ ∃ d', SR W w' B N1 N2 now age tail d' ∧ Chg (lw now age) a (m + 1) d d' ∧ SortedIn (lw now age) a (m + 1) d' := by
  have hml := h.len
  rw [ht] at hml
  obtain ⟨y, hy⟩ := get_of_lt (d := d) (i := m) (by omega)
  obtain ⟨b, hbe⟩ : ∃ b, m + 1 = b := ⟨_, rfl⟩
  have H := Lib.hid h; have HT := Lib.hid ht; have HSD := Lib.hid hsd; have HY := Lib.hid hy; have HB := Lib.hid hbe
  rw [hbe]
  have e0 : ((m : Int) - a == 1) = false := by simp; omega
  have e0' : ¬ (m : Int) - a = 1 := by omega
  have e1 : ((b : Int) - m == 1) = true := by simp; omega
  have e1' : (b : Int) - m = 1 := by omega
  have mt : m < t := by omega
  have ham' : a < m := by omega
  clear h ht hsd hy hbe ham
  go_enter Try.func38, Try.ntmps38
  go_wp2_with fail
  go_loopw [14, 15] (fun iv jv wr => ∃ i j : Nat, a ≤ i ∧ i ≤ j ∧ j ≤ m ∧ iv = .int .i64 i ∧ jv = .int .i64 j ∧ Hid (SR W wr B N1 N2 now age tail d) ∧ Hid (∀ q z, a ≤ q → q < i → d[q]? = some z → lw now age y z = false) ∧ Hid (∀ q z, j ≤ q → q < m → d[q]? = some z → lw now age y z = true)) (fun iv jv _ => (intOf jv).toNat - (intOf iv).toNat)
  case atStart => exact ⟨a, m, Nat.le_refl _, by omega, Nat.le_refl _, rfl, rfl, Lib.hid H.out, Lib.hid (fun q z h1 h2 => by omega), Lib.hid (fun q z h1 h2 => by omega)⟩
  case round =>
    obtain ⟨i, j, h1, h2, h3, rfl, rfl, HS, HLO, HHI⟩ := hrel
    by_cases hij : i < j
    · have d1 : decide ((i : Int) < j) = true := by simp; omega
      have d2 : decide (i < j) = true := by simp; omega
      have HIJ := Lib.hid hij
      obtain ⟨hh, hhe⟩ : ∃ hh, (i + j) / 2 = hh := ⟨_, rfl⟩
      obtain ⟨x, hx⟩ := get_of_lt (d := d) (i := hh) (by have := HT.out; omega)
      have HX := Lib.hid hx
      have e3 : ((i : Int) + j) / 2 = (hh : Int) := by omega
      have hih : i ≤ hh := by omega
      have hhj : hh < j := by omega
      have hht : hh < t := by have := HT.out; omega
      clear hx hij hhe
      go_upto_region 17 with fail
      clear e3
      have HCMP := Lib.hid (fun w' (hw' : Below wr.heap.size wr w') => cmp_z (HS.out.later hw') y x (HS.out.ok _ (List.mem_of_getElem? HY.out)) (HS.out.ok _ (List.mem_of_getElem? HX.out)))
      obtain ⟨cv, hcv⟩ : ∃ cv, compareF y x now age = cv := ⟨_, rfl⟩
      have HCV := Lib.hid (show lw now age y x = decide (cv < 0) by rw [← hcv]; rfl)
      rw [hcv] at HCMP
      clear hcv
      obtain ⟨c0, c1, c2, c3, c4, c5, c6, c7, c8, c9⟩ := HS.out.at HY.out wr (Below.refl _ _)
      obtain ⟨e0, e1, e2, e3, e4, e5, e6, e7, e8, e9⟩ := HS.out.at HX.out wr (Below.refl _ _)
      have lB := lt_of_block HS.out.blk
      have qa0 : ∀ z9 : Later wr, z9.wd.cell? ⟨B, m * 10, none⟩ = some (.int .i64 y.job.id) := fun z9 => (z9.cell lB).trans c0
      have qa1 : ∀ z9 : Later wr, z9.wd.cell? ⟨B, m * 10 + 1, none⟩ = some (.int .i64 y.job.queue) := fun z9 => (z9.cell lB).trans c1
      have qa2 : ∀ z9 : Later wr, z9.wd.cell? ⟨B, m * 10 + 2, none⟩ = some (.int .i64 y.job.prio) := fun z9 => (z9.cell lB).trans c2
      have qa3 : ∀ z9 : Later wr, z9.wd.cell? ⟨B, m * 10 + 3, none⟩ = some (.int .i64 y.job.runtime) := fun z9 => (z9.cell lB).trans c3
      have qa4 : ∀ z9 : Later wr, z9.wd.cell? ⟨B, m * 10 + 4, none⟩ = some (.int .i64 y.job.shape.gpus) := fun z9 => (z9.cell lB).trans c4
      have qa5 : ∀ z9 : Later wr, z9.wd.cell? ⟨B, m * 10 + 5, none⟩ = some (.int .i64 y.job.shape.cpus) := fun z9 => (z9.cell lB).trans c5
      have qa6 : ∀ z9 : Later wr, z9.wd.cell? ⟨B, m * 10 + 6, none⟩ = some (.int .i64 y.job.shape.mn) := fun z9 => (z9.cell lB).trans c6
      have qa7 : ∀ z9 : Later wr, z9.wd.cell? ⟨B, m * 10 + 7, none⟩ = some (.int .i64 y.job.shape.mx) := fun z9 => (z9.cell lB).trans c7
      have qa8 : ∀ z9 : Later wr, z9.wd.cell? ⟨B, m * 10 + 8, none⟩ = some (.int .i64 y.since) := fun z9 => (z9.cell lB).trans c8
      have qa9 : ∀ z9 : Later wr, z9.wd.cell? ⟨B, m * 10 + 9, none⟩ = some (.int .i64 y.number) := fun z9 => (z9.cell lB).trans c9
      have qb0 : ∀ z9 : Later wr, z9.wd.cell? ⟨B, hh * 10, none⟩ = some (.int .i64 x.job.id) := fun z9 => (z9.cell lB).trans e0
      have qb1 : ∀ z9 : Later wr, z9.wd.cell? ⟨B, hh * 10 + 1, none⟩ = some (.int .i64 x.job.queue) := fun z9 => (z9.cell lB).trans e1
      have qb2 : ∀ z9 : Later wr, z9.wd.cell? ⟨B, hh * 10 + 2, none⟩ = some (.int .i64 x.job.prio) := fun z9 => (z9.cell lB).trans e2
      have qb3 : ∀ z9 : Later wr, z9.wd.cell? ⟨B, hh * 10 + 3, none⟩ = some (.int .i64 x.job.runtime) := fun z9 => (z9.cell lB).trans e3
      have qb4 : ∀ z9 : Later wr, z9.wd.cell? ⟨B, hh * 10 + 4, none⟩ = some (.int .i64 x.job.shape.gpus) := fun z9 => (z9.cell lB).trans e4
      have qb5 : ∀ z9 : Later wr, z9.wd.cell? ⟨B, hh * 10 + 5, none⟩ = some (.int .i64 x.job.shape.cpus) := fun z9 => (z9.cell lB).trans e5
      have qb6 : ∀ z9 : Later wr, z9.wd.cell? ⟨B, hh * 10 + 6, none⟩ = some (.int .i64 x.job.shape.mn) := fun z9 => (z9.cell lB).trans e6
      have qb7 : ∀ z9 : Later wr, z9.wd.cell? ⟨B, hh * 10 + 7, none⟩ = some (.int .i64 x.job.shape.mx) := fun z9 => (z9.cell lB).trans e7
      have qb8 : ∀ z9 : Later wr, z9.wd.cell? ⟨B, hh * 10 + 8, none⟩ = some (.int .i64 x.since) := fun z9 => (z9.cell lB).trans e8
      have qb9 : ∀ z9 : Later wr, z9.wd.cell? ⟨B, hh * 10 + 9, none⟩ = some (.int .i64 x.number) := fun z9 => (z9.cell lB).trans e9
      clear c0 e0 c1 e1 c2 e2 c3 e3 c4 e4 c5 e5 c6 e6 c7 e7 c8 e8 c9 e9 
      go_wp2_with fail
      refine wp_region_later (by kernel_rfl) (by kernel_rfl) ?_
      repeat (quiet_step (exact Calls.later (HCMP.out _ (Later.bel _))))
      refine wpQuiet_nil ?_
      rintro w1 ⟨⟨_, hb1⟩, rfl⟩
      have HS1 := Lib.hid (HS.out.later hb1)
      clear qa0 qb0 qa1 qb1 qa2 qb2 qa3 qb3 qa4 qb4 qa5 qb5 qa6 qb6 qa7 qb7 qa8 qb8 qa9 qb9 HCMP HS lB
      have HS := HS1
      clear HS1 hb1
      by_cases hcl : cv < 0
      · have dn : (!decide (cv < 0)) = false := by simp; omega
        have HLT := Lib.hid (HCV.out.trans (by simpa using hcl : decide (cv < 0) = true))
        have HNL := Lib.hid (show ∀ q z, hh ≤ q → q < m → d[q]? = some z → lw now age y z = true from fun q z a1 a2 a3 =>
          (lw_swo now age).lt_le HLT.out (HSD.out.le (lw_swo now age) (p := hh) (q := q) (by omega) a1 a2 x z HX.out a3))
        go_wp2_with fail
        all_goals first | exact ⟨⟨i, hh, h1, by omega, by omega, rfl, by go_num, Lib.hid HS.out, Lib.hid HLO.out, Lib.hid HNL.out⟩, by simp [intOf]; omega⟩ | (rename_i h9; exact absurd (h9.symm.trans dn) (by decide))
      · have dn : (!decide (cv < 0)) = true := by simp; omega
        have HLT := Lib.hid (HCV.out.trans (by simpa using hcl : decide (cv < 0) = false))
        have HNL := Lib.hid (show ∀ q z, a ≤ q → q < hh + 1 → d[q]? = some z → lw now age y z = false from fun q z a1 a2 a3 =>
          (lw_swo now age).ntr y x z HLT.out (HSD.out.le (lw_swo now age) (p := q) (q := hh) a1 (by omega) (by omega) z x a3 HX.out))
        go_wp2_with fail
        all_goals first | exact ⟨⟨hh + 1, j, by omega, by omega, h3, by go_num, rfl, Lib.hid HS.out, Lib.hid HNL.out, Lib.hid HHI.out⟩, by simp [intOf]; omega⟩ | (rename_i h9; exact absurd (h9.symm.trans dn) (by decide))
    · obtain rfl : i = j := by omega
      have d1 : decide ((i : Int) < i) = false := by simp
      clear hij
      go_wp2_with fail
      go_loopw [17] (fun kv wx => ∃ (k : Nat) (dd : List Wt), i ≤ k ∧ k ≤ m ∧ kv = .int .i64 k ∧ Hid (SR W wx B N1 N2 now age tail dd) ∧ Hid (Dn (lw now age) m k y d dd ∧ Chg (lw now age) a b d dd)) (fun kv _ => (intOf kv).toNat)
      case atStart => exact ⟨m, d, h3, Nat.le_refl _, rfl, Lib.hid HS.out, Lib.hid ⟨Dn.start HY.out, Chg.refl _ _ _⟩⟩
      case round =>
        clear HS
        obtain ⟨k, dd, h4, h5, rfl, HS, HL⟩ := hrel
        by_cases hk : i < k
        · obtain ⟨s, hs⟩ : ∃ s, s + 1 = k := ⟨k - 1, by omega⟩
          have hlen : dd.length = t := HL.out.2.len.trans HT.out
          obtain ⟨x, hx⟩ := get_of_lt (d := dd) (i := s) (by omega)
          have HLT := Lib.hid (show lw now age y x = true by
            have e := HL.out.1.rest s (by omega)
            rw [hx] at e
            exact HHI.out s x (by omega) (by omega) e.symm)
          have d3 : decide ((i : Int) < (k : Int)) = true := by simp; omega
          have d4 : decide (i < k) = true := by simp; omega
          have hw1 : IntKind.i64.wrap ((k : Int) - 1) = (s : Int) := by rw [IntKind.wrap_i64]; omega
          have HKS := Lib.hid hs; have HKI := Lib.hid hk
          have hkt : k < t := by omega
          have hst : s < t := by omega
          have hif := HL.out.1.here
          have his := hx
          have hne : k ≠ s := by omega
          obtain ⟨⟨u0, u1, u2, u3, ⟨u4, u5, u6, u7⟩⟩, u8, u9⟩ := y
          obtain ⟨⟨v0, v1, v2, v3, ⟨v4, v5, v6, v7⟩⟩, v8, v9⟩ := x
          clear hs hlen hx hk
          have HIF := Lib.hid hif; have HIS := Lib.hid his; have HNE := Lib.hid hne
          have hlen1 := Lib.hid (List.getElem?_eq_some_iff.1 hif).1
          have HRU := Lib.hid (HS.out.ok _ (List.mem_of_getElem? hif)); have HRV := Lib.hid (HS.out.ok _ (List.mem_of_getElem? his))
          obtain ⟨c0, c1, c2, c3, c4, c5, c6, c7, c8, c9⟩ := HS.out.at hif wr (Below.refl _ _)
          obtain ⟨e0, e1, e2, e3, e4, e5, e6, e7, e8, e9⟩ := HS.out.at his wr (Below.refl _ _)
          have lB := lt_of_block HS.out.blk
          have fz := frozen_of_block HS.out.blk
          have fx0 := (Below.refl wr.heap.size wr).drew
          have qa0 : ∀ y : Later wr, y.wd.cell? ⟨B, k * 10, none⟩ = some (.int .i64 u0) := fun y => (y.cell lB).trans c0
          have qa1 : ∀ y : Later wr, y.wd.cell? ⟨B, k * 10 + 1, none⟩ = some (.int .i64 u1) := fun y => (y.cell lB).trans c1
          have qa2 : ∀ y : Later wr, y.wd.cell? ⟨B, k * 10 + 2, none⟩ = some (.int .i64 u2) := fun y => (y.cell lB).trans c2
          have qa3 : ∀ y : Later wr, y.wd.cell? ⟨B, k * 10 + 3, none⟩ = some (.int .i64 u3) := fun y => (y.cell lB).trans c3
          have qa4 : ∀ y : Later wr, y.wd.cell? ⟨B, k * 10 + 4, none⟩ = some (.int .i64 u4) := fun y => (y.cell lB).trans c4
          have qa5 : ∀ y : Later wr, y.wd.cell? ⟨B, k * 10 + 5, none⟩ = some (.int .i64 u5) := fun y => (y.cell lB).trans c5
          have qa6 : ∀ y : Later wr, y.wd.cell? ⟨B, k * 10 + 6, none⟩ = some (.int .i64 u6) := fun y => (y.cell lB).trans c6
          have qa7 : ∀ y : Later wr, y.wd.cell? ⟨B, k * 10 + 7, none⟩ = some (.int .i64 u7) := fun y => (y.cell lB).trans c7
          have qa8 : ∀ y : Later wr, y.wd.cell? ⟨B, k * 10 + 8, none⟩ = some (.int .i64 u8) := fun y => (y.cell lB).trans c8
          have qa9 : ∀ y : Later wr, y.wd.cell? ⟨B, k * 10 + 9, none⟩ = some (.int .i64 u9) := fun y => (y.cell lB).trans c9
          have qb0 : ∀ y : Later wr, y.wd.cell? ⟨B, s * 10, none⟩ = some (.int .i64 v0) := fun y => (y.cell lB).trans e0
          have qb1 : ∀ y : Later wr, y.wd.cell? ⟨B, s * 10 + 1, none⟩ = some (.int .i64 v1) := fun y => (y.cell lB).trans e1
          have qb2 : ∀ y : Later wr, y.wd.cell? ⟨B, s * 10 + 2, none⟩ = some (.int .i64 v2) := fun y => (y.cell lB).trans e2
          have qb3 : ∀ y : Later wr, y.wd.cell? ⟨B, s * 10 + 3, none⟩ = some (.int .i64 v3) := fun y => (y.cell lB).trans e3
          have qb4 : ∀ y : Later wr, y.wd.cell? ⟨B, s * 10 + 4, none⟩ = some (.int .i64 v4) := fun y => (y.cell lB).trans e4
          have qb5 : ∀ y : Later wr, y.wd.cell? ⟨B, s * 10 + 5, none⟩ = some (.int .i64 v5) := fun y => (y.cell lB).trans e5
          have qb6 : ∀ y : Later wr, y.wd.cell? ⟨B, s * 10 + 6, none⟩ = some (.int .i64 v6) := fun y => (y.cell lB).trans e6
          have qb7 : ∀ y : Later wr, y.wd.cell? ⟨B, s * 10 + 7, none⟩ = some (.int .i64 v7) := fun y => (y.cell lB).trans e7
          have qb8 : ∀ y : Later wr, y.wd.cell? ⟨B, s * 10 + 8, none⟩ = some (.int .i64 v8) := fun y => (y.cell lB).trans e8
          have qb9 : ∀ y : Later wr, y.wd.cell? ⟨B, s * 10 + 9, none⟩ = some (.int .i64 v9) := fun y => (y.cell lB).trans e9
          clear hif his hne 
          go_wp2_with fail
          refine Rg.wp_region_late (by kernel_rfl) [0, 1, 2, 3, 4, 5, 6, 7, 8, 10, 11, 12] [9, 13] [14, 15, 16, 17] [15, 17] (by kernel_rfl) (by kernel_rfl) (by kernel_rfl) (fun w' => ∃ y : Later wr, w' = y.wd) (fun c a a' w hd h => ⟨hd.symm.trans h.1, h.2⟩) ⟨⟨_, fx0⟩, rfl⟩ ?_
          simp only [Rg.picks, List.getElem?_cons_succ, List.getElem?_cons_zero, Option.toList, List.cons_append, List.nil_append]
          repeat (quiet_step (fail))
          refine wpQuiet_nil ?_
          repeat (quiet_step (fail))
          try refine wpQuiet_nil ?_
          simp only [Rg.pickn, List.getElem?_cons_succ, List.getElem?_cons_zero, Option.toList, List.map_cons, List.map_nil, List.cons_append, List.nil_append]
          clear qa0 qb0 qa1 qb1 qa2 qb2 qa3 qb3 qa4 qb4 qa5 qb5 qa6 qb6 qa7 qb7 qa8 qb8 qa9 qb9
          refine Rg.wpNr_step (fun K hK => ?_)
          go_simp
          refine hK _ _ (fun _ h => h) ?_
          clear hK K
          refine Rg.wpNr_step (fun K hK => ?_)
          go_simp
          refine hK _ _ (fun h => absurd h (by decide)) ?_
          clear hK K
          have h2 : SR W (((((((((((wr.setCell ⟨B, k * 10, none⟩ (.int .i64 v0)).setCell ⟨B, k * 10 + 1, none⟩ (.int .i64 v1)).setCell ⟨B, k * 10 + 2, none⟩ (.int .i64 v2)).setCell ⟨B, k * 10 + 3, none⟩ (.int .i64 v3)).setCell ⟨B, k * 10 + 4, none⟩ (.int .i64 v4)).setCell ⟨B, k * 10 + 5, none⟩ (.int .i64 v5)).setCell ⟨B, k * 10 + 6, none⟩ (.int .i64 v6)).setCell ⟨B, k * 10 + 7, none⟩ (.int .i64 v7)).setCell ⟨B, k * 10 + 8, none⟩ (.int .i64 v8)).setCell ⟨B, k * 10 + 9, none⟩ (.int .i64 v9))).drew B N1 N2 now age tail ((dd).set k ⟨⟨v0, v1, v2, v3, ⟨v4, v5, v6, v7⟩⟩, v8, v9⟩) := (HS.out.set (x := ⟨⟨v0, v1, v2, v3, ⟨v4, v5, v6, v7⟩⟩, v8, v9⟩) hlen1.out HRV.out).later ((Below.refl _ _).drew)
          clear c0 e0 c1 e1 c2 e2 c3 e3 c4 e4 c5 e5 c6 e6 c7 e7 c8 e8 c9 e9 fz lB
          generalize (((((((((((wr.setCell ⟨B, k * 10, none⟩ (.int .i64 v0)).setCell ⟨B, k * 10 + 1, none⟩ (.int .i64 v1)).setCell ⟨B, k * 10 + 2, none⟩ (.int .i64 v2)).setCell ⟨B, k * 10 + 3, none⟩ (.int .i64 v3)).setCell ⟨B, k * 10 + 4, none⟩ (.int .i64 v4)).setCell ⟨B, k * 10 + 5, none⟩ (.int .i64 v5)).setCell ⟨B, k * 10 + 6, none⟩ (.int .i64 v6)).setCell ⟨B, k * 10 + 7, none⟩ (.int .i64 v7)).setCell ⟨B, k * 10 + 8, none⟩ (.int .i64 v8)).setCell ⟨B, k * 10 + 9, none⟩ (.int .i64 v9))).drew = w2 at h2 ⊢
          have H2 := Lib.hid h2
          have his2 := (List.getElem?_set_ne HNE.out (l := dd) (a := ⟨⟨v0, v1, v2, v3, ⟨v4, v5, v6, v7⟩⟩, v8, v9⟩)).trans HIS.out
          obtain ⟨e0, e1, e2, e3, e4, e5, e6, e7, e8, e9⟩ := h2.at his2 w2 (Below.refl _ _)
          have lB := lt_of_block h2.blk
          have fz := frozen_of_block h2.blk
          have hl2 := Lib.hid (List.getElem?_eq_some_iff.1 his2).1
          clear h2 his2
          refine Rg.wpNr_step (fun K hK => ?_)
          go_simp
          refine hK _ _ (fun _ h => h) ?_
          clear hK K
          refine Rg.wpNr_step (fun K hK => ?_)
          go_simp
          refine hK _ _ (fun h => absurd h (by decide)) ?_
          clear hK K
          have h3 : SR W (((((((((((w2.setCell ⟨B, s * 10, none⟩ (.int .i64 u0)).setCell ⟨B, s * 10 + 1, none⟩ (.int .i64 u1)).setCell ⟨B, s * 10 + 2, none⟩ (.int .i64 u2)).setCell ⟨B, s * 10 + 3, none⟩ (.int .i64 u3)).setCell ⟨B, s * 10 + 4, none⟩ (.int .i64 u4)).setCell ⟨B, s * 10 + 5, none⟩ (.int .i64 u5)).setCell ⟨B, s * 10 + 6, none⟩ (.int .i64 u6)).setCell ⟨B, s * 10 + 7, none⟩ (.int .i64 u7)).setCell ⟨B, s * 10 + 8, none⟩ (.int .i64 u8)).setCell ⟨B, s * 10 + 9, none⟩ (.int .i64 u9))) B N1 N2 now age tail (Ss.swap (dd) k s ⟨⟨u0, u1, u2, u3, ⟨u4, u5, u6, u7⟩⟩, u8, u9⟩ ⟨⟨v0, v1, v2, v3, ⟨v4, v5, v6, v7⟩⟩, v8, v9⟩) := H2.out.set (x := ⟨⟨u0, u1, u2, u3, ⟨u4, u5, u6, u7⟩⟩, u8, u9⟩) hl2.out HRU.out
          clear e0 e1 e2 e3 e4 e5 e6 e7 e8 e9 fz lB
          generalize ((((((((((w2.setCell ⟨B, s * 10, none⟩ (.int .i64 u0)).setCell ⟨B, s * 10 + 1, none⟩ (.int .i64 u1)).setCell ⟨B, s * 10 + 2, none⟩ (.int .i64 u2)).setCell ⟨B, s * 10 + 3, none⟩ (.int .i64 u3)).setCell ⟨B, s * 10 + 4, none⟩ (.int .i64 u4)).setCell ⟨B, s * 10 + 5, none⟩ (.int .i64 u5)).setCell ⟨B, s * 10 + 6, none⟩ (.int .i64 u6)).setCell ⟨B, s * 10 + 7, none⟩ (.int .i64 u7)).setCell ⟨B, s * 10 + 8, none⟩ (.int .i64 u8)).setCell ⟨B, s * 10 + 9, none⟩ (.int .i64 u9)) = w3 at h3 ⊢
          have H3 := Lib.hid h3
          clear h3
          simp only [Rg.wpNr]
          have HEQ := Lib.hid (show Ss.swap dd k s ⟨⟨u0, u1, u2, u3, ⟨u4, u5, u6, u7⟩⟩, u8, u9⟩ ⟨⟨v0, v1, v2, v3, ⟨v4, v5, v6, v7⟩⟩, v8, v9⟩ = Ss.swap dd s (s + 1) ⟨⟨v0, v1, v2, v3, ⟨v4, v5, v6, v7⟩⟩, v8, v9⟩ ⟨⟨u0, u1, u2, u3, ⟨u4, u5, u6, u7⟩⟩, u8, u9⟩ by rw [HKS.out, swap_comm HIF.out HIS.out HNE.out])
          have HCH := Lib.hid (show Dn (lw now age) m s ⟨⟨u0, u1, u2, u3, ⟨u4, u5, u6, u7⟩⟩, u8, u9⟩ d (Ss.swap dd k s ⟨⟨u0, u1, u2, u3, ⟨u4, u5, u6, u7⟩⟩, u8, u9⟩ ⟨⟨v0, v1, v2, v3, ⟨v4, v5, v6, v7⟩⟩, v8, v9⟩) ∧ Chg (lw now age) a b d (Ss.swap dd k s ⟨⟨u0, u1, u2, u3, ⟨u4, u5, u6, u7⟩⟩, u8, u9⟩ ⟨⟨v0, v1, v2, v3, ⟨v4, v5, v6, v7⟩⟩, v8, v9⟩) by
            rw [HEQ.out]
            have hs := HKS.out
            subst hs
            have hki := HKI.out
            have hbb := HB.out
            exact ⟨HL.out.1.step HIS.out, HL.out.2.trans ((Chg.swap (lw_swo now age) HIS.out HIF.out HLT.out).mono (by omega) (by omega))⟩)
          have hs := HKS.out
          go_wp2_with fail
          exact ⟨⟨s, _, by have := HKI.out; omega, by omega, by go_num, Lib.hid H3.out, Lib.hid HCH.out⟩, by simp [intOf]; omega⟩
        · obtain rfl : i = k := by omega
          have d3 : decide ((i : Int) < (i : Int)) = false := by simp
          have HFIN := Lib.hid (show SortedIn (lw now age) a b dd by
            rw [← HB.out]
            exact HL.out.1.done (lw_swo now age) h1 HSD.out (fun q z a1 a2 a3 => HLO.out q z a1 a2 a3) (fun q z a1 a2 a3 => HHI.out q z a1 a2 a3))
          clear hk
          go_wp2_with fail
          first | go_end0 | (refine bodyPost_ret (results_none rfl _ _ _) rfl ?_)
          exact ⟨rfl, dd, HS.out, HL.out.2, HFIN.out⟩
end Go.Proofs.Ytlbneinfejnaaaa.Ss
