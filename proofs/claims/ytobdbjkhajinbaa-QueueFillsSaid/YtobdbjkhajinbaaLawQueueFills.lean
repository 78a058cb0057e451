/-
  The law QueueFills.
-/
import Derived.Test.YtobdbjkhajinbaaQueueFill
set_option linter.unusedVariables false
set_option linter.unusedSimpArgs false
namespace Go.Proofs.Ytobdbjkhajinbaa
open Go.RowKit
set_option maxRecDepth 100000 in
set_option maxHeartbeats 8000000 in
theorem queueFills_walk (v : Value) (rooms : List Int) (W : World) (hs : Rd.SliceOf W v 1 I64.cells rooms) (wr0 : ∀ x ∈ rooms, I64.wf x) (q : Int) (wq0 : (Lit.int .i64 q).wf = true) :
    Calls Try.prog 3 #[v, .int .i64 q] W fun e w' => e = .returned (.bool true) ∧ Below W.heap.size W w' := by
  clear wr0 wq0
  have hlm : rooms.length ≤ maxLen := by
    rcases id hs with ⟨_, rfl⟩ | ⟨a, cap, _, h1, h2, _⟩
    · exact Nat.zero_le _
    · omega
  obtain ⟨a, cap, rfl⟩ := hs.form
  obtain ⟨n, hn⟩ : ∃ n, rooms.length = n := ⟨_, rfl⟩
  have HS := Lib.hid hs; have HN := Lib.hid hn; have HLM := Lib.hid hlm
  rw [hn]
  clear hs hn hlm
  go_enter Try.func3, Try.ntmps3
  go_wp2_with fail
  refine (awake_any _).mono ?_
  rintro e w1 ⟨rfl, hb1⟩
  have HB1 := Lib.hid hb1
  have HS1 := Lib.hid (HS.out.later hb1)
  clear hb1
  have HRT := Lib.hid (right_any _ rooms w1 HS1.out HLM.out)
  rw [HN.out] at HRT
  go_wp2_with fail
  refine HRT.out.mono ?_
  rintro e z ⟨rfl, hz⟩
  replace hz := hz.symm
  subst hz
  cases hr : rightQ rooms with
  | false =>
    clear hr
    go_wp2_with fail
    go_ret
    exact ⟨rfl, HB1.out⟩
  | true =>
  have HR := Lib.hid hr
  clear hr HRT
  by_cases hq0 : q < 0
  · have d1 : decide (q < 0) = true := by simp; omega
    go_wp2_with fail
    go_ret
    exact ⟨rfl, HB1.out⟩
  by_cases hqn : (n : Int) ≤ q
  · have d1 : decide (q < 0) = false := by simp; omega
    have d2 : decide ((n : Int) ≤ q) = true := by simp; omega
    go_wp2_with fail
    go_ret
    exact ⟨rfl, HB1.out⟩
  have d1 : decide (q < 0) = false := by simp; omega
  have d2 : decide ((n : Int) ≤ q) = false := by simp; omega
  obtain ⟨k, rfl⟩ : ∃ k : Nat, q = k := ⟨q.toNat, by omega⟩
  have hkn : k < n := by omega
  have hkr : k < rooms.length := by rw [HN.out]; exact hkn
  obtain ⟨ri, hri⟩ : ∃ r, rooms[k]? = some r := ⟨_, List.getElem?_eq_getElem hkr⟩
  have hrb := right_ok HR.out ri (List.mem_of_getElem? hri)
  obtain ⟨r, rfl⟩ : ∃ r : Nat, ri = r := ⟨ri.toNat, by omega⟩
  have hr16 : r ≤ 16 := by omega
  have hroom : rooms.length = n := HN.out
  have hn8 : n ≤ 8 := by
    have := HR.out
    unfold rightQ at this
    simp only [Bool.and_eq_true, decide_eq_true_eq] at this
    omega
  obtain ⟨b, off, hv, hb, hat⟩ := I64.at (cap := cap) (n := n) (a := a) (by have := HS.out; rw [HN.out] at this; exact this) hri
  subst hv
  have HAT := Lib.hid hat; have HRI := Lib.hid hri; have HRM := Lib.hid hroom
  clear hq0 hqn hkr hri hrb hroom hat
  have HNW := Lib.hid (newK _ rooms W w1 HS1.out HLM.out HB1.out HR.out)
  rw [HN.out] at HNW
  go_wp2_with fail
  refine HNW.out.mono ?_
  rintro e w2 ⟨base, p, R, M, rfl, hk⟩
  rw [← rowsK_start n k] at hk
  have K2 := Lib.hid hk
  clear hk HNW
  go_wp2_with fail
  go_loopw [7, 8] (fun dv tv wr => ∃ t : Nat, t ≤ 2 ∧ tv = .int .i64 t ∧ dv = .int .i64 (t * r : Nat) ∧ Hid (QK W wr base p R M (rowsK n k []) rooms)) (fun _ tv _ => 2 - (intOf tv).toNat)
  case atStart => exact ⟨0, by omega, rfl, by simp, Lib.hid K2.out⟩
  case round =>
    obtain ⟨t, ht, rfl, rfl, hI⟩ := hrel
    by_cases ht2 : t < 2
    · have htr : t * r ≤ 16 := by
        have : t = 0 ∨ t = 1 := by omega
        rcases this with rfl | rfl <;> omega
      obtain ⟨A, hA⟩ : ∃ A, t * r = A := ⟨_, rfl⟩
      have HA := Lib.hid hA
      have dt : decide ((t : Int) < 2) = true := by simp; omega
      rw [hA] at htr ⊢
      clear hA
      go_wp2_with fail
      go_loopw [7, 9] (fun dv iv wx => ∃ i : Nat, i ≤ r ∧ iv = .int .i64 i ∧ dv = .int .i64 (A + i : Nat) ∧ Hid (QK W wx base p R M (rowsK n k (wl k A i)) rooms)) (fun _ iv _ => r - (intOf iv).toNat)
      case atStart => exact ⟨0, Nat.zero_le _, rfl, rfl, Lib.hid hI.out⟩
      case round =>
        obtain ⟨i, hi, rfl, rfl, hJ⟩ := hrel
        have c0 := HAT.out wr hJ.out.below
        have lb := Nat.lt_of_lt_of_le hb hJ.out.below.size
        by_cases hir : i < r
        · have ha := rowsK_add (n := n) (k := k) (a := A) (i := i) (rooms := rooms) (r := r) hkn HRM.out HRI.out hir
          have hadd := hJ.out.add (mkW k (A + i + 1)) (by rw [ha]; exact rowsK_few (by rw [wl_len]; omega))
          rw [ha] at hadd
          have hid : ((A + i + 1 : Nat) : Int) = ((A + i : Nat) : Int) + 1 := by omega
          have HADD := Lib.hid (show Calls Try.prog 11 #[.pointer (some ⟨p, 0, none⟩), .agg #[.int .i64 (((A + i : Nat) : Int) + 1), .int .i64 k, .int .i64 0, .int .i64 0, .int .i64 0, .int .i64 0, .int .i64 0, .int .i64 0, .int .i64 0, .int .i64 (((A + i : Nat) : Int) + 1)]] wr (fun e w' => e = .returned (.int .i64 0) ∧ QK W w' base p R M (rowsK n k (wl k A (i + 1))) rooms) by rw [← hid]; exact hadd)
          clear ha hadd hid
          go_wp2_with fail
          refine HADD.out.mono ?_
          rintro e w5 ⟨rfl, hk5⟩
          have K5 := Lib.hid hk5
          clear hk5
          go_wp2_with fail
          exact ⟨⟨i + 1, by omega, by go_num, by go_num, Lib.hid K5.out⟩, by simp [intOf]; omega⟩
        · have hire : i = r := by omega
          have hk0 := hJ.out
          rw [hire] at hk0 ⊢
          have KJ := Lib.hid hk0
          have dr : decide ((r : Int) < (r : Int)) = false := by simp
          clear hJ hk0 hire hi hir
          have hfu := rowsK_full (n := n) (k := k) (a := A) (rooms := rooms) (r := r) hkn HRM.out HRI.out
          go_upto_region 18 with fail
          have hbd : Below wr.heap.size wr wr.drew := (Below.refl _ _).drew
          have KD := Lib.hid (KJ.out.later hbd)
          have fx0 := KD.out.below
          have f0 : ∀ y : Later W, y.wd.cell? ⟨b, off + k, none⟩ = some (.int .i64 r) := fun y => HAT.out y.wd y.bel
          have lb2 : ∀ y : Later W, b < y.wd.heap.size := fun y => Nat.lt_of_lt_of_le hb y.bel.size
          clear c0 lb hbd
          refine Rg.wp_region_tree (by kernel_rfl) [0, 1, 2, 3] (.one 4 (.pick 5 (.pick 6 (.pick 7 (.pick 8 (.one 9 (.pick 10 (.pick 11 (.pick 12 (.pick 13 (.pick 14 (.pick 16 (.pick 17 (.pick 18 (.pick 19 (.one 15 (.pick 20 (.pick 21 (.fin []))))))))))))))))))) 22 (by kernel_rfl) (by kernel_rfl) (by kernel_rfl) (by kernel_rfl) (fun w' => ∃ y : Later W, w' = y.wd) (fun c a a' w hd h => ⟨hd.symm.trans h.1, h.2⟩) ⟨⟨_, fx0⟩, rfl⟩ ?_
          simp only [Rg.picks, List.getElem?_cons_succ, List.getElem?_cons_zero, Option.toList, List.cons_append, List.nil_append]
          iterate 4 (go_big_quiet_step (fail))
          refine wpQuiet_nil ?_
          simp only [Rg.wpQ, Rg.pickn, List.getElem?_cons_succ, List.getElem?_cons_zero, Option.toList, List.map_cons, List.map_nil, List.cons_append, List.nil_append]
          generalize wr.drew = wd at KD fx0 ⊢
          refine Rg.wp1_step (fun K hK => ?_) ⟨⟨_, KD.out.below⟩, rfl⟩
          go_simp
          have hadd := KD.out.add (wq (-1) k) (by rw [hfu]; exact rowsK_few (by rw [wl_len]; omega))
          rw [hfu] at hadd
          refine hadd.mono ?_
          rintro e w5 ⟨rfl, hk5⟩
          have K5 := Lib.hid hk5
          clear hadd hk5
          refine hK _ _ (fun _ => ⟨⟨_, K5.out.below⟩, rfl⟩) ?_
          clear hK K
          refine ⟨⟨⟨_, K5.out.below⟩, rfl⟩, ?_⟩
          go_big_quiet_step (fail)
          refine wpQuiet_nil ?_
          refine ⟨⟨⟨_, K5.out.below⟩, rfl⟩, ?_⟩
          go_big_quiet_step (fail)
          refine wpQuiet_nil ?_
          refine ⟨⟨⟨_, K5.out.below⟩, rfl⟩, ?_⟩
          go_big_quiet_step (fail)
          refine wpQuiet_nil ?_
          refine ⟨⟨⟨_, K5.out.below⟩, rfl⟩, ?_⟩
          go_big_quiet_step (fail)
          refine wpQuiet_nil ?_
          refine Rg.wp1_step (fun K hK => ?_) ⟨⟨_, K5.out.below⟩, rfl⟩
          go_simp
          have hrm := K5.out.room (k : Nat)
          rw [rowsK_room _ hkn HRM.out HRI.out, wl_len, Int.sub_self] at hrm
          refine hrm.mono ?_
          rintro e w6 ⟨rfl, hb6⟩
          have K6 := Lib.hid (K5.out.later hb6)
          clear hrm hb6
          refine hK _ _ (fun _ => ⟨⟨_, K6.out.below⟩, rfl⟩) ?_
          clear hK K
          refine ⟨⟨⟨_, K6.out.below⟩, rfl⟩, ?_⟩
          go_big_quiet_step (fail)
          refine wpQuiet_nil ?_
          refine ⟨⟨⟨_, K6.out.below⟩, rfl⟩, ?_⟩
          go_big_quiet_step (fail)
          refine wpQuiet_nil ?_
          refine ⟨⟨⟨_, K6.out.below⟩, rfl⟩, ?_⟩
          go_big_quiet_step (fail)
          refine wpQuiet_nil ?_
          refine ⟨⟨⟨_, K6.out.below⟩, rfl⟩, ?_⟩
          go_big_quiet_step (fail)
          refine wpQuiet_nil ?_
          refine ⟨⟨⟨_, K6.out.below⟩, rfl⟩, ?_⟩
          go_big_quiet_step (fail)
          refine wpQuiet_nil ?_
          refine ⟨⟨⟨_, K6.out.below⟩, rfl⟩, ?_⟩
          go_big_quiet_step (fail)
          refine wpQuiet_nil ?_
          refine ⟨⟨⟨_, K6.out.below⟩, rfl⟩, ?_⟩
          go_big_quiet_step (fail)
          refine wpQuiet_nil ?_
          refine ⟨⟨⟨_, K6.out.below⟩, rfl⟩, ?_⟩
          go_big_quiet_step (fail)
          refine wpQuiet_nil ?_
          refine ⟨⟨⟨_, K6.out.below⟩, rfl⟩, ?_⟩
          go_big_quiet_step (fail)
          refine wpQuiet_nil ?_
          refine Rg.wp1_step (fun K hK => ?_) ⟨⟨_, K6.out.below⟩, rfl⟩
          go_simp
          have hln := K6.out.len (k : Nat)
          rw [rowsK_lenQ _ hkn, wl_len] at hln
          refine hln.mono ?_
          rintro e z ⟨rfl, hz⟩
          replace hz := hz.symm
          subst hz
          clear hln
          refine hK _ _ (fun _ => ⟨⟨_, K6.out.below⟩, rfl⟩) ?_
          clear hK K
          refine ⟨⟨⟨_, K6.out.below⟩, rfl⟩, ?_⟩
          go_big_quiet_step (fail)
          refine wpQuiet_nil ?_
          refine ⟨⟨⟨_, K6.out.below⟩, rfl⟩, ?_⟩
          go_big_quiet_step (fail)
          refine wpQuiet_nil ?_
          refine Rg.wpN_list (by simp) ?_
          simp only [List.map_nil]
          clear f0 lb2 fx0 hfu
          go_wp2_with fail
          go_loopw [10] (fun iv wx => ∃ i2 : Nat, i2 ≤ r ∧ iv = .int .i64 i2 ∧ Hid (QK W wx base p R M (rowsK n k (wl k A (r - i2))) rooms)) (fun iv _ => r - (intOf iv).toNat)
          case atStart => exact ⟨0, Nat.zero_le _, rfl, Lib.hid K6.out⟩
          case round =>
            obtain ⟨i2, hi2, rfl, hL⟩ := hrel
            have c0 := HAT.out wr hL.out.below
            have lb := Nat.lt_of_lt_of_le hb hL.out.below.size
            by_cases hir : i2 < r
            · obtain ⟨m, hm⟩ : ∃ m, r - i2 = m + 1 := ⟨r - i2 - 1, by omega⟩
              have hL2 := hL.out
              rw [hm] at hL2
              obtain ⟨z, hz⟩ : ∃ z : Int, (A : Int) + (r : Int) - (i2 : Int) = z := ⟨_, rfl⟩
              have hzm : z = ((A + m + 1 : Nat) : Int) := by omega
              have hrem := hL2.remove z
              have HREM := Lib.hid (show Calls Try.prog 14 #[.pointer (some ⟨p, 0, none⟩), .int .i64 ((A : Int) + (r : Int) - (i2 : Int))] wr (fun e w' => e = .returned (.tuple #[.agg #[.int .i64 ((A : Int) + (r : Int) - (i2 : Int)), .int .i64 k, .int .i64 0, .int .i64 0, .int .i64 0, .int .i64 0, .int .i64 0, .int .i64 0, .int .i64 0, .int .i64 ((A : Int) + (r : Int) - (i2 : Int))], .int .i64 0]) ∧ QK W w' base p R M (rowsK n k (wl k A m)) rooms) by
                rw [hz]
                refine hrem.mono ?_
                rintro e w' ⟨y, cd, rows', rfl, hk', hc⟩
                rw [hzm] at hc
                obtain ⟨h1, h2, h3⟩ := rowsK_take hkn hc
                subst h1 h2 h3
                refine ⟨?_, hk'⟩
                rw [hzm]; rfl)
              have hwz : IntKind.i64.wrap ((A : Int) + (r : Int) - (i2 : Int)) = (A : Int) + (r : Int) - (i2 : Int) := by rw [wrap_eq]; unfold wrap64; omega
              have HM := Lib.hid hm
              clear hz hzm hrem hL2 hm
              go_wp2_with fail
              refine HREM.out.mono ?_
              rintro e w7 ⟨rfl, hk7⟩
              have K7 := Lib.hid hk7
              clear hk7
              go_wp2_with fail
              exact ⟨⟨i2 + 1, by omega, by go_num, Lib.hid (by rw [show r - (i2 + 1) = m from by have := HM.out; omega]; exact K7.out.later ((Below.refl _ _).alloc (Nat.le_refl _) _))⟩, by simp [intOf]; omega⟩
            · have hire : i2 = r := by omega
              have hk0 := hL.out
              rw [hire, Nat.sub_self] at hk0
              rw [hire]
              have KL := Lib.hid (show QK W wr base p R M (rowsK n k []) rooms from hk0)
              clear hL hk0 hire hi2 hir
              go_upto_region 26 with fail
              have KD := Lib.hid (KL.out.later (Below.refl wr.heap.size wr).drew)
              have fx0 := KD.out.below
              have f0 : ∀ y : Later W, y.wd.cell? ⟨b, off + k, none⟩ = some (.int .i64 r) := fun y => HAT.out y.wd y.bel
              have lb2 : ∀ y : Later W, b < y.wd.heap.size := fun y => Nat.lt_of_lt_of_le hb y.bel.size
              clear c0 lb
              refine Rg.wp_region_tree (by kernel_rfl) [0, 1, 3, 4, 5, 6] (.one 2 (.pick 7 (.pick 8 (.pick 9 (.one 10 (.pick 11 (.pick 12 (.pick 13 (.fin []))))))))) 14 (by kernel_rfl) (by kernel_rfl) (by kernel_rfl) (by kernel_rfl) (fun w' => ∃ y : Later W, w' = y.wd) (fun c a a' w hd h => ⟨hd.symm.trans h.1, h.2⟩) ⟨⟨_, fx0⟩, rfl⟩ ?_
              simp only [Rg.picks, List.getElem?_cons_succ, List.getElem?_cons_zero, Option.toList, List.cons_append, List.nil_append]
              iterate 6 (go_big_quiet_step (fail))
              refine wpQuiet_nil ?_
              simp only [Rg.wpQ, Rg.pickn, List.getElem?_cons_succ, List.getElem?_cons_zero, Option.toList, List.map_cons, List.map_nil, List.cons_append, List.nil_append]
              generalize wr.drew = wd at KD fx0 ⊢
              refine Rg.wp1_step (fun K hK => ?_) ⟨⟨_, KD.out.below⟩, rfl⟩
              go_simp
              have hrm := KD.out.room (k : Nat)
              rw [rowsK_room _ hkn HRM.out HRI.out] at hrm
              have hrm2 : ((r : Int) - (([] : List Wt).length : Int)) = r := by simp
              rw [hrm2] at hrm
              refine hrm.mono ?_
              rintro e w6 ⟨rfl, hb6⟩
              have K6 := Lib.hid (KD.out.later hb6)
              clear hrm hb6 hrm2
              refine hK _ _ (fun _ => ⟨⟨_, K6.out.below⟩, rfl⟩) ?_
              clear hK K
              refine ⟨⟨⟨_, K6.out.below⟩, rfl⟩, ?_⟩
              go_big_quiet_step (fail)
              refine wpQuiet_nil ?_
              refine ⟨⟨⟨_, K6.out.below⟩, rfl⟩, ?_⟩
              go_big_quiet_step (fail)
              refine wpQuiet_nil ?_
              refine ⟨⟨⟨_, K6.out.below⟩, rfl⟩, ?_⟩
              go_big_quiet_step (fail)
              refine wpQuiet_nil ?_
              refine Rg.wp1_step (fun K hK => ?_) ⟨⟨_, K6.out.below⟩, rfl⟩
              go_simp
              have hall := K6.out.all
              refine hall.mono ?_
              rintro e w7 ⟨v7, rfl, ho7, hb7⟩
              have hflat : (rowsK n k []).flatten.length = 0 := by rw [rowsK_start]; simp
              rw [hflat] at ho7
              obtain ⟨va, vc, rfl⟩ := own_form ho7
              have K7 := Lib.hid (K6.out.later hb7)
              clear hall ho7 hb7 hflat
              refine hK _ _ (fun _ => ⟨⟨_, K7.out.below⟩, rfl⟩) ?_
              clear hK K
              refine ⟨⟨⟨_, K7.out.below⟩, rfl⟩, ?_⟩
              go_big_quiet_step (fail)
              refine wpQuiet_nil ?_
              refine ⟨⟨⟨_, K7.out.below⟩, rfl⟩, ?_⟩
              go_big_quiet_step (fail)
              refine wpQuiet_nil ?_
              refine ⟨⟨⟨_, K7.out.below⟩, rfl⟩, ?_⟩
              go_big_quiet_step (fail)
              refine wpQuiet_nil ?_
              refine Rg.wpN_list (by simp) ?_
              simp only [List.map_nil]
              clear f0 lb2 fx0
              go_wp2_with fail
              exact ⟨⟨t + 1, by omega, by go_num, by rw [show ((t + 1) * r : Nat) = A + r by rw [Nat.add_mul, HA.out, Nat.one_mul]]; go_num, Lib.hid K7.out⟩, by simp [intOf]; omega⟩
    · obtain rfl : t = 2 := by omega
      have HF := Lib.hid hI.out.below
      go_wp2_with fail
      go_ret
      exact ⟨rfl, HF.out⟩
end Go.Proofs.Ytobdbjkhajinbaa
