/-
  The pool's Give$1, each, Take, Give.
-/
import Derived.Test.YtdmbjjladkdphaaPool2
import Derived.Test.YtdmbjjladkdphaaRegions5
import Derived.Deep.Cut
set_option linter.unusedVariables false
set_option linter.unusedSimpArgs false
namespace Go.Proofs.Ytdmbjjladkdphaa
open Go.RowKit Go.Maps
variable {w w' : World} {p T R cap M nn F D : Nat} {A fr : List Fe} {dr : List Int}

theorem wrap_eqI (n : Int) : IntKind.i64.wrap n = wrap64 n := by first | rfl | (rw [IntKind.wrap_i64]; done) | (rw [IntKind.wrap_i64]; rfl) | (rw [IntKind.wrap_i64]; unfold wrap64; omega)
theorem store4 {w : World} {b : Nat} {x z : Fe} {t : TypeId} (h : w.heap[b]? = some (.cells #[.int .i64 z.spot.node, .int .i64 z.spot.domain, .int .u64 z.mask, .int .i64 z.cpus] t (0, 0))) :
    ((((w.setCell ⟨b, 0, none⟩ (.int .i64 x.spot.node)).setCell ⟨b, 1, none⟩ (.int .i64 x.spot.domain)).setCell ⟨b, 2, none⟩ (.int .u64 x.mask)).setCell ⟨b, 3, none⟩ (.int .i64 x.cpus)).heap[b]? = some (.cells #[.int .i64 x.spot.node, .int .i64 x.spot.domain, .int .u64 x.mask, .int .i64 x.cpus] t (0, 0)) ∧
    Fr w.heap.size (fun q => q = b) w ((((w.setCell ⟨b, 0, none⟩ (.int .i64 x.spot.node)).setCell ⟨b, 1, none⟩ (.int .i64 x.spot.domain)).setCell ⟨b, 2, none⟩ (.int .u64 x.mask)).setCell ⟨b, 3, none⟩ (.int .i64 x.cpus)) :=
  ⟨setCell_block (setCell_block (setCell_block (setCell_block h 0 _) 1 _) 2 _) 3 _, ((((Fr.refl w.heap.size (fun q => q = b) w).setCell (p := ⟨b, 0, none⟩) (.inr rfl) _).setCell (p := ⟨b, 1, none⟩) (.inr rfl) _).setCell (p := ⟨b, 2, none⟩) (.inr rfl) _).setCell (p := ⟨b, 3, none⟩) (.inr rfl) _⟩

set_option maxRecDepth 100000 in
set_option maxHeartbeats 4000000 in
theorem give1_any (h : PoolAt w p T R cap M nn A F D fr dr) (k : Nat) (f : Fe) (hf : fr[k]? = some f) (s : Sl) (hs : SlOk s) (hk : posF A s.spot = some k) (al : Fe) (hal : A[k]? = some al) (B : Nat) (hB : w.cell? ⟨B, 0, none⟩ = some (.pointer (some ⟨p, 0, none⟩))) :
    Calls Try.prog 34 #[.pointer (some ⟨F, k * 4, none⟩), .agg #[.int .i64 s.spot.node, .int .i64 s.spot.domain, .int .u64 s.mask, .int .i64 s.cpus], .pointer (some ⟨B, 0, none⟩)] w (ClPost p T R cap M nn A F D fr dr k (giveF al f s) w) := by
  have H := Lib.hid h
  have HF := Lib.hid hf
  obtain ⟨hkl, hf'⟩ := List.getElem?_eq_some_iff.1 hf
  have HKL := Lib.hid hkl; have HF' := Lib.hid hf'
  have lF := h.lt (.inl (.inr (.inl rfl)))
  have lp := h.lt (.inl (.inl rfl))
  have lB := World.block_lt_of_cell? w _ hB
  simp only at lB
  have b0 := (Below.refl w.heap.size w).alloc (Nat.le_refl _) (.cells #[.int .i64 s.spot.node, .int .i64 s.spot.domain, .int .u64 s.mask, .int .i64 s.cpus] 44)
  have HB0 := Lib.hid b0
  have hat : ∀ w1 : World, Below w.heap.size w w1 → Calls Try.prog 35 #[.pointer (some ⟨T, 0, none⟩), .agg #[.int .i64 s.spot.node, .int .i64 s.spot.domain]] w1 fun e w' => e = .returned (.tuple #[.agg #[.int .i64 al.spot.node, .int .i64 al.spot.domain, .int .u64 al.mask, .int .i64 al.cpus], .int .i64 0]) ∧ Below w1.heap.size w1 w' :=
    fun w1 hb => at_some T R cap M nn A s.spot hs.1 k hk al hal w1 (h.later hb).topo
  have HAT := Lib.hid hat
  have c0 := World.alloc_heap_new w (.cells #[.int .i64 s.spot.node, .int .i64 s.spot.domain, .int .u64 s.mask, .int .i64 s.cpus] 44)
  have q0 : w.cell? ⟨p, 0, none⟩ = some (.pointer (some ⟨T, 0, none⟩)) := cell_of_block h.head 0
  clear h hf hf' hs hk hal hat
  obtain ⟨res, hres⟩ : ∃ res, giveF al f s = res := ⟨_, rfl⟩
  have HRES := Lib.hid hres
  rw [hres]
  clear hres
  go_enter Try.func34, Try.ntmps34
  go_upto_region 1 with fail
  obtain ⟨Z, hZ⟩ : ∃ Z, w.heap.size = Z := ⟨_, rfl⟩
  have HZZ := Lib.hid hZ
  have LZ := Lib.hid (lt_of_block c0)
  rw [hZ] at c0 LZ ⊢
  generalize w.alloc (.cells #[.int .i64 s.spot.node, .int .i64 s.spot.domain, .int .u64 s.mask, .int .i64 s.cpus] 44) = w1 at HB0 c0 b0 LZ ⊢
  have HC0 := Lib.hid c0
  have d0 : ∀ y : Later w1, y.wd.cell? ⟨B, 0, none⟩ = some (.pointer (some ⟨p, 0, none⟩)) := fun y => (y.cell (Nat.lt_of_lt_of_le lB b0.size)).trans ((b0.cell (p := ⟨B, 0, none⟩) lB).trans hB)
  have d1 : ∀ y : Later w1, y.wd.cell? ⟨p, 0, none⟩ = some (.pointer (some ⟨T, 0, none⟩)) := fun y => (y.cell (Nat.lt_of_lt_of_le lp b0.size)).trans ((b0.cell (p := ⟨p, 0, none⟩) lp).trans q0)
  have d2 : ∀ y : Later w1, y.wd.cell? ⟨Z, 0, none⟩ = some (.int .i64 s.spot.node) := fun y => (y.cell LZ.out).trans (cell_of_block HC0.out 0)
  have d3 : ∀ y : Later w1, y.wd.cell? ⟨Z, 1, none⟩ = some (.int .i64 s.spot.domain) := fun y => (y.cell LZ.out).trans (cell_of_block HC0.out 1)
  have lp1 := Nat.lt_of_lt_of_le lp b0.size
  have fx0 := (Below.refl w1.heap.size w1).drew
  clear q0 c0 b0 hB hZ
  go_cut [6, 7] from 8 (fun a6 a7 wy => ∃ (A1 : Nat) (wx : World), wx = wy ∧ a6 = .pointer (some ⟨A1, 0, none⟩) ∧ a7 = .int .i64 0 ∧ wx.heap[A1]? = some (.cells #[.int .i64 al.spot.node, .int .i64 al.spot.domain, .int .u64 al.mask, .int .i64 al.cpus] 45 (0, 0)) ∧ w1.heap.size ≤ A1 ∧ Below w1.heap.size w1 wx)
  case rest =>
    obtain ⟨A1, wx, rfl, rfl, rfl, hk1, hA1, hbx⟩ := hcut
    have HBX := Lib.hid (HB0.out.trans (hbx.mono HB0.out.size))
    obtain ⟨r1, r2, r3, r4⟩ := (H.out.later HBX.out).cellsOf hkl HF'.out
    have z3 := frozen_of_block (H.out.later HBX.out).row (k * 4 + 2)
    have z4 := frozen_of_block (H.out.later HBX.out).row (k * 4 + 3)
    have e2 : wx.cell? ⟨Z, 2, none⟩ = some (.int .u64 s.mask) := (hbx.cell (p := ⟨Z, 2, none⟩) LZ.out).trans (cell_of_block HC0.out 2)
    have e3 : wx.cell? ⟨Z, 3, none⟩ = some (.int .i64 s.cpus) := (hbx.cell (p := ⟨Z, 3, none⟩) LZ.out).trans (cell_of_block HC0.out 3)
    have f2 : wx.cell? ⟨A1, 2, none⟩ = some (.int .u64 al.mask) := cell_of_block hk1 2
    have f3 : wx.cell? ⟨A1, 3, none⟩ = some (.int .i64 al.cpus) := cell_of_block hk1 3
    have lZ := Nat.lt_of_lt_of_le LZ.out hbx.size
    have lA := lt_of_block hk1
    have lFx := Nat.lt_of_lt_of_le lF HBX.out.size
    have hn1 : F ≠ Z := by have := HZZ.out; omega
    have hn2 : Z ≠ F := fun e => hn1 e.symm
    clear hk1 hbx d0 d1 d2 d3 lp1 fx0
    obtain ⟨z, hz⟩ : ∃ z, Go.bits .andNot .u64 s.mask al.mask = z := ⟨_, rfl⟩
    by_cases hz0 : z = 0
    case neg =>
      have HT := Lib.hid (show giveF al f s = (3, f) by unfold giveF; rw [if_pos (by rw [hz]; exact hz0)])
      have hz1 : (z != 0) = true := by simpa using hz0
      clear hz0
      go_wp2
      go_ret
      rw [show res = _ from HRES.out.symm.trans HT.out]
      exact ClPost.same H.out HF.out 3 HBX.out
    obtain ⟨y, hy⟩ : ∃ y, Go.bits .and .u64 s.mask f.mask = y := ⟨_, rfl⟩
    by_cases hy0 : y = 0
    case neg =>
      have HT := Lib.hid (show giveF al f s = (4, f) by unfold giveF; rw [if_neg (by rw [hz]; simpa using hz0), if_pos (.inl (by rw [hy]; exact hy0))])
      have hy1 : (y != 0) = true := by simpa using hy0
      subst hz0
      clear hy0
      go_wp2_with fail
      go_quiet (fail)
      go_wp2
      go_ret
      have hb1 : Below wx.heap.size wx (wx.drewN nq) := ⟨rfl, rfl, rfl, Nat.le_refl _, fun _ _ => rfl⟩
      rw [show res = _ from HRES.out.symm.trans HT.out]
      exact ClPost.same H.out HF.out 4 (HBX.out.trans (hb1.mono HBX.out.size))
    by_cases hc : IntKind.i64.wrap (al.cpus - f.cpus) < s.cpus
    · have HT := Lib.hid (show giveF al f s = (4, f) by unfold giveF; rw [if_neg (by rw [hz]; simpa using hz0), if_pos (.inr hc)])
      have hc2 : decide (wrap64 (al.cpus - f.cpus) < s.cpus) = true := by rw [← wrap_eqI]; simpa using hc
      subst hz0 hy0
      clear hc
      go_wp2_with fail
      go_quiet (fail)
      go_wp2
      go_ret
      have hb1 : Below wx.heap.size wx (wx.drewN nq) := ⟨rfl, rfl, rfl, Nat.le_refl _, fun _ _ => rfl⟩
      rw [show res = _ from HRES.out.symm.trans HT.out]
      exact ClPost.same H.out HF.out 4 (HBX.out.trans (hb1.mono HBX.out.size))
    · have HT := Lib.hid (show giveF al f s = (0, ⟨f.spot, Go.bits .or .u64 f.mask s.mask, IntKind.i64.wrap (f.cpus + s.cpus)⟩) by unfold giveF; rw [if_neg (by rw [hz]; simpa using hz0), if_neg (by rw [hy]; simp [hy0]; omega)])
      have hc2 : decide (wrap64 (al.cpus - f.cpus) < s.cpus) = false := by rw [← wrap_eqI]; simpa using hc
      obtain ⟨m', hm'⟩ : ∃ m', Go.bits .or .u64 f.mask s.mask = m' := ⟨_, rfl⟩
      obtain ⟨c', hc'⟩ : ∃ c', IntKind.i64.wrap (f.cpus + s.cpus) = c' := ⟨_, rfl⟩
      rw [hm', hc'] at HT
      subst hz0 hy0
      clear hc
      go_wp2_with fail
      go_quiet (fail)
      have hb1 : Below wx.heap.size wx (wx.drewN nq) := ⟨rfl, rfl, rfl, Nat.le_refl _, fun _ _ => rfl⟩
      have HB1 := Lib.hid (HBX.out.trans (hb1.mono HBX.out.size))
      have e2' : (wx.drewN nq).cell? ⟨Z, 2, none⟩ = _ := e2
      have e3' : (wx.drewN nq).cell? ⟨Z, 3, none⟩ = _ := e3
      have r3' : (wx.drewN nq).cell? ⟨F, k * 4 + 2, none⟩ = _ := r3
      have r4' : (wx.drewN nq).cell? ⟨F, k * 4 + 3, none⟩ = _ := r4
      have z3' : (wx.drewN nq).frozen? ⟨F, k * 4 + 2, none⟩ = _ := z3
      have z4' : (wx.drewN nq).frozen? ⟨F, k * 4 + 3, none⟩ = _ := z4
      have lF3 : F < (wx.drewN nq).heap.size := lFx
      have lZ3 : Z < (wx.drewN nq).heap.size := lZ
      clear e2 e3 r1 r2 r3 r4 z3 z4 f2 f3 lFx lZ lA hb1
      generalize wx.drewN nq = w2 at HB1 e2' e3' r3' r4' z3' z4' lF3 lZ3 ⊢
      go_wp2_with fail
      go_region
      go_wp2_with fail
      go_region
      go_wp2
      go_ret
      rw [show res = _ from HRES.out.symm.trans HT.out]
      exact ClPost.set H.out HF.out HB1.out m' c' rfl rfl rfl rfl
  refine Rg.wp_region_tree (by kernel_rfl) [0, 1, 2, 3, 4, 5] (.two 6 (.pick 7 (.pick 8 (.pick 9 (.one 10 (.fin [11, 12]))))) 10 (.one 6 (.pick 7 (.pick 8 (.pick 9 (.fin [11, 12])))))) 12 (by kernel_rfl) (by kernel_rfl) (by kernel_rfl) (by kernel_rfl) (fun w' => ∃ y : Later w1, w' = y.wd) (fun c a a' w hd h => ⟨hd.symm.trans h.1, h.2⟩) ⟨⟨_, fx0⟩, rfl⟩ ?_
  simp only [Rg.picks, List.getElem?_cons_succ, List.getElem?_cons_zero, Option.toList, List.cons_append, List.nil_append]
  repeat (quiet_step (fail))
  refine wpQuiet_nil ?_
  clear d0 d1 d2 d3
  simp only [Rg.wpQ, Rg.pickn, List.getElem?_cons_succ, List.getElem?_cons_zero, Option.toList, List.map_cons, List.map_nil, List.cons_append, List.nil_append]
  have HX := Lib.hid fx0
  generalize w1.drew = w2 at HX ⊢
  clear fx0
  constructor
  · refine Rg.wp1_step (fun K hK => ?_) ⟨⟨_, HX.out⟩, rfl⟩
    go_simp
    refine (HAT.out _ (HB0.out.trans (HX.out.mono HB0.out.size))).mono ?_
    rintro e w3 ⟨rfl, hb3⟩
    have HX3 := Lib.hid (HX.out.trans (hb3.mono HX.out.size))
    clear hb3
    refine hK _ _ (fun _ => ⟨⟨_, HX3.out⟩, rfl⟩) ?_
    clear hK K
    refine ⟨⟨⟨_, HX3.out⟩, rfl⟩, ?_⟩
    quiet_step (fail)
    refine wpQuiet_nil ?_
    refine ⟨⟨⟨_, HX3.out⟩, rfl⟩, ?_⟩
    quiet_step (fail)
    refine wpQuiet_nil ?_
    refine ⟨⟨⟨_, HX3.out⟩, rfl⟩, ?_⟩
    quiet_step (fail)
    refine wpQuiet_nil ?_
    have hx4 := HX3.out.alloc HX3.out.size (.cells #[.int .i64 0, .int .i64 0, .int .u64 0, .int .i64 0] 45)
    refine Rg.wp1_step (fun K hK => ?_) ⟨⟨_, HX3.out⟩, rfl⟩
    go_simp
    refine hK _ _ (fun _ => ⟨⟨_, hx4⟩, rfl⟩) ?_
    clear hK K
    have k4 := World.alloc_heap_new w3 (.cells #[.int .i64 0, .int .i64 0, .int .u64 0, .int .i64 0] 45)
    have hge := HX3.out.size
    obtain ⟨A1, hA1⟩ : ∃ A1, w3.heap.size = A1 := ⟨_, rfl⟩
    rw [hA1] at k4 hge ⊢
    generalize w3.alloc (.cells #[.int .i64 0, .int .i64 0, .int .u64 0, .int .i64 0] 45) = w4 at hx4 k4 ⊢
    have HX4 := Lib.hid hx4; have HK4 := Lib.hid k4
    have z0 := cell_of_block k4 0; have z1 := cell_of_block k4 1; have z2 := cell_of_block k4 2; have z3 := cell_of_block k4 3
    have zf := frozen_of_block k4
    have l4 := lt_of_block k4
    have st := store4 (x := al) (z := ⟨⟨0, 0⟩, 0, 0⟩) k4
    have HST := Lib.hid st
    clear hx4 k4 st hA1
    have HXS := Lib.hid (show Below w1.heap.size w1 _ from HX4.out.trans ((HST.out.2.mono HX4.out.size fun _ _ e => e).below (Nat.le_refl _) fun q hq => by omega))
    refine Rg.wpN_step (fun K hK => ?_) ⟨⟨_, HX4.out⟩, rfl⟩
    go_simp
    refine hK _ _ (fun _ => ⟨⟨_, HXS.out⟩, rfl⟩) ?_
    clear hK K
    refine Rg.wpN_list (by simp) ?_
    simp only [List.map_cons, List.map_nil]
    go_wp2
    go_meet
    exact ⟨A1, _, rfl, rfl, rfl, HST.out.1, hge, HXS.out⟩
  · have hx4 := HX.out.alloc HX.out.size (.cells #[.int .i64 0, .int .i64 0, .int .u64 0, .int .i64 0] 45)
    refine Rg.wp1_step (fun K hK => ?_) ⟨⟨_, HX.out⟩, rfl⟩
    go_simp
    refine hK _ _ (fun _ => ⟨⟨_, hx4⟩, rfl⟩) ?_
    clear hK K
    have k4 := World.alloc_heap_new w2 (.cells #[.int .i64 0, .int .i64 0, .int .u64 0, .int .i64 0] 45)
    have hge := HX.out.size
    obtain ⟨A1, hA1⟩ : ∃ A1, w2.heap.size = A1 := ⟨_, rfl⟩
    rw [hA1] at k4 hge ⊢
    generalize w2.alloc (.cells #[.int .i64 0, .int .i64 0, .int .u64 0, .int .i64 0] 45) = w3 at hx4 k4 ⊢
    have HX3 := Lib.hid hx4; have HK3 := Lib.hid k4
    clear hx4 k4 hA1
    refine Rg.wp1_step (fun K hK => ?_) ⟨⟨_, HX3.out⟩, rfl⟩
    go_simp
    refine (HAT.out _ (HB0.out.trans (HX3.out.mono HB0.out.size))).mono ?_
    rintro e w4 ⟨rfl, hb4⟩
    have HX4 := Lib.hid (HX3.out.trans (hb4.mono HX3.out.size))
    have k4 := (hb4.block _ (lt_of_block HK3.out)).trans HK3.out
    clear hb4
    refine hK _ _ (fun _ => ⟨⟨_, HX4.out⟩, rfl⟩) ?_
    clear hK K
    refine ⟨⟨⟨_, HX4.out⟩, rfl⟩, ?_⟩
    quiet_step (fail)
    refine wpQuiet_nil ?_
    refine ⟨⟨⟨_, HX4.out⟩, rfl⟩, ?_⟩
    quiet_step (fail)
    refine wpQuiet_nil ?_
    refine ⟨⟨⟨_, HX4.out⟩, rfl⟩, ?_⟩
    quiet_step (fail)
    refine wpQuiet_nil ?_
    have HK4 := Lib.hid k4
    have z0 := cell_of_block k4 0; have z1 := cell_of_block k4 1; have z2 := cell_of_block k4 2; have z3 := cell_of_block k4 3
    have zf := frozen_of_block k4
    have l4 := lt_of_block k4
    have st := store4 (x := al) (z := ⟨⟨0, 0⟩, 0, 0⟩) k4
    have HST := Lib.hid st
    clear k4 st
    have HXS := Lib.hid (show Below w1.heap.size w1 _ from HX4.out.trans ((HST.out.2.mono HX4.out.size fun _ _ e => e).below (Nat.le_refl _) fun q hq => by omega))
    refine Rg.wpN_step (fun K hK => ?_) ⟨⟨_, HX4.out⟩, rfl⟩
    go_simp
    refine hK _ _ (fun _ => ⟨⟨_, HXS.out⟩, rfl⟩) ?_
    clear hK K
    refine Rg.wpN_list (by simp) ?_
    simp only [List.map_cons, List.map_nil]
    go_wp2
    go_meet
    exact ⟨A1, _, rfl, rfl, rfl, HST.out.1, hge, HXS.out⟩
end Go.Proofs.Ytdmbjjladkdphaa
