/-
  The document's pool: one slot.
-/
import Derived.Test.YtdmbjjladkdphaaRefPoolDef
import Derived.Deep.Cut
import Derived.BigQuiet
set_option linter.unusedVariables false
set_option linter.unusedSimpArgs false
namespace Go.Proofs.Ytdmbjjladkdphaa
open Go.RowKit Go.Maps

variable {w w' : World} {m nn BA oA cA BD base : Nat} {A tk : List Fe} {dr : List Int} {vT : Value}

set_option maxRecDepth 100000 in
set_option maxHeartbeats 8000000 in
theorem rone_any (h : RpAt w m A tk nn dr BA oA cA BD base vT) (give : Bool) (s : Sl) (hs : SlOk s) (hA : ∀ f ∈ A, FeOk f) (hT : ∀ t ∈ tk, U64 t.mask) (hN : ∀ f ∈ A, 0 ≤ f.spot.node ∧ f.spot.node < nn) (hl : A.length ≤ 1000000) (hnn : nn ≤ 1000000) :
    Calls Try.prog 47 #[.pointer (some ⟨m, 0, none⟩), .bool give, .agg #[.int .i64 s.spot.node, .int .i64 s.spot.domain, .int .u64 s.mask, .int .i64 s.cpus]] w (ROne m A nn dr BA oA cA BD base vT (oneF (rOp give dr A) A tk s) w) := by
  obtain ⟨n, hn⟩ : ∃ n, A.length = n := ⟨_, rfl⟩
  have HN := Lib.hid hn; have H := Lib.hid h; have HS := Lib.hid hs; have HAO := Lib.hid hA; have HTU := Lib.hid hT; have HNO := Lib.hid hN; have HL := Lib.hid hl
  have hb0 := (Below.refl w.heap.size w).alloc (Nat.le_refl _) (.cells #[.int .i64 s.spot.node, .int .i64 s.spot.domain, .int .u64 s.mask, .int .i64 s.cpus] 44)
  have HB0 := Lib.hid hb0
  have HZ0 := Lib.hid (World.alloc_heap_new w (.cells #[.int .i64 s.spot.node, .int .i64 s.spot.domain, .int .u64 s.mask, .int .i64 s.cpus] 44))
  obtain ⟨res, hres⟩ : ∃ res, oneF (rOp give dr A) A tk s = res := ⟨_, rfl⟩
  have HRES := Lib.hid hres
  rw [hn] at hl
  rw [hres]
  clear h hn hs hA hT hN hb0 hres
  go_enter Try.func47, Try.ntmps47
  go_upto_region 1 with fail
  obtain ⟨Z, hZ⟩ : ∃ Z, w.heap.size = Z := ⟨_, rfl⟩
  rw [hZ] at HZ0 ⊢
  generalize w.alloc (.cells #[.int .i64 s.spot.node, .int .i64 s.spot.domain, .int .u64 s.mask, .int .i64 s.cpus] 44) = w1 at HB0 HZ0 ⊢
  have z3 := cell_of_block HZ0.out 3; have z0 := cell_of_block HZ0.out 0; have z1 := cell_of_block HZ0.out 1
  have lz := lt_of_block HZ0.out
  clear hZ
  by_cases hc : s.cpus < 0
  · have HR := Lib.hid (show oneF (rOp give dr A) A tk s = (1, tk) by unfold oneF; rw [if_pos hc])
    have hc2 : decide (s.cpus < 0) = true := by simpa using hc
    clear hc
    go_wp2
    go_ret
    rw [show res = _ from HRES.out.symm.trans HR.out]
    exact ROne.same H.out HB0.out 1
  have HC := Lib.hid hc
  have hc2 : decide (s.cpus < 0) = false := by simpa using hc
  have HSPOT := Lib.hid (rspot_any (H.out.later HB0.out) s.spot HL.out)
  clear hc
  cases hpos : posF A s.spot with
  | none =>
    rw [show posI A s.spot = -1 by unfold posI; rw [hpos]] at HSPOT
    have HR := Lib.hid (show oneF (rOp give dr A) A tk s = (3, tk) by unfold oneF; rw [if_neg HC.out, hpos])
    clear hpos
    go_wp2_with fail
    refine HSPOT.out.mono ?_
    rintro e w2 ⟨rfl, hb2⟩
    have HB2 := Lib.hid (HB0.out.trans (hb2.mono HB0.out.size))
    clear hb2 z3 z0 z1 lz
    go_wp2
    go_ret
    rw [show res = _ from HRES.out.symm.trans HR.out]
    exact ROne.same H.out HB2.out 3
  | some k =>
    rw [show posI A s.spot = k by unfold posI; rw [hpos]] at HSPOT
    obtain ⟨hkA, hks⟩ := posF_some hpos
    have hkn : k < n := by rw [← HN.out]; exact hkA
    obtain ⟨al, hal⟩ : ∃ al, A[k] = al := ⟨_, rfl⟩
    have hkt : k < tk.length := by rw [H.out.len]; exact hkA
    obtain ⟨t, htt⟩ : ∃ t, tk[k]? = some t := ⟨_, List.getElem?_eq_getElem hkt⟩
    have HAL := Lib.hid hal; have HTK := Lib.hid htt
    have HSP := Lib.hid (show al.spot = s.spot by rw [← hal]; exact hks)
    have HOP := Lib.hid (show oneF (rOp give dr A) A tk s = ((rOp give dr A k t s).1, tk.set k (rOp give dr A k t s).2) from oneF_of (by have := HC.out; omega) hpos htt)
    have HAK := Lib.hid (show A[k]? = some al by rw [← hal]; exact List.getElem?_eq_getElem hkA)
    have HUA := Lib.hid ((HAO.out al (hal ▸ List.getElem_mem hkA)).u)
    have HUT := Lib.hid (HTU.out t (List.mem_of_getElem? htt))
    have HSAME := Lib.hid (show tk.set k t = tk from set_same htt)
    have hnode := HNO.out al (hal ▸ List.getElem_mem hkA)
    rw [HSP.out] at hnode
    clear hpos hks hal htt
    go_wp2_with fail
    refine HSPOT.out.mono ?_
    rintro e w2 ⟨rfl, hb2⟩
    have HB2 := Lib.hid (HB0.out.trans (hb2.mono HB0.out.size))
    have HZ2 := Lib.hid ((hb2.block _ lz).trans HZ0.out)
    have HA2 := Lib.hid (H.out.later HB2.out)
    clear hb2 z3 z0 z1 lz
    obtain ⟨_, ⟨rfl, h0⟩ | ⟨g, cT, cur, rfl, hg, hh, hnc, hm, hsz, htk⟩⟩ := id HA2.out.own
    · omega
    have HGL := Lib.hid (lt_of_block hh)
    have HT2 := Lib.hid (show w2.cell? ⟨g, k * 4 + 2, none⟩ = some (.int .u64 t.mask) ∧ w2.cell? ⟨g, k * 4 + 3, none⟩ = some (.int .i64 t.cpus) ∧ ∀ o, w2.frozen? ⟨g, o, none⟩ = false from by
      have hc : ∀ j, j < 4 → w2.cell? ⟨g, k * 4 + j, none⟩ = (Fe.cells t)[j]? := fun j hj => by
        have h1 := flatMap_get (sz := 4) (cells := Fe.cells) (fun x => rfl) tk k j hkt hj
        rw [← htk, List.getElem?_take, if_pos (by omega), Array.getElem?_toList] at h1
        have h2 : tk[k] = t := (List.getElem?_eq_some_iff.1 HTK.out).2
        rw [cell_of_block hh, h1, h2]
      exact ⟨hc 2 (by omega), hc 3 (by omega), fun o => frozen_of_block hh o⟩)
    have c1 : w2.cell? ⟨m, 1, none⟩ = some (.slice (some ⟨g, 0, none⟩) n cT) := by
      have h1 := cell_of_block HA2.out.head 1
      rw [HA2.out.len, HN.out] at h1; exact h1
    have lm := HA2.out.lt (.inl rfl)
    clear hg hh hnc hm hsz htk
    cases give with
    | true =>
      go_upto_region 8 with fail
      clear c1 lm
      have e0 : ∀ y : Later w2, y.wd.cell? ⟨Z, 0, none⟩ = some (.int .i64 s.spot.node) := fun y => (y.cell (lt_of_block HZ2.out)).trans (cell_of_block HZ2.out 0)
      have e2 : ∀ y : Later w2, y.wd.cell? ⟨Z, 2, none⟩ = some (.int .u64 s.mask) := fun y => (y.cell (lt_of_block HZ2.out)).trans (cell_of_block HZ2.out 2)
      have e3 : ∀ y : Later w2, y.wd.cell? ⟨Z, 3, none⟩ = some (.int .i64 s.cpus) := fun y => (y.cell (lt_of_block HZ2.out)).trans (cell_of_block HZ2.out 3)
      have m0 : ∀ y : Later w2, y.wd.cell? ⟨m, 0, none⟩ = some (.slice (some ⟨BA, oA, none⟩) n cA) := fun y => by
        have h1 := (y.cell (HA2.out.lt (.inl rfl))).trans (cell_of_block HA2.out.head 0)
        rw [HN.out] at h1; exact h1
      have m2 : ∀ y : Later w2, y.wd.cell? ⟨m, 2, none⟩ = some (.slice (some ⟨BD, 0, none⟩) nn nn) := fun y => (y.cell (HA2.out.lt (.inl rfl))).trans (cell_of_block HA2.out.head 2)
      have a2 : ∀ y : Later w2, y.wd.cell? ⟨BA, oA + k * 4 + 2, none⟩ = some (.int .u64 al.mask) := fun y => (y.cell (HA2.out.lt (.inr (.inl rfl)))).trans (HA2.out.allCells hkA HAL.out).2.2.1
      have a3 : ∀ y : Later w2, y.wd.cell? ⟨BA, oA + k * 4 + 3, none⟩ = some (.int .i64 al.cpus) := fun y => (y.cell (HA2.out.lt (.inr (.inl rfl)))).trans (HA2.out.allCells hkA HAL.out).2.2.2
      have t2 : ∀ y : Later w2, y.wd.cell? ⟨g, k * 4 + 2, none⟩ = some (.int .u64 t.mask) := fun y => (y.cell HGL.out).trans HT2.out.1
      have t3 : ∀ y : Later w2, y.wd.cell? ⟨g, k * 4 + 3, none⟩ = some (.int .i64 t.cpus) := fun y => (y.cell HGL.out).trans HT2.out.2.1
      have lm := HA2.out.lt (.inl rfl)
      by_cases h1 : Go.bits .andNot .u64 s.mask al.mask = 0
      case neg =>
        have HR := Lib.hid (show oneF (rOp true dr A) A tk s = (3, tk) by rw [HOP.out]; simp only [rOp, rG, HAK.out, if_true, if_pos h1, HSAME.out])
        have HW := Lib.hid (fun y : Later w2 => within_any s.mask al.mask HS.out.2.1 HUA.out y.wd false (by simpa using h1))
        clear h1
        refine wp_region_later (by kernel_rfl) (by kernel_rfl) ?_
        repeat (go_big_quiet_step (first | (go_at_call 50; exact Calls.later (HW.out _))))
        refine wpQuiet_nil ?_
        rintro w3 ⟨⟨_, hb3⟩, rfl⟩
        have HB3 := Lib.hid (HB2.out.trans (hb3.mono HB2.out.size))
        clear e0 e2 e3 m0 m2 a2 a3 t2 t3
        clear hb3
        go_wp2
        go_ret
        rw [show res = _ from HRES.out.symm.trans HR.out]
        exact ROne.same H.out HB3.out 3
      have HW := Lib.hid (fun y : Later w2 => within_any s.mask al.mask HS.out.2.1 HUA.out y.wd true (by simpa using h1))
      refine wp_region_later (by kernel_rfl) (by kernel_rfl) ?_
      repeat (go_big_quiet_step (first | (go_at_call 50; exact Calls.later (HW.out _))))
      refine wpQuiet_nil ?_
      rintro w3 ⟨⟨_, hb3⟩, rfl⟩
      have HB3 := Lib.hid (HB2.out.trans (hb3.mono HB2.out.size))
      clear e0 e2 e3 m0 m2 a2 a3 t2 t3
      clear lm
      have HB23 := Lib.hid hb3
      have kz := (hb3.block _ (lt_of_block HZ2.out)).trans HZ2.out
      have e2 : ∀ y : Later w3, y.wd.cell? ⟨Z, 2, none⟩ = some (.int .u64 s.mask) := fun y => (y.cell (lt_of_block kz)).trans (cell_of_block kz 2)
      have e3 : ∀ y : Later w3, y.wd.cell? ⟨Z, 3, none⟩ = some (.int .i64 s.cpus) := fun y => (y.cell (lt_of_block kz)).trans (cell_of_block kz 3)
      have lg3 := Nat.lt_of_lt_of_le HGL.out hb3.size
      have t2 : ∀ y : Later w3, y.wd.cell? ⟨g, k * 4 + 2, none⟩ = some (.int .u64 t.mask) := fun y => (y.cell lg3).trans ((hb3.cell (p := ⟨g, k * 4 + 2, none⟩) HGL.out).trans HT2.out.1)
      have t3 : ∀ y : Later w3, y.wd.cell? ⟨g, k * 4 + 3, none⟩ = some (.int .i64 t.cpus) := fun y => (y.cell lg3).trans ((hb3.cell (p := ⟨g, k * 4 + 3, none⟩) HGL.out).trans HT2.out.2.1)
      have HZ3 := Lib.hid kz
      have HH1 := Lib.hid h1
      clear h1 kz hb3
      go_upto_region 10 with fail
      by_cases h2 : Go.bits .andNot .u64 s.mask t.mask = 0
      case neg =>
        have HR := Lib.hid (show oneF (rOp true dr A) A tk s = (4, tk) by rw [HOP.out]; simp [rOp, rG, HAK.out, HH1.out, h2, HSAME.out])
        have HW2 := Lib.hid (fun y : Later w3 => within_any s.mask t.mask HS.out.2.1 HUT.out y.wd false (by simpa using h2))
        clear h2
        refine wp_region_later (by kernel_rfl) (by kernel_rfl) ?_
        repeat (go_big_quiet_step (first | (go_at_call 50; exact Calls.later (HW2.out _))))
        refine wpQuiet_nil ?_
        rintro w4 ⟨⟨_, hb4⟩, rfl⟩
        have HB4 := Lib.hid (HB3.out.trans (hb4.mono HB3.out.size))
        clear e2 e3 t2 t3 hb4
        go_wp2
        go_ret
        rw [show res = _ from HRES.out.symm.trans HR.out]
        exact ROne.same H.out HB4.out 4
      have HW2 := Lib.hid (fun y : Later w3 => within_any s.mask t.mask HS.out.2.1 HUT.out y.wd true (by simpa using h2))
      by_cases h3 : t.cpus < s.cpus
      · have HR := Lib.hid (show oneF (rOp true dr A) A tk s = (4, tk) by rw [HOP.out]; simp [rOp, rG, HAK.out, HH1.out, h2, h3, HSAME.out])
        have hc3 : decide (t.cpus < s.cpus) = true := by simpa using h3
        clear h2 h3
        refine wp_region_later (by kernel_rfl) (by kernel_rfl) ?_
        repeat (go_big_quiet_step (first | (go_at_call 50; exact Calls.later (HW2.out _))))
        refine wpQuiet_nil ?_
        rintro w4 ⟨⟨_, hb4⟩, rfl⟩
        have HB4 := Lib.hid (HB3.out.trans (hb4.mono HB3.out.size))
        clear e2 e3 t2 t3 hb4
        go_wp2
        go_ret
        rw [show res = _ from HRES.out.symm.trans HR.out]
        exact ROne.same H.out HB4.out 4
      · have HR := Lib.hid (show oneF (rOp true dr A) A tk s = (0, tk.set k ⟨t.spot, IntKind.u64.wrap (t.mask - s.mask), IntKind.i64.wrap (t.cpus - s.cpus)⟩) by rw [HOP.out]; simp [rOp, rG, HAK.out, HH1.out, h2, h3])
        have hc3 : decide (t.cpus < s.cpus) = false := by simpa using h3
        clear h2 h3
        refine wp_region_later (by kernel_rfl) (by kernel_rfl) ?_
        repeat (go_big_quiet_step (first | (go_at_call 50; exact Calls.later (HW2.out _))))
        refine wpQuiet_nil ?_
        rintro w4 ⟨⟨_, hb4⟩, rfl⟩
        have HB4 := Lib.hid (HB3.out.trans (hb4.mono HB3.out.size))
        clear e2 e3 t2 t3
        have kz := (hb4.block _ (lt_of_block HZ3.out)).trans HZ3.out
        have z2 := cell_of_block kz 2; have z3 := cell_of_block kz 3
        have lz := lt_of_block kz
        have q2 : w4.cell? ⟨g, k * 4 + 2, none⟩ = some (.int .u64 t.mask) := (hb4.cell (p := ⟨g, k * 4 + 2, none⟩) (Nat.lt_of_lt_of_le HGL.out HB23.out.size)).trans ((HB23.out.cell (p := ⟨g, k * 4 + 2, none⟩) HGL.out).trans HT2.out.1)
        have q3 : w4.cell? ⟨g, k * 4 + 3, none⟩ = some (.int .i64 t.cpus) := (hb4.cell (p := ⟨g, k * 4 + 3, none⟩) (Nat.lt_of_lt_of_le HGL.out HB23.out.size)).trans ((HB23.out.cell (p := ⟨g, k * 4 + 3, none⟩) HGL.out).trans HT2.out.2.1)
        have y2 : w4.frozen? ⟨g, k * 4 + 2, none⟩ = false := (hb4.frozen (p := ⟨g, k * 4 + 2, none⟩) (Nat.lt_of_lt_of_le HGL.out HB23.out.size)).trans ((HB23.out.frozen (p := ⟨g, k * 4 + 2, none⟩)  HGL.out).trans (HT2.out.2.2 _))
        have y3 : w4.frozen? ⟨g, k * 4 + 3, none⟩ = false := (hb4.frozen (p := ⟨g, k * 4 + 3, none⟩) (Nat.lt_of_lt_of_le HGL.out HB23.out.size)).trans ((HB23.out.frozen (p := ⟨g, k * 4 + 3, none⟩)  HGL.out).trans (HT2.out.2.2 _))
        have lg := Nat.lt_of_lt_of_le (Nat.lt_of_lt_of_le HGL.out HB23.out.size) hb4.size
        obtain ⟨mm, hmm⟩ : ∃ mm, IntKind.u64.wrap (t.mask - s.mask) = mm := ⟨_, rfl⟩
        obtain ⟨cc, hcc⟩ : ∃ cc, IntKind.i64.wrap (t.cpus - s.cpus) = cc := ⟨_, rfl⟩
        rw [hmm, hcc] at HR
        clear kz hb4
        go_wp2_with fail
        go_region
        go_wp2_with fail
        go_region
        go_wp2
        go_ret
        rw [show res = _ from HRES.out.symm.trans HR.out]
        exact ROne.set H.out HTK.out HB4.out mm cc rfl rfl rfl rfl
    | false =>
      go_upto_region 15 with fail
      clear c1 lm
      have e0 : ∀ y : Later w2, y.wd.cell? ⟨Z, 0, none⟩ = some (.int .i64 s.spot.node) := fun y => (y.cell (lt_of_block HZ2.out)).trans (cell_of_block HZ2.out 0)
      have e2 : ∀ y : Later w2, y.wd.cell? ⟨Z, 2, none⟩ = some (.int .u64 s.mask) := fun y => (y.cell (lt_of_block HZ2.out)).trans (cell_of_block HZ2.out 2)
      have e3 : ∀ y : Later w2, y.wd.cell? ⟨Z, 3, none⟩ = some (.int .i64 s.cpus) := fun y => (y.cell (lt_of_block HZ2.out)).trans (cell_of_block HZ2.out 3)
      have m0 : ∀ y : Later w2, y.wd.cell? ⟨m, 0, none⟩ = some (.slice (some ⟨BA, oA, none⟩) n cA) := fun y => by
        have h1 := (y.cell (HA2.out.lt (.inl rfl))).trans (cell_of_block HA2.out.head 0)
        rw [HN.out] at h1; exact h1
      have m2 : ∀ y : Later w2, y.wd.cell? ⟨m, 2, none⟩ = some (.slice (some ⟨BD, 0, none⟩) nn nn) := fun y => (y.cell (HA2.out.lt (.inl rfl))).trans (cell_of_block HA2.out.head 2)
      have a2 : ∀ y : Later w2, y.wd.cell? ⟨BA, oA + k * 4 + 2, none⟩ = some (.int .u64 al.mask) := fun y => (y.cell (HA2.out.lt (.inr (.inl rfl)))).trans (HA2.out.allCells hkA HAL.out).2.2.1
      have a3 : ∀ y : Later w2, y.wd.cell? ⟨BA, oA + k * 4 + 3, none⟩ = some (.int .i64 al.cpus) := fun y => (y.cell (HA2.out.lt (.inr (.inl rfl)))).trans (HA2.out.allCells hkA HAL.out).2.2.2
      have t2 : ∀ y : Later w2, y.wd.cell? ⟨g, k * 4 + 2, none⟩ = some (.int .u64 t.mask) := fun y => (y.cell HGL.out).trans HT2.out.1
      have t3 : ∀ y : Later w2, y.wd.cell? ⟨g, k * 4 + 3, none⟩ = some (.int .i64 t.cpus) := fun y => (y.cell HGL.out).trans HT2.out.2.1
      have lm := HA2.out.lt (.inl rfl)
      obtain ⟨j, hj⟩ : ∃ j : Nat, s.spot.node = j := ⟨s.spot.node.toNat, by omega⟩
      have hjn : j < nn := by omega
      have ld := HA2.out.lt (.inr (.inr (.inl rfl)))
      have db : ∀ y : Later w2, y.wd.cell? ⟨BD, j, none⟩ = some (.bool (decide (s.spot.node ∈ dr))) := fun y => by
        have h1 := (y.cell (o := j) ld).trans (cell_of_block HA2.out.drn j)
        rw [DB_at dr hjn, ← hj] at h1
        exact h1
      have HJ := Lib.hid hj
      rw [hj] at e0
      by_cases hd : s.spot.node ∈ dr
      · have HR := Lib.hid (show oneF (rOp false dr A) A tk s = (8, tk) by rw [HOP.out]; simp [rOp, rT, HAK.out, hd, HSAME.out])
        rw [show decide (s.spot.node ∈ dr) = true by simpa using hd] at db
        clear hd hj hnode
        refine wp_region_later (by kernel_rfl) (by kernel_rfl) ?_
        repeat (go_big_quiet_step (fail))
        refine wpQuiet_nil ?_
        rintro w3 ⟨⟨_, hb3⟩, rfl⟩
        have HB3 := Lib.hid (HB2.out.trans (hb3.mono HB2.out.size))
        clear e0 e2 e3 m0 m2 a2 a3 t2 t3
        clear db hb3
        go_wp2
        go_ret
        rw [show res = _ from HRES.out.symm.trans HR.out]
        exact ROne.same H.out HB3.out 8
      rw [show decide (s.spot.node ∈ dr) = false by simpa using hd] at db
      have HD := Lib.hid hd
      clear hd hj hnode
      refine wp_region_later (by kernel_rfl) (by kernel_rfl) ?_
      repeat (go_big_quiet_step (fail))
      refine wpQuiet_nil ?_
      rintro w2 ⟨⟨_, hbq⟩, rfl⟩
      have HBQ := Lib.hid (HB2.out.trans (hbq.mono HB2.out.size))
      have HZQ := Lib.hid ((hbq.block _ (lt_of_block HZ2.out)).trans HZ2.out)
      have HGQ := Lib.hid (Nat.lt_of_lt_of_le HGL.out hbq.size)
      have HTQ := Lib.hid (show w2.cell? ⟨g, k * 4 + 2, none⟩ = some (.int .u64 t.mask) ∧ w2.cell? ⟨g, k * 4 + 3, none⟩ = some (.int .i64 t.cpus) ∧ ∀ o, w2.frozen? ⟨g, o, none⟩ = false from ⟨(hbq.cell (p := ⟨g, k * 4 + 2, none⟩) HGL.out).trans HT2.out.1, (hbq.cell (p := ⟨g, k * 4 + 3, none⟩) HGL.out).trans HT2.out.2.1, fun o => (hbq.frozen (p := ⟨g, o, none⟩) HGL.out).trans (HT2.out.2.2 o)⟩)
      clear e0 e2 e3 m0 m2 a2 a3 t2 t3
      clear db lm ld hbq HA2 HZ2 HGL HT2 HB2
      have HB2 := HBQ; have HZ2 := HZQ; have HGL := HGQ; have HT2 := HTQ
      have HA2 := Lib.hid (H.out.later HB2.out)
      clear HBQ HZQ HGQ HTQ
      go_upto_region 17 with fail
      have e0 : ∀ y : Later w2, y.wd.cell? ⟨Z, 0, none⟩ = some (.int .i64 s.spot.node) := fun y => (y.cell (lt_of_block HZ2.out)).trans (cell_of_block HZ2.out 0)
      have e2 : ∀ y : Later w2, y.wd.cell? ⟨Z, 2, none⟩ = some (.int .u64 s.mask) := fun y => (y.cell (lt_of_block HZ2.out)).trans (cell_of_block HZ2.out 2)
      have e3 : ∀ y : Later w2, y.wd.cell? ⟨Z, 3, none⟩ = some (.int .i64 s.cpus) := fun y => (y.cell (lt_of_block HZ2.out)).trans (cell_of_block HZ2.out 3)
      have m0 : ∀ y : Later w2, y.wd.cell? ⟨m, 0, none⟩ = some (.slice (some ⟨BA, oA, none⟩) n cA) := fun y => by
        have h1 := (y.cell (HA2.out.lt (.inl rfl))).trans (cell_of_block HA2.out.head 0)
        rw [HN.out] at h1; exact h1
      have m2 : ∀ y : Later w2, y.wd.cell? ⟨m, 2, none⟩ = some (.slice (some ⟨BD, 0, none⟩) nn nn) := fun y => (y.cell (HA2.out.lt (.inl rfl))).trans (cell_of_block HA2.out.head 2)
      have a2 : ∀ y : Later w2, y.wd.cell? ⟨BA, oA + k * 4 + 2, none⟩ = some (.int .u64 al.mask) := fun y => (y.cell (HA2.out.lt (.inr (.inl rfl)))).trans (HA2.out.allCells hkA HAL.out).2.2.1
      have a3 : ∀ y : Later w2, y.wd.cell? ⟨BA, oA + k * 4 + 3, none⟩ = some (.int .i64 al.cpus) := fun y => (y.cell (HA2.out.lt (.inr (.inl rfl)))).trans (HA2.out.allCells hkA HAL.out).2.2.2
      have t2 : ∀ y : Later w2, y.wd.cell? ⟨g, k * 4 + 2, none⟩ = some (.int .u64 t.mask) := fun y => (y.cell HGL.out).trans HT2.out.1
      have t3 : ∀ y : Later w2, y.wd.cell? ⟨g, k * 4 + 3, none⟩ = some (.int .i64 t.cpus) := fun y => (y.cell HGL.out).trans HT2.out.2.1
      have lm := HA2.out.lt (.inl rfl)
      by_cases h1 : Go.bits .andNot .u64 s.mask al.mask = 0
      case neg =>
        have HR := Lib.hid (show oneF (rOp false dr A) A tk s = (5, tk) by rw [HOP.out]; simp [rOp, rT, HAK.out, HD.out, h1, HSAME.out])
        have HW := Lib.hid (fun y : Later w2 => within_any s.mask al.mask HS.out.2.1 HUA.out y.wd false (by simpa using h1))
        clear h1
        refine wp_region_later (by kernel_rfl) (by kernel_rfl) ?_
        repeat (go_big_quiet_step (first | (go_at_call 50; exact Calls.later (HW.out _))))
        refine wpQuiet_nil ?_
        rintro w3 ⟨⟨_, hb3⟩, rfl⟩
        have HB3 := Lib.hid (HB2.out.trans (hb3.mono HB2.out.size))
        clear e0 e2 e3 m0 m2 a2 a3 t2 t3
        clear hb3
        go_wp2
        go_ret
        rw [show res = _ from HRES.out.symm.trans HR.out]
        exact ROne.same H.out HB3.out 5
      have HW := Lib.hid (fun y : Later w2 => within_any s.mask al.mask HS.out.2.1 HUA.out y.wd true (by simpa using h1))
      by_cases h2 : Go.bits .and .u64 s.mask t.mask = 0
      case neg =>
        have HR := Lib.hid (show oneF (rOp false dr A) A tk s = (5, tk) by rw [HOP.out]; simp [rOp, rT, HAK.out, HD.out, h1, h2, HSAME.out])
        have HW2 := Lib.hid (fun y : Later w2 => apart_any s.mask t.mask HS.out.2.1 HUT.out y.wd false (by simpa using h2))
        clear h1 h2
        refine wp_region_later (by kernel_rfl) (by kernel_rfl) ?_
        repeat (go_big_quiet_step (first | (go_at_call 50; exact Calls.later (HW.out _)) | (go_at_call 51; exact Calls.later (HW2.out _))))
        refine wpQuiet_nil ?_
        rintro w3 ⟨⟨_, hb3⟩, rfl⟩
        have HB3 := Lib.hid (HB2.out.trans (hb3.mono HB2.out.size))
        clear e0 e2 e3 m0 m2 a2 a3 t2 t3
        clear hb3
        go_wp2
        go_ret
        rw [show res = _ from HRES.out.symm.trans HR.out]
        exact ROne.same H.out HB3.out 5
      have HW2 := Lib.hid (fun y : Later w2 => apart_any s.mask t.mask HS.out.2.1 HUT.out y.wd true (by simpa using h2))
      by_cases h3 : IntKind.i64.wrap (al.cpus - t.cpus) < s.cpus
      · have HR := Lib.hid (show oneF (rOp false dr A) A tk s = (5, tk) by rw [HOP.out]; simp [rOp, rT, HAK.out, HD.out, h1, h2, h3, HSAME.out])
        have hc3 : decide (wrap64 (al.cpus - t.cpus) < s.cpus) = true := by rw [← wrap_eqI]; simpa using h3
        clear h1 h2 h3
        refine wp_region_later (by kernel_rfl) (by kernel_rfl) ?_
        repeat (go_big_quiet_step (first | (go_at_call 50; exact Calls.later (HW.out _)) | (go_at_call 51; exact Calls.later (HW2.out _))))
        refine wpQuiet_nil ?_
        rintro w3 ⟨⟨_, hb3⟩, rfl⟩
        have HB3 := Lib.hid (HB2.out.trans (hb3.mono HB2.out.size))
        clear e0 e2 e3 m0 m2 a2 a3 t2 t3
        clear hb3
        go_wp2
        go_ret
        rw [show res = _ from HRES.out.symm.trans HR.out]
        exact ROne.same H.out HB3.out 5
      · have HR := Lib.hid (show oneF (rOp false dr A) A tk s = (0, tk.set k ⟨t.spot, IntKind.u64.wrap (t.mask + s.mask), IntKind.i64.wrap (t.cpus + s.cpus)⟩) by rw [HOP.out]; simp only [rOp, rT, HAK.out, if_neg HD.out, Bool.false_eq_true, if_false]; rw [if_neg (by simp [h1, h2]; omega)])
        have hc3 : decide (wrap64 (al.cpus - t.cpus) < s.cpus) = false := by rw [← wrap_eqI]; simpa using h3
        clear h1 h2 h3
        refine wp_region_later (by kernel_rfl) (by kernel_rfl) ?_
        repeat (go_big_quiet_step (first | (go_at_call 50; exact Calls.later (HW.out _)) | (go_at_call 51; exact Calls.later (HW2.out _))))
        refine wpQuiet_nil ?_
        rintro w3 ⟨⟨_, hb3⟩, rfl⟩
        have HB3 := Lib.hid (HB2.out.trans (hb3.mono HB2.out.size))
        clear e0 e2 e3 m0 m2 a2 a3 t2 t3
        have kz := (hb3.block _ (lt_of_block HZ2.out)).trans HZ2.out
        have z2 := cell_of_block kz 2; have z3 := cell_of_block kz 3
        have lz := lt_of_block kz
        have q2 : w3.cell? ⟨g, k * 4 + 2, none⟩ = some (.int .u64 t.mask) := (hb3.cell (p := ⟨g, k * 4 + 2, none⟩) HGL.out).trans HT2.out.1
        have q3 : w3.cell? ⟨g, k * 4 + 3, none⟩ = some (.int .i64 t.cpus) := (hb3.cell (p := ⟨g, k * 4 + 3, none⟩) HGL.out).trans HT2.out.2.1
        have y2 : w3.frozen? ⟨g, k * 4 + 2, none⟩ = false := (hb3.frozen (p := ⟨g, k * 4 + 2, none⟩) HGL.out).trans (HT2.out.2.2 _)
        have y3 : w3.frozen? ⟨g, k * 4 + 3, none⟩ = false := (hb3.frozen (p := ⟨g, k * 4 + 3, none⟩) HGL.out).trans (HT2.out.2.2 _)
        have lg := Nat.lt_of_lt_of_le HGL.out hb3.size
        obtain ⟨mm, hmm⟩ : ∃ mm, IntKind.u64.wrap (t.mask + s.mask) = mm := ⟨_, rfl⟩
        obtain ⟨cc, hcc⟩ : ∃ cc, IntKind.i64.wrap (t.cpus + s.cpus) = cc := ⟨_, rfl⟩
        rw [hmm, hcc] at HR
        clear kz hb3
        go_wp2_with fail
        go_region
        go_wp2_with fail
        go_region
        go_wp2
        go_ret
        rw [show res = _ from HRES.out.symm.trans HR.out]
        exact ROne.set H.out HTK.out HB3.out mm cc rfl rfl rfl rfl
end Go.Proofs.Ytdmbjjladkdphaa
