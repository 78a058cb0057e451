/-
  The pool's Take$1, Give$1, each, Take, Give.
-/
import Derived.Test.YtdmbjjladkdphaaPool
set_option linter.unusedVariables false
set_option linter.unusedSimpArgs false
namespace Go.Proofs.Ytdmbjjladkdphaa
open Go.RowKit Go.Maps

/-- slots, as they read -/
def SlRow (w : World) (v : Value) (xs : List Sl) : Prop :=
  ∃ a cap, v = .slice a xs.length cap ∧ xs.length ≤ maxLen ∧ ∀ (k : Nat) (hk : k < xs.length), ∃ b o, a = some ⟨b, o, none⟩ ∧ b < w.heap.size ∧ ∀ j, j < 4 → w.cell? ⟨b, o + (k * 4 + j), none⟩ = (Sl.cells xs[k])[j]?
def SlOk (s : Sl) : Prop := SpOk s.spot ∧ (0 ≤ s.mask ∧ s.mask < 18446744073709551616) ∧ okInt s.cpus
theorem SlRow.fr {w w' : World} {B : Nat} {G : Nat → Prop} {v : Value} {xs : List Sl} (h : SlRow w v xs) (hf : Fr B G w w') (hB : ∀ q, v.ownBlock = some q → q < B ∧ ¬ G q) : SlRow w' v xs := by
  obtain ⟨a, cap, rfl, hm, hc⟩ := h
  refine ⟨a, cap, rfl, hm, fun k hk => ?_⟩
  obtain ⟨b, o, rfl, h2, h3⟩ := hc k hk
  have hb := hB b rfl
  have hq := hf.block b hb.1 hb.2
  exact ⟨b, o, rfl, Nat.lt_of_lt_of_le h2 hf.size, fun j hj => (World.cell?_of_block (a := ⟨b, o + (k * 4 + j), none⟩) hq).trans (h3 j hj)⟩
theorem SlRow.later {w w' : World} {v : Value} {xs : List Sl} (h : SlRow w v xs) (hb : Below w.heap.size w w') : SlRow w' v xs := by
  obtain ⟨a, cap, rfl, hm, hc⟩ := h
  refine ⟨a, cap, rfl, hm, fun k hk => ?_⟩
  obtain ⟨b, o, rfl, h2, h3⟩ := hc k hk
  exact ⟨b, o, rfl, Nat.lt_of_lt_of_le h2 hb.size, fun j hj => (hb.cell (p := ⟨b, o + (k * 4 + j), none⟩) h2).trans (h3 j hj)⟩

theorem flat_set2L (m c : Int) : ∀ (fr : List Fe) (k : Nat) (f : Fe), fr[k]? = some f → ((fr.flatMap Fe.cells).set (k * 4 + 2) (.int .u64 m)).set (k * 4 + 3) (.int .i64 c) = (fr.set k ⟨f.spot, m, c⟩).flatMap Fe.cells
  | [], k, f, h => by simp at h
  | x :: r, 0, f, h => by
    simp at h; subst h
    rfl
  | x :: r, k + 1, f, h => by
    have ih := flat_set2L m c r k f (by simpa using h)
    rw [List.set_cons_succ, List.flatMap_cons, List.flatMap_cons, ← ih]
    have e2 : (k + 1) * 4 + 2 = (k * 4 + 2) + 1 + 1 + 1 + 1 := by omega
    have e3 : (k + 1) * 4 + 3 = (k * 4 + 3) + 1 + 1 + 1 + 1 := by omega
    rw [e2, e3]
    rfl
theorem flat_set2 (m c : Int) (fr : List Fe) (k : Nat) (f : Fe) (h : fr[k]? = some f) : ((fr.flatMap Fe.cells).toArray.setIfInBounds (k * 4 + 2) (.int .u64 m)).setIfInBounds (k * 4 + 3) (.int .i64 c) = ((fr.set k ⟨f.spot, m, c⟩).flatMap Fe.cells).toArray := by
  rw [← flat_set2L m c fr k f h]
  simp

variable {w w' : World} {p T R cap M nn F D : Nat} {A fr : List Fe} {dr : List Int}
theorem PoolAt.upd (h : PoolAt w p T R cap M nn A F D fr dr) {fr' : List Fe} (hf : Fr w.heap.size (fun q => q = F) w w') (hr : w'.heap[F]? = some (.cells (fr'.flatMap Fe.cells).toArray 45 (0, 0))) (hl : fr'.length = fr.length) : PoolAt w' p T R cap M nn A F D fr' dr := by
  have ha := h.apart
  obtain ⟨es, c, m1, m2⟩ := h.drn
  have hl2 := fun q hq => h.lt (q := q) hq
  have same : ∀ q, PF p T R M F D q → q ≠ F → w'.heap[q]? = w.heap[q]? := fun q h1 h2 => hf.block q (hl2 q h1) h2
  refine ⟨?_, h.topo.frame (same T (.inr (.inl rfl)) ha.2.2.1.1.symm) (same R (.inr (.inr (.inl rfl))) ha.2.2.1.2.1.symm) (same M (.inr (.inr (.inr rfl))) ha.2.2.1.2.2.symm), hr, ⟨es, c, (same D (.inl (.inr (.inr rfl))) ha.1.2.2.symm).trans m1, m2⟩, ha, hl.trans h.len⟩
  rw [hl]
  exact (same p (.inl (.inl rfl)) ha.1.1).trans h.head

/-- what a slot's taking, and its giving back, do to what is free at its spot -/
def takeF (dr : List Int) (f : Fe) (s : Sl) : Int × Fe :=
  if s.spot.node ∈ dr then (8, f) else if Go.bits .andNot .u64 s.mask f.mask ≠ 0 ∨ f.cpus < s.cpus then (5, f)
  else (0, ⟨f.spot, Go.bits .andNot .u64 f.mask s.mask, IntKind.i64.wrap (f.cpus - s.cpus)⟩)
def giveF (al f : Fe) (s : Sl) : Int × Fe :=
  if Go.bits .andNot .u64 s.mask al.mask ≠ 0 then (3, f) else if Go.bits .and .u64 s.mask f.mask ≠ 0 ∨ IntKind.i64.wrap (al.cpus - f.cpus) < s.cpus then (4, f)
  else (0, ⟨f.spot, Go.bits .or .u64 f.mask s.mask, IntKind.i64.wrap (f.cpus + s.cpus)⟩)
def ClPost (p T R cap M nn : Nat) (A : List Fe) (F D : Nat) (fr : List Fe) (dr : List Int) (k : Nat) (r : Int × Fe) (w : World) (e : Ending) (w' : World) : Prop :=
  e = .returned (.int .i64 r.1) ∧ PoolAt w' p T R cap M nn A F D (fr.set k r.2) dr ∧ Fr w.heap.size (fun q => q = F) w w'
theorem ClPost.same {k : Nat} {f : Fe} (h : PoolAt w p T R cap M nn A F D fr dr) (hf : fr[k]? = some f) (e : Int) (hb : Below w.heap.size w w') : ClPost p T R cap M nn A F D fr dr k (e, f) w (.returned (.int .i64 e)) w' := by
  refine ⟨rfl, ?_, Fr.of_below hb _⟩
  have : fr.set k f = fr := by
    obtain ⟨hk, e⟩ := List.getElem?_eq_some_iff.1 hf
    rw [← e]; simp
  simp only [this]
  exact h.later hb
theorem ClPost.set {k : Nat} {f : Fe} (h : PoolAt w p T R cap M nn A F D fr dr) (hf : fr[k]? = some f) {w1 : World} (hb : Below w.heap.size w w1) (m c : Int) (hw : w'.heap = ((w1.setCell ⟨F, k * 4 + 2, none⟩ (.int .u64 m)).setCell ⟨F, k * 4 + 3, none⟩ (.int .i64 c)).heap) (ho : w'.os = w1.os) (ht : w'.tape = w1.tape) (hu : w'.output = w1.output) :
    ClPost p T R cap M nn A F D fr dr k (0, ⟨f.spot, m, c⟩) w (.returned (.int .i64 0)) w' := by
  have h1 := h.later hb
  have hF : F < w.heap.size := h.lt (.inl (.inr (.inl rfl)))
  have hfr : Fr w.heap.size (fun q => q = F) w ((w1.setCell ⟨F, k * 4 + 2, none⟩ (.int .u64 m)).setCell ⟨F, k * 4 + 3, none⟩ (.int .i64 c)) := ((Fr.of_below hb (fun q => q = F)).setCell (p := ⟨F, k * 4 + 2, none⟩) (.inr rfl) _).setCell (p := ⟨F, k * 4 + 3, none⟩) (.inr rfl) _
  have hfr' : Fr w.heap.size (fun q => q = F) w w' := ⟨ho.trans hb.os, ht.trans hb.tape, hu.trans hb.output, by rw [hw]; exact hfr.size, fun q h1 h2 => by rw [hw]; exact hfr.block q h1 h2⟩
  refine ⟨rfl, h.upd hfr' ?_ (by simp), hfr'⟩
  rw [hw, ← flat_set2 m c fr k f hf]
  exact setCell_block (setCell_block h1.row _ _) _ _

set_option maxHeartbeats 2000000 in
theorem take1_any (h : PoolAt w p T R cap M nn A F D fr dr) (k : Nat) (f : Fe) (hf : fr[k]? = some f) (s : Sl) (hs : SlOk s) (B : Nat) (hB : w.cell? ⟨B, 0, none⟩ = some (.pointer (some ⟨p, 0, none⟩))) :
    Calls Try.prog 32 #[.pointer (some ⟨F, k * 4, none⟩), .agg #[.int .i64 s.spot.node, .int .i64 s.spot.domain, .int .u64 s.mask, .int .i64 s.cpus], .pointer (some ⟨B, 0, none⟩)] w (ClPost p T R cap M nn A F D fr dr k (takeF dr f s) w) := by
  have H := Lib.hid h
  have HF := Lib.hid hf
  obtain ⟨hk, hf'⟩ := List.getElem?_eq_some_iff.1 hf
  have lF := h.lt (.inl (.inr (.inl rfl)))
  have lB := World.block_lt_of_cell? w _ hB
  simp only at lB
  have b0 := (Below.refl w.heap.size w).alloc (Nat.le_refl _) (.cells #[.int .i64 s.spot.node, .int .i64 s.spot.domain, .int .u64 s.mask, .int .i64 s.cpus] 44)
  have HB0 := Lib.hid b0
  have HDR := Lib.hid (drained_any (h.later b0) s.spot.node hs.1.1)
  by_cases hd : s.spot.node ∈ dr
  · have HT := Lib.hid (show takeF dr f s = (8, f) by unfold takeF; rw [if_pos hd])
    rw [show decide (s.spot.node ∈ dr) = true by simpa using hd] at HDR
    rw [HT.out]
    clear h hf hf' hk hd hs b0
    go_enter Try.func32, Try.ntmps32
    go_wp2_with fail
    refine HDR.out.mono ?_
    rintro e w1 ⟨rfl, rfl⟩
    go_wp2
    go_ret
    exact ClPost.same H.out HF.out 8 HB0.out
  · rw [show decide (s.spot.node ∈ dr) = false by simpa using hd] at HDR
    have c0 := World.alloc_heap_new w (.cells #[.int .i64 s.spot.node, .int .i64 s.spot.domain, .int .u64 s.mask, .int .i64 s.cpus] 44)
    obtain ⟨r1, r2, r3, r4⟩ := (h.later b0).cellsOf hk hf'
    have z3 := frozen_of_block (h.later b0).row (k * 4 + 2)
    have z4 := frozen_of_block (h.later b0).row (k * 4 + 3)
    have HS := Lib.hid (World.size_alloc w (.cells #[.int .i64 s.spot.node, .int .i64 s.spot.domain, .int .u64 s.mask, .int .i64 s.cpus] 44))
    obtain ⟨sn, sd⟩ := hs.1
    obtain ⟨z, hz⟩ : ∃ z, Go.bits .andNot .u64 s.mask f.mask = z := ⟨_, rfl⟩
    have HZ := Lib.hid hz
    by_cases hz0 : z = 0
    · by_cases hc : f.cpus < s.cpus
      · have HT := Lib.hid (show takeF dr f s = (5, f) by unfold takeF; rw [if_neg hd, if_pos (.inr hc)])
        rw [HT.out]
        have hc2 : decide (f.cpus < s.cpus) = true := by simpa using hc
        subst hz0
        clear h hf hf' hd hs hc HZ sn sd
        go_enter Try.func32, Try.ntmps32
        go_wp2_with fail
        refine HDR.out.mono ?_
        rintro e w1 ⟨rfl, rfl⟩
        have e0 := cell_of_block c0 0; have e1 := cell_of_block c0 1; have e2 := cell_of_block c0 2; have e3 := cell_of_block c0 3
        have lz := lt_of_block c0
        have lF2 : F < (w.alloc (.cells #[.int .i64 s.spot.node, .int .i64 s.spot.domain, .int .u64 s.mask, .int .i64 s.cpus] 44)).heap.size := by rw [HS.out]; omega
        generalize w.alloc (.cells #[.int .i64 s.spot.node, .int .i64 s.spot.domain, .int .u64 s.mask, .int .i64 s.cpus] 44) = w1 at HB0 e0 e1 e2 e3 lz lF2 r1 r2 r3 r4 z3 z4 ⊢
        clear c0 b0 HDR HS
        go_wp2_with fail
        go_quiet (fail)
        go_wp2
        go_ret
        have hb1 : Below w1.heap.size w1 (w1.drewN nq) := ⟨rfl, rfl, rfl, Nat.le_refl _, fun _ _ => rfl⟩
        exact ClPost.same H.out HF.out 5 (HB0.out.trans (hb1.mono HB0.out.size))
      · have HT := Lib.hid (show takeF dr f s = (0, ⟨f.spot, Go.bits .andNot .u64 f.mask s.mask, IntKind.i64.wrap (f.cpus - s.cpus)⟩) by unfold takeF; rw [if_neg hd, if_neg (by rw [hz]; simp [hz0]; omega)])
        rw [HT.out]
        have hc2 : decide (f.cpus < s.cpus) = false := by simpa using hc
        obtain ⟨m', hm'⟩ : ∃ m', Go.bits .andNot .u64 f.mask s.mask = m' := ⟨_, rfl⟩
        obtain ⟨c', hc'⟩ : ∃ c', IntKind.i64.wrap (f.cpus - s.cpus) = c' := ⟨_, rfl⟩
        rw [hm', hc']
        subst hz0
        clear h hf hf' hd hs hc HZ sn sd
        go_enter Try.func32, Try.ntmps32
        go_wp2_with fail
        refine HDR.out.mono ?_
        rintro e w1 ⟨rfl, rfl⟩
        have e0 := cell_of_block c0 0; have e1 := cell_of_block c0 1; have e2 := cell_of_block c0 2; have e3 := cell_of_block c0 3
        have lz := lt_of_block c0
        have lF2 : F < (w.alloc (.cells #[.int .i64 s.spot.node, .int .i64 s.spot.domain, .int .u64 s.mask, .int .i64 s.cpus] 44)).heap.size := by rw [HS.out]; omega
        have hne : F ≠ w.heap.size := by omega
        have hne2 : w.heap.size ≠ F := by omega
        generalize w.alloc (.cells #[.int .i64 s.spot.node, .int .i64 s.spot.domain, .int .u64 s.mask, .int .i64 s.cpus] 44) = w1 at HB0 e0 e1 e2 e3 lz lF2 r1 r2 r3 r4 z3 z4 ⊢
        clear c0 b0 HDR HS
        go_wp2_with fail
        go_quiet (fail)
        have hb1 : Below w1.heap.size w1 (w1.drewN nq) := ⟨rfl, rfl, rfl, Nat.le_refl _, fun _ _ => rfl⟩
        have HB1 := Lib.hid (HB0.out.trans (hb1.mono HB0.out.size))
        have e1' : (w1.drewN nq).cell? ⟨w.heap.size, 2, none⟩ = _ := e2
        have e3' : (w1.drewN nq).cell? ⟨w.heap.size, 3, none⟩ = _ := e3
        have r3' : (w1.drewN nq).cell? ⟨F, k * 4 + 2, none⟩ = _ := r3
        have r4' : (w1.drewN nq).cell? ⟨F, k * 4 + 3, none⟩ = _ := r4
        have z3' : (w1.drewN nq).frozen? ⟨F, k * 4 + 2, none⟩ = _ := z3
        have z4' : (w1.drewN nq).frozen? ⟨F, k * 4 + 3, none⟩ = _ := z4
        have lF3 : F < (w1.drewN nq).heap.size := lF2
        have lz3 : w.heap.size < (w1.drewN nq).heap.size := lz
        clear e0 e1 e2 e3 r1 r2 r3 r4 z3 z4 lF2 lz hb1 HB0
        generalize w1.drewN nq = w2 at HB1 e1' e3' r3' r4' z3' z4' lF3 lz3 ⊢
        go_wp2_with fail
        go_region
        go_wp2_with fail
        go_region
        go_wp2
        all_goals go_ret
        all_goals exact ClPost.set H.out HF.out HB1.out m' c' rfl rfl rfl rfl
    · have HT := Lib.hid (show takeF dr f s = (5, f) by unfold takeF; rw [if_neg hd, if_pos (.inl (by rw [hz]; exact hz0))])
      rw [HT.out]
      have hc2 : (z != 0) = true := by simpa using hz0
      clear h hf hf' hd hs HZ sn sd hz0
      go_enter Try.func32, Try.ntmps32
      go_wp2_with fail
      refine HDR.out.mono ?_
      rintro e w1 ⟨rfl, rfl⟩
      have e0 := cell_of_block c0 0; have e1 := cell_of_block c0 1; have e2 := cell_of_block c0 2; have e3 := cell_of_block c0 3
      have lz := lt_of_block c0
      have lF2 : F < (w.alloc (.cells #[.int .i64 s.spot.node, .int .i64 s.spot.domain, .int .u64 s.mask, .int .i64 s.cpus] 44)).heap.size := by rw [HS.out]; omega
      generalize w.alloc (.cells #[.int .i64 s.spot.node, .int .i64 s.spot.domain, .int .u64 s.mask, .int .i64 s.cpus] 44) = w1 at HB0 e0 e1 e2 e3 lz lF2 r1 r2 r3 r4 z3 z4 ⊢
      clear c0 b0 HDR HS
      go_wp2_with fail
      go_quiet (fail)
      go_wp2
      go_ret
      have hb1 : Below w1.heap.size w1 (w1.drewN nq) := ⟨rfl, rfl, rfl, Nat.le_refl _, fun _ _ => rfl⟩
      exact ClPost.same H.out HF.out 5 (HB0.out.trans (hb1.mono HB0.out.size))
end Go.Proofs.Ytdmbjjladkdphaa
