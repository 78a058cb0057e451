/-
  queue: the document's Remove.
-/
import Derived.Test.YtobdbjkhajinbaaRefQ3
set_option linter.unusedVariables false
set_option linter.unusedSimpArgs false
namespace Go.Proofs.Ytobdbjkhajinbaa
open Go.RowKit
theorem flatW_get : ∀ (l : List Wt) (i j : Nat) (hi : i < l.length) (hj : j < 10), (l.flatMap Wt.cells)[i * 10 + j]? = (Wt.cells l[i])[j]? := by
  intro l
  induction l with
  | nil => intro i j hi; simp at hi
  | cons y r ih =>
    intro i j hi hj
    rw [List.flatMap_cons]
    cases i with
    | zero => rw [Nat.zero_mul, Nat.zero_add, List.getElem?_append_left (by simpa [Wt.cells] using hj)]; rfl
    | succ i =>
      rw [List.getElem?_append_right (by simp [Wt.cells]; omega), show (i + 1) * 10 + j - (Wt.cells y).length = i * 10 + j by simp [Wt.cells]; omega]
      exact ih i j (by simpa using hi) hj
/-- a part of a row -/
theorem src_part {w : World} {b o n c : Nat} {l : List Wt} (h : Rd.SliceOf w (.slice (some ⟨b, o, none⟩) n c) 10 Wt.cells l) (lo hi : Nat) (hh : hi ≤ l.length) (ad : Addr) (c' : Nat) (had : lo < hi → ad = ⟨b, o + lo * 10, none⟩) : Src w 10 (some ad) ((l.take hi).drop lo).length c' (((l.take hi).drop lo).flatMap Wt.cells) := by
  refine .inr ⟨ad, rfl, flatW_len _, fun j u hu => ?_⟩
  have hj := (List.getElem?_eq_some_iff.1 hu).1
  rw [flatW_len] at hj
  obtain ⟨q, r, hr, rfl⟩ : ∃ q r, r < 10 ∧ j = q * 10 + r := ⟨j / 10, j % 10, by omega, by omega⟩
  have hq : q < ((l.take hi).drop lo).length := by omega
  rw [flatW_get _ q r hq hr] at hu
  have hl : ((l.take hi).drop lo).length = hi - lo := by simp; omega
  have hlk : lo + q < l.length := by omega
  have hx : ((l.take hi).drop lo)[q] = l[lo + q] := by
    have h1 : ((l.take hi).drop lo)[q]? = l[lo + q]? := by rw [List.getElem?_drop, List.getElem?_take, if_pos (by omega)]
    rw [List.getElem?_eq_getElem hq, List.getElem?_eq_getElem hlk] at h1
    exact Option.some.inj h1
  rw [hx] at hu
  obtain ⟨b', off, cap, hv, _, _, hb, hcell⟩ := h.plain (by intro e; rw [e] at hlk; simp at hlk) (by intro x _; simp [Wt.cells])
  simp only [Value.slice.injEq, Option.some.injEq, Addr.mk.injEq] at hv
  obtain ⟨⟨rfl, rfl, -⟩, -, -⟩ := hv
  rw [had (by omega)]
  have e : (⟨b, o + lo * 10, none⟩ : Addr).add (q * 10 + r) = ⟨b, o + ((lo + q) * 10 + r), none⟩ := by unfold Addr.add; split <;> simp_all <;> omega
  rw [e, hcell (lo + q) hlk r (by simpa [Wt.cells] using hr)]
  rw [List.getElem?_eq_getElem (by simpa [Wt.cells] using hr)] at hu
  exact hu
section
variable {W w w' : World} {p : Nat} {ra : Option Addr} {rc : Nat} {v : Value} {rooms : List Int} {L : List Wt}
set_option maxRecDepth 100000 in
set_option maxHeartbeats 4000000 in
theorem dremove_any (h : DAt W w p ra rc v rooms L) (id : Int) :
    Calls Try.prog 37 #[.pointer (some ⟨p, 0, none⟩), .int .i64 id] w (TakeD true W p ra rc v rooms L id w) := by
  have H := Lib.hid h
  clear h
  go_enter Try.func37, Try.ntmps37
  go_upto_region 1 with fail
  have hb1 := (Below.refl w.heap.size w).alloc (Nat.le_refl _) (.cells #[.int .i64 0, .int .i64 0, .int .i64 0, .int .i64 0, .int .i64 0, .int .i64 0, .int .i64 0, .int .i64 0, .int .i64 0, .int .i64 0] 35)
  have kB := World.alloc_heap_new w (.cells #[.int .i64 0, .int .i64 0, .int .i64 0, .int .i64 0, .int .i64 0, .int .i64 0, .int .i64 0, .int .i64 0, .int .i64 0, .int .i64 0] 35)
  generalize w.alloc (.cells #[.int .i64 0, .int .i64 0, .int .i64 0, .int .i64 0, .int .i64 0, .int .i64 0, .int .i64 0, .int .i64 0, .int .i64 0, .int .i64 0] 35) = w1 at hb1 kB ⊢
  obtain ⟨B, hB⟩ : ∃ B, w.heap.size = B := ⟨_, rfl⟩
  have HBE := Lib.hid hB
  rw [hB] at kB ⊢
  have HB1 := Lib.hid hb1; have HK := Lib.hid kB; have H1 := Lib.hid (H.out.later hb1)
  clear hb1 kB hB
  go_wp2_with fail
  refine (dget_b H1.out id).mono ?_
  rintro e w2 ⟨y, cd, rfl, hb2, hcase⟩
  have HY := Lib.hid hcase
  have HB4 := Lib.hid ((hb2.block _ (lt_of_block HK.out)).trans HK.out); have H2 := Lib.hid (H1.out.later hb2); have HB2 := Lib.hid (HB1.out.trans (hb2.mono HB1.out.size))
  obtain ⟨⟨x0, x1, x2, x3, ⟨x4, x5, x6, x7⟩⟩, x8, x9⟩ := y
  have hwv : wtV ⟨⟨x0, x1, x2, x3, ⟨x4, x5, x6, x7⟩⟩, x8, x9⟩ = .agg #[.int .i64 x0, .int .i64 x1, .int .i64 x2, .int .i64 x3, .int .i64 x4, .int .i64 x5, .int .i64 x6, .int .i64 x7, .int .i64 x8, .int .i64 x9] := rfl
  rw [hwv]
  clear hb2 hcase hwv
  go_upto_region 2 with fail
  have hb3 := (Below.refl w2.heap.size w2).alloc (Nat.le_refl _) (.cells #[.int .i64 x0, .int .i64 x1, .int .i64 x2, .int .i64 x3, .int .i64 x4, .int .i64 x5, .int .i64 x6, .int .i64 x7, .int .i64 x8, .int .i64 x9] 35)
  have kY := World.alloc_heap_new w2 (.cells #[.int .i64 x0, .int .i64 x1, .int .i64 x2, .int .i64 x3, .int .i64 x4, .int .i64 x5, .int .i64 x6, .int .i64 x7, .int .i64 x8, .int .i64 x9] 35)
  have hB5 := (hb3.block B (lt_of_block HB4.out)).trans HB4.out
  have H3 := Lib.hid (H2.out.later hb3)
  generalize w2.alloc (.cells #[.int .i64 x0, .int .i64 x1, .int .i64 x2, .int .i64 x3, .int .i64 x4, .int .i64 x5, .int .i64 x6, .int .i64 x7, .int .i64 x8, .int .i64 x9] 35) = w3 at hb3 kY hB5 H3 ⊢
  obtain ⟨Y, hY⟩ : ∃ Y, w2.heap.size = Y := ⟨_, rfl⟩
  rw [hY] at kY ⊢
  have HB3 := Lib.hid (HB2.out.trans (hb3.mono HB2.out.size)); have HKY := Lib.hid kY; have HB5 := Lib.hid hB5
  have HYB := Lib.hid (show B < Y by have := lt_of_block HB4.out; omega)
  clear hb3 kY hB5 hY HB4
  obtain ⟨k, hk, hkid, hbf, hyk, rfl⟩ | ⟨hno, hy0, rfl⟩ : (∃ (k : Nat) (hk : k < L.length), L[k].job.id = id ∧ (∀ x ∈ L.take k, x.job.id ≠ id) ∧ (⟨⟨x0, x1, x2, x3, ⟨x4, x5, x6, x7⟩⟩, x8, x9⟩ : Wt) = L[k] ∧ cd = 0) ∨ ((∀ x ∈ L, x.job.id ≠ id) ∧ (⟨⟨x0, x1, x2, x3, ⟨x4, x5, x6, x7⟩⟩, x8, x9⟩ : Wt) = zeroWt ∧ cd = 3) := by
    rcases HY.out with ⟨a, b, c, _⟩ | ⟨k, hk, a, b, c, d, _⟩
    · exact .inr ⟨a, b, c⟩
    · exact .inl ⟨k, hk, a, b, c, d⟩
  · have HC := Lib.hid (show CaseD true L id ⟨⟨x0, x1, x2, x3, ⟨x4, x5, x6, x7⟩⟩, x8, x9⟩ 0 (L.eraseIdx k) from .inr ⟨k, hk, hkid, hbf, hyk, rfl, by simp⟩)
    have HFD := Lib.hid (show FD L id (k : Nat) from .inl ⟨k, hk, rfl, hkid, hbf⟩)
    have HER := Lib.hid (show L.eraseIdx k = L.take k ++ L.drop (k + 1) from List.eraseIdx_eq_take_drop_succ _ _)
    clear hkid hbf hyk HY
    go_wp2_with fail
    refine (dfind_any H3.out id).mono ?_
    rintro e z ⟨⟨r, rfl, hf⟩, hz⟩
    replace hz := hz.symm
    subst hz
    obtain rfl := hf.uniq HFD.out
    clear hf
    obtain ⟨a2, cap, hv2, hs, -, c1, lp⟩ := H3.out.at
    obtain ⟨b, o, cap', hv3, hncap, hcapm, hbl, -⟩ := hs.plain (by intro e; rw [e] at hk; simp at hk) (by intro x _; simp [Wt.cells])
    simp only [Value.slice.injEq] at hv3
    obtain ⟨rfl, -, rfl⟩ := hv3
    have hfew := H3.out.few
    obtain ⟨n, hn⟩ : ∃ n, L.length = n := ⟨_, rfl⟩
    have HN := Lib.hid hn
    rw [hn] at c1 hk hncap hfew
    have hkc : k ≤ cap := by omega
    have hw1 : IntKind.i64.wrap ((k : Int) + 1) = (k : Int) + 1 := by rw [wrap_eq]; unfold wrap64; omega
    have i1 : (k : Int) + 1 ≤ n := by omega
    have i2 : ((k : Int) + 1).toNat = k + 1 := by omega
    have i3 : (0 : Int) ≤ (k : Int) + 1 := by omega
    obtain ⟨ad, hif⟩ : ∃ ad, (if cap = k + 1 then (some ⟨b, o, none⟩ : Option Addr) else some ⟨b, o + (k + 1) * 10, none⟩) = some ad := by split <;> exact ⟨_, rfl⟩
    have HL1 := Lib.hid (show (L.take k).length = k by rw [List.length_take, HN.out]; omega)
    have HL2 := Lib.hid (show (L.drop (k + 1)).length = n - (k + 1) by rw [List.length_drop, HN.out])
    have hs1 := src_part hs 0 k (by rw [hn]; omega) ⟨b, o, none⟩ cap (fun _ => by simp)
    rw [List.drop_zero, HL1.out] at hs1
    have hs2 := src_part hs (k + 1) n (by rw [hn]; exact Nat.le_refl _) ad (cap - (k + 1)) (fun hlt => by
      rw [if_neg (by omega)] at hif; exact (Option.some.inj hif).symm)
    rw [show L.take n = L by rw [← hn]; exact List.take_length, HL2.out] at hs2
    obtain ⟨s1f, hs1f⟩ : ∃ f, (L.take k).flatMap Wt.cells = f := ⟨_, rfl⟩
    obtain ⟨s2f, hs2f⟩ : ∃ f, (L.drop (k + 1)).flatMap Wt.cells = f := ⟨_, rfl⟩
    have HO1 := Lib.hid (hs1f ▸ wts_one (L.take k)); have HO2 := Lib.hid (hs2f ▸ wts_one (L.drop (k + 1)))
    rw [hs1f] at hs1
    rw [hs2f] at hs2
    have hfin : ∀ (v9 : Value) (w9 : World), w9.ownsRow w3.heap.size 35 10 v9 (k + (n - (k + 1))) (s1f ++ s2f) → Below w3.heap.size w3 w9 → StepD W p ra rc v rooms (L.eraseIdx k) w3 (w9.setCell ⟨p, 1, none⟩ v9) := fun v9 w9 ho hb =>
      H3.out.put (Below.refl _ _) hb (by rw [HER.out, List.length_append, HL1.out, HL2.out, List.flatMap_append, hs1f, hs2f]; exact ho) (by rw [HER.out, List.length_append, HL1.out, HL2.out]; omega)
    have HFIN := Lib.hid hfin; have HS1 := Lib.hid hs1; have HS2 := Lib.hid hs2
    have HC1 := Lib.hid c1
    have q0 : ∀ y : Later w3, y.wd.cell? ⟨p, 1, none⟩ = some (.slice (some ⟨b, o, none⟩) n cap) := fun y => (y.cell lp).trans HC1.out
    obtain ⟨i0, hi0, hz0, hz1, hz2⟩ := info_parts infoWt
    have fx0 := (Below.refl w3.heap.size w3).drew
    have HH := Lib.hid H3.out.head
    clear hfin hs1 hs2 hs hv2 hn hs1f hs2f c1 hbl
    go_wp2_with fail
    refine Rg.wp_region_pick (by kernel_rfl) [0, 2, 3, 4, 5, 6, 7, 9, 10, 11, 12, 13, 14, 15] [1, 8, 16, 17, 18, 19] 17 (by kernel_rfl) (by kernel_rfl) (by kernel_rfl) (fun w' => ∃ y : Later w3, w' = y.wd) (fun c a a' w hd h => ⟨hd.symm.trans h.1, h.2⟩) ⟨⟨_, fx0⟩, rfl⟩ ?_
    simp only [Rg.picks, List.getElem?_cons_succ, List.getElem?_cons_zero, Option.toList, List.cons_append, List.nil_append]
    repeat (quiet_step (fail))
    refine wpQuiet_nil ?_
    clear q0
    simp only [Rg.pickn, List.getElem?_cons_succ, List.getElem?_cons_zero, Option.toList, List.map_cons, List.map_nil, List.cons_append, List.nil_append]
    refine Rg.wpN_step (fun K hK => ?_) ⟨⟨_, fx0⟩, rfl⟩
    go_simp
    have B6 : Below w3.heap.size w3 (w3.alloc (.cells #[] 35)).drew := ((Below.refl _ _).alloc (Nat.le_refl _) _).drew
    refine hK _ _ (fun _ => ⟨⟨_, B6⟩, rfl⟩) ?_
    clear hK K
    refine Rg.wpN_step (fun K hK => ?_) ⟨⟨_, B6⟩, rfl⟩
    refine step_append_src _ (by rfl) _ _ _ (by rfl) w3.heap.size 35 i0 _ 10 80 Try.underlying39 hi0 hz0 hz1 hz2 rfl (by omega) (.slice (some ⟨w3.heap.size, 0, none⟩) 0 0) 0 [] (by rfl) (World.ownsRow_made w3 _ 0 (Nat.le_refl _) (by unfold maxLen; omega) rfl).drew
      (some ⟨b, o, none⟩) k cap _ (by rfl) (HS1.out.later B6) HO1.out (by unfold maxLen; omega) (by omega) (by simp) ?_
    intro v7 w7 hown7 hg7 hat7
    have B7 : Below w3.heap.size w3 w7 := ((Fr.refl w3.heap.size (fun _ => False) w3).alloc (Nat.le_refl _) _).drew.grown hg7 (by simp) (fun k e => .inl (by simp [Value.ownBlock] at e; omega)) |>.below (Nat.le_refl _) (fun _ h => h.elim)
    refine hK _ _ (fun _ => ⟨⟨_, B7⟩, rfl⟩) ?_
    clear hK K
    refine Rg.wpN_step (fun K hK => ?_) ⟨⟨_, B7⟩, rfl⟩
    refine step_append_src _ (by rfl) _ _ _ (by rfl) w3.heap.size 35 i0 _ 10 80 Try.underlying39 hi0 hz0 hz1 hz2 rfl (by omega) v7 (0 + k) ([] ++ s1f) (by rfl) hown7
      (some ad) (n - (k + 1)) (cap - (k + 1)) _ (by rfl) (HS2.out.later B7) HO2.out (by unfold maxLen; omega) (by omega) B7.size ?_
    intro v8 w8 hown8 hg8 hat8
    have B8 : Below w3.heap.size w3 w8 := (Fr.of_below B7 (fun _ => False)).grown hg8 B7.size (fun k e => .inl ((hown7.lt k e).1)) |>.below (Nat.le_refl _) (fun _ h => h.elim)
    refine hK _ _ (fun _ => ⟨⟨_, B8⟩, rfl⟩) ?_
    clear hK K
    refine Rg.wpN_list (by decide) ?_
    simp only [List.map_cons, List.map_nil]
    obtain ⟨a9, c9, hva⟩ := own_form hown8
    have Q := HFIN.out v8 w8 (by simpa using hown8) B8
    have hh9 := (B8.block _ lp).trans HH.out
    have hY9 := (B8.block _ (lt_of_block HKY.out)).trans HKY.out
    have hB9 := (B8.block _ (lt_of_block HB5.out)).trans HB5.out
    have hYp : Y ≠ p := fun e => by have := lt_of_block H2.out.head; have := lt_of_block HKY.out; have := HBE.out; have := H.out.head; have := lt_of_block H.out.head; have := HYB.out; omega
    have hBp : B ≠ p := fun e => by have := HBE.out; have := lt_of_block H.out.head; omega
    obtain ⟨m9, hm9⟩ : ∃ m9, 0 + k + (n - (k + 1)) = m9 := ⟨_, rfl⟩
    rw [hm9] at hva
    rw [hva] at Q ⊢
    have HQ := Lib.hid Q
    have e0 := cell_of_block hh9 1; have e1 := frozen_of_block hh9 1
    have lp9 := lt_of_block hh9
    have HY9 := Lib.hid hY9; have HB9 := Lib.hid hB9
    clear hown7 hown8 hg7 hg8 hat7 hat8 hh9 Q B6 B7 B8 hva hm9 hY9 hB9
    go_upto_region 5 with fail
    have hYw : (w8.setCell ⟨p, 1, none⟩ (.slice a9 m9 c9)).heap[Y]? = some (.cells #[.int .i64 x0, .int .i64 x1, .int .i64 x2, .int .i64 x3, .int .i64 x4, .int .i64 x5, .int .i64 x6, .int .i64 x7, .int .i64 x8, .int .i64 x9] 35 (0, 0)) := (setCell_other (p := ⟨p, 1, none⟩) _ hYp).trans HY9.out
    have hBw : (w8.setCell ⟨p, 1, none⟩ (.slice a9 m9 c9)).heap[B]? = some (.cells #[.int .i64 0, .int .i64 0, .int .i64 0, .int .i64 0, .int .i64 0, .int .i64 0, .int .i64 0, .int .i64 0, .int .i64 0, .int .i64 0] 35 (0, 0)) := (setCell_other (p := ⟨p, 1, none⟩) _ hBp).trans HB9.out
    clear e0 e1 lp9 lp hYp hBp
    generalize w8.setCell ⟨p, 1, none⟩ (.slice a9 m9 c9) = w10 at HQ hYw hBw ⊢
    have y0 := cell_of_block hYw 0; have y1 := cell_of_block hYw 1; have y2 := cell_of_block hYw 2; have y3 := cell_of_block hYw 3; have y4 := cell_of_block hYw 4; have y5 := cell_of_block hYw 5; have y6 := cell_of_block hYw 6; have y7 := cell_of_block hYw 7; have y8 := cell_of_block hYw 8; have y9 := cell_of_block hYw 9
    have r0 := cell_of_block hBw 0; have r1 := cell_of_block hBw 1; have r2 := cell_of_block hBw 2; have r3 := cell_of_block hBw 3; have r4 := cell_of_block hBw 4; have r5 := cell_of_block hBw 5; have r6 := cell_of_block hBw 6; have r7 := cell_of_block hBw 7; have r8 := cell_of_block hBw 8; have r9 := cell_of_block hBw 9
    have lY := lt_of_block hYw; have rz := frozen_of_block hBw; have lB := lt_of_block hBw
    have HBW := Lib.hid hBw
    clear hYw hBw
    go_wp2_with fail
    have hst : (((((((((((w10.setCell ⟨B, 0, none⟩ (.int .i64 x0)).setCell ⟨B, 1, none⟩ (.int .i64 x1)).setCell ⟨B, 2, none⟩ (.int .i64 x2)).setCell ⟨B, 3, none⟩ (.int .i64 x3)).setCell ⟨B, 4, none⟩ (.int .i64 x4)).setCell ⟨B, 5, none⟩ (.int .i64 x5)).setCell ⟨B, 6, none⟩ (.int .i64 x6)).setCell ⟨B, 7, none⟩ (.int .i64 x7)).setCell ⟨B, 8, none⟩ (.int .i64 x8)).setCell ⟨B, 9, none⟩ (.int .i64 x9))).heap[B]? = some (.cells #[.int .i64 x0, .int .i64 x1, .int .i64 x2, .int .i64 x3, .int .i64 x4, .int .i64 x5, .int .i64 x6, .int .i64 x7, .int .i64 x8, .int .i64 x9] 35 (0, 0)) := setCellsL_block [.int .i64 x0, .int .i64 x1, .int .i64 x2, .int .i64 x3, .int .i64 x4, .int .i64 x5, .int .i64 x6, .int .i64 x7, .int .i64 x8, .int .i64 x9] 0 w10 [.int .i64 0, .int .i64 0, .int .i64 0, .int .i64 0, .int .i64 0, .int .i64 0, .int .i64 0, .int .i64 0, .int .i64 0, .int .i64 0] HBW.out
    have hfs : Fr w10.heap.size (fun q => q = B) w10 (((((((((((w10.setCell ⟨B, 0, none⟩ (.int .i64 x0)).setCell ⟨B, 1, none⟩ (.int .i64 x1)).setCell ⟨B, 2, none⟩ (.int .i64 x2)).setCell ⟨B, 3, none⟩ (.int .i64 x3)).setCell ⟨B, 4, none⟩ (.int .i64 x4)).setCell ⟨B, 5, none⟩ (.int .i64 x5)).setCell ⟨B, 6, none⟩ (.int .i64 x6)).setCell ⟨B, 7, none⟩ (.int .i64 x7)).setCell ⟨B, 8, none⟩ (.int .i64 x8)).setCell ⟨B, 9, none⟩ (.int .i64 x9))) := setCellsL_fr (b := B) (F := fun q => q = B) rfl [.int .i64 x0, .int .i64 x1, .int .i64 x2, .int .i64 x3, .int .i64 x4, .int .i64 x5, .int .i64 x6, .int .i64 x7, .int .i64 x8, .int .i64 x9] 0 w10 (Fr.refl _ _ _)
    generalize ((((((((((w10.setCell ⟨B, 0, none⟩ (.int .i64 x0)).setCell ⟨B, 1, none⟩ (.int .i64 x1)).setCell ⟨B, 2, none⟩ (.int .i64 x2)).setCell ⟨B, 3, none⟩ (.int .i64 x3)).setCell ⟨B, 4, none⟩ (.int .i64 x4)).setCell ⟨B, 5, none⟩ (.int .i64 x5)).setCell ⟨B, 6, none⟩ (.int .i64 x6)).setCell ⟨B, 7, none⟩ (.int .i64 x7)).setCell ⟨B, 8, none⟩ (.int .i64 x8)).setCell ⟨B, 9, none⟩ (.int .i64 x9)) = w9 at hst hfs ⊢
    refine bodyPost_ret (results_ct rfl _ _ B _ _ (0, 0) _ Try.underlying35 rfl rfl hst (by kernel_rfl)) rfl ?_
    exact ⟨_, _, _, rfl, StepD.after H.out HQ.out HB3.out hfs (by have := HBE.out; omega) (lt_of_block HB5.out), HC.out⟩
  · have HC := Lib.hid (show CaseD true L id ⟨⟨x0, x1, x2, x3, ⟨x4, x5, x6, x7⟩⟩, x8, x9⟩ 3 L from .inl ⟨hno, hy0, rfl, rfl⟩)
    have HQ := Lib.hid (show StepD W p ra rc v rooms L w3 w3 from StepD.same H3.out (Below.refl _ _))
    clear hno hy0 HY
    have hYw := HKY.out
    have hBw := HB5.out
    go_upto_region 5 with fail
    obtain ⟨w10, HQ, hYw, hBw, hw10⟩ : ∃ w10, Hid (StepD W p ra rc v rooms L w3 w10) ∧ w10.heap[Y]? = some (.cells #[.int .i64 x0, .int .i64 x1, .int .i64 x2, .int .i64 x3, .int .i64 x4, .int .i64 x5, .int .i64 x6, .int .i64 x7, .int .i64 x8, .int .i64 x9] 35 (0, 0)) ∧ w10.heap[B]? = some (.cells #[.int .i64 0, .int .i64 0, .int .i64 0, .int .i64 0, .int .i64 0, .int .i64 0, .int .i64 0, .int .i64 0, .int .i64 0, .int .i64 0] 35 (0, 0)) ∧ w3 = w10 := ⟨w3, HQ, hYw, hBw, rfl⟩
    rw [hw10]
    clear hw10
    have y0 := cell_of_block hYw 0; have y1 := cell_of_block hYw 1; have y2 := cell_of_block hYw 2; have y3 := cell_of_block hYw 3; have y4 := cell_of_block hYw 4; have y5 := cell_of_block hYw 5; have y6 := cell_of_block hYw 6; have y7 := cell_of_block hYw 7; have y8 := cell_of_block hYw 8; have y9 := cell_of_block hYw 9
    have r0 := cell_of_block hBw 0; have r1 := cell_of_block hBw 1; have r2 := cell_of_block hBw 2; have r3 := cell_of_block hBw 3; have r4 := cell_of_block hBw 4; have r5 := cell_of_block hBw 5; have r6 := cell_of_block hBw 6; have r7 := cell_of_block hBw 7; have r8 := cell_of_block hBw 8; have r9 := cell_of_block hBw 9
    have lY := lt_of_block hYw; have rz := frozen_of_block hBw; have lB := lt_of_block hBw
    have HBW := Lib.hid hBw
    clear hYw hBw
    go_wp2_with fail
    have hst : (((((((((((w10.setCell ⟨B, 0, none⟩ (.int .i64 x0)).setCell ⟨B, 1, none⟩ (.int .i64 x1)).setCell ⟨B, 2, none⟩ (.int .i64 x2)).setCell ⟨B, 3, none⟩ (.int .i64 x3)).setCell ⟨B, 4, none⟩ (.int .i64 x4)).setCell ⟨B, 5, none⟩ (.int .i64 x5)).setCell ⟨B, 6, none⟩ (.int .i64 x6)).setCell ⟨B, 7, none⟩ (.int .i64 x7)).setCell ⟨B, 8, none⟩ (.int .i64 x8)).setCell ⟨B, 9, none⟩ (.int .i64 x9))).heap[B]? = some (.cells #[.int .i64 x0, .int .i64 x1, .int .i64 x2, .int .i64 x3, .int .i64 x4, .int .i64 x5, .int .i64 x6, .int .i64 x7, .int .i64 x8, .int .i64 x9] 35 (0, 0)) := setCellsL_block [.int .i64 x0, .int .i64 x1, .int .i64 x2, .int .i64 x3, .int .i64 x4, .int .i64 x5, .int .i64 x6, .int .i64 x7, .int .i64 x8, .int .i64 x9] 0 w10 [.int .i64 0, .int .i64 0, .int .i64 0, .int .i64 0, .int .i64 0, .int .i64 0, .int .i64 0, .int .i64 0, .int .i64 0, .int .i64 0] HBW.out
    have hfs : Fr w10.heap.size (fun q => q = B) w10 (((((((((((w10.setCell ⟨B, 0, none⟩ (.int .i64 x0)).setCell ⟨B, 1, none⟩ (.int .i64 x1)).setCell ⟨B, 2, none⟩ (.int .i64 x2)).setCell ⟨B, 3, none⟩ (.int .i64 x3)).setCell ⟨B, 4, none⟩ (.int .i64 x4)).setCell ⟨B, 5, none⟩ (.int .i64 x5)).setCell ⟨B, 6, none⟩ (.int .i64 x6)).setCell ⟨B, 7, none⟩ (.int .i64 x7)).setCell ⟨B, 8, none⟩ (.int .i64 x8)).setCell ⟨B, 9, none⟩ (.int .i64 x9))) := setCellsL_fr (b := B) (F := fun q => q = B) rfl [.int .i64 x0, .int .i64 x1, .int .i64 x2, .int .i64 x3, .int .i64 x4, .int .i64 x5, .int .i64 x6, .int .i64 x7, .int .i64 x8, .int .i64 x9] 0 w10 (Fr.refl _ _ _)
    generalize ((((((((((w10.setCell ⟨B, 0, none⟩ (.int .i64 x0)).setCell ⟨B, 1, none⟩ (.int .i64 x1)).setCell ⟨B, 2, none⟩ (.int .i64 x2)).setCell ⟨B, 3, none⟩ (.int .i64 x3)).setCell ⟨B, 4, none⟩ (.int .i64 x4)).setCell ⟨B, 5, none⟩ (.int .i64 x5)).setCell ⟨B, 6, none⟩ (.int .i64 x6)).setCell ⟨B, 7, none⟩ (.int .i64 x7)).setCell ⟨B, 8, none⟩ (.int .i64 x8)).setCell ⟨B, 9, none⟩ (.int .i64 x9)) = w9 at hst hfs ⊢
    refine bodyPost_ret (results_ct rfl _ _ B _ _ (0, 0) _ Try.underlying35 rfl rfl hst (by kernel_rfl)) rfl ?_
    exact ⟨_, _, _, rfl, StepD.after H.out HQ.out HB3.out hfs (by have := HBE.out; omega) (lt_of_block HB5.out), HC.out⟩
end
end Go.Proofs.Ytobdbjkhajinbaa
