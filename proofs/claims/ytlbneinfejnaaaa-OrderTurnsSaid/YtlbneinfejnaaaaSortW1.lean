/-
  slices.SortStableFunc: the row in memory; swapRange.
-/
import Derived.Test.YtlbneinfejnaaaaSortLaw2
import Derived.Test.YtlbneinfejnaaaaOrder
import Derived.Test.YtlbneinfejnaaaaRegions6
import Derived.Laws.ResultCell
set_option linter.unusedVariables false
set_option linter.unusedSimpArgs false
namespace Go.Proofs.Ytlbneinfejnaaaa.Ss
open Go Go.RowKit
/-- cells stored one behind the other -/
def stL (b : Nat) : Nat → List Value → World → World
  | _, [], w => w
  | i, v :: r, w => stL b (i + 1) r (w.setCell ⟨b, i, none⟩ v)
def ovL : Nat → List Value → List Value → List Value
  | _, [], cs => cs
  | i, v :: r, cs => ovL (i + 1) r (cs.set i v)
theorem stL_block {b : Nat} {t : TypeId} {z : Nat × Nat} : ∀ (vs : List Value) (i : Nat) (w : World) (cs : List Value), w.heap[b]? = some (.cells cs.toArray t z) → (stL b i vs w).heap[b]? = some (.cells (ovL i vs cs).toArray t z)
  | [], _, _, _, h => h
  | v :: r, i, w, cs, h => stL_block r (i + 1) _ _ (by have := setCell_block h i v; simpa using this)
theorem stL_fr {b B : Nat} {F : Nat → Prop} {w0 : World} (hb : F b) : ∀ (vs : List Value) (i : Nat) (w : World), Fr B F w0 w → Fr B F w0 (stL b i vs w)
  | [], _, _, h => h
  | v :: r, i, w, h => stL_fr hb r (i + 1) _ (h.setCell (.inr hb) v)
theorem ovL_cons (c : Value) : ∀ (vs : List Value) (k : Nat) (cs : List Value), ovL (k + 1) vs (c :: cs) = c :: ovL k vs cs
  | [], _, _ => rfl
  | v :: r, k, cs => by
    show ovL (k + 1 + 1) r ((c :: cs).set (k + 1) v) = _
    rw [List.set_cons_succ, ovL_cons c r (k + 1)]
    rfl
theorem ovL_set (y : Wt) (tail : List Value) : ∀ (d : List Wt) (i : Nat), i < d.length → ovL (i * 10) (Wt.cells y) (d.flatMap Wt.cells ++ tail) = (d.set i y).flatMap Wt.cells ++ tail
  | [], i, h => by simp at h
  | x :: r, 0, _ => rfl
  | x :: r, i + 1, h => by
    have ih := ovL_set y tail r i (by simpa using h)
    rw [List.set_cons_succ, List.flatMap_cons, List.flatMap_cons, List.append_assoc, List.append_assoc, ← ih, show (i + 1) * 10 = i * 10 + 10 by omega]
    show ovL (i * 10 + 10) (Wt.cells y) (.int .i64 x.job.id :: .int .i64 x.job.queue :: .int .i64 x.job.prio :: .int .i64 x.job.runtime :: .int .i64 x.job.shape.gpus :: .int .i64 x.job.shape.cpus :: .int .i64 x.job.shape.mn :: .int .i64 x.job.shape.mx :: .int .i64 x.since :: .int .i64 x.number :: (r.flatMap Wt.cells ++ tail)) = _
    rw [ovL_cons, ovL_cons, ovL_cons, ovL_cons, ovL_cons, ovL_cons, ovL_cons, ovL_cons, ovL_cons, ovL_cons]
    rfl
theorem flat_at (d : List Wt) (tail : List Value) {i j : Nat} {x : Wt} (hx : d[i]? = some x) (hj : j < 10) : (d.flatMap Wt.cells ++ tail)[i * 10 + j]? = (Wt.cells x)[j]? := by
  induction d generalizing i with
  | nil => simp at hx
  | cons y r ih =>
    rw [List.flatMap_cons, List.append_assoc]
    cases i with
    | zero =>
      simp at hx
      subst hx
      rw [List.getElem?_append_left (by simp [Wt.cells]; omega), Nat.zero_mul, Nat.zero_add]
    | succ i =>
      rw [List.getElem?_append_right (by simp [Wt.cells]; omega), show (i + 1) * 10 + j - (Wt.cells y).length = i * 10 + j by simp [Wt.cells]; omega]
      exact ih (by simpa using hx)
/-- a row of waits in block B that is being sorted; what the comparison has caught; the sort began in W -/
structure SR (W w : World) (B N1 N2 : Nat) (now age : Int) (tail : List Value) (d : List Wt) : Prop where
  blk : w.heap[B]? = some (.cells (d.flatMap Wt.cells ++ tail).toArray 27 (0, 0))
  c1 : w.heap[N1]? = some (.cells #[.int .i64 now] 3 (0, 0))
  c2 : w.heap[N2]? = some (.cells #[.int .i64 age] 3 (0, 0))
  n1 : N1 ≠ B
  n2 : N2 ≠ B
  fr : Fr W.heap.size (fun g => g = B) W w
  ok : ∀ x ∈ d, RankOk x now age
  len : d.length ≤ 1000000
section
variable {W w w' : World} {B N1 N2 : Nat} {now age : Int} {tail : List Value} {d d' : List Wt}
theorem SR.later (h : SR W w B N1 N2 now age tail d) (hb : Below w.heap.size w w') : SR W w' B N1 N2 now age tail d :=
  ⟨(hb.block _ (lt_of_block h.blk)).trans h.blk, (hb.block _ (lt_of_block h.c1)).trans h.c1, (hb.block _ (lt_of_block h.c2)).trans h.c2, h.n1, h.n2, h.fr.trans (Fr.of_below (hb.mono h.fr.size) _), h.ok, h.len⟩
theorem SR.at (h : SR W w B N1 N2 now age tail d) {i : Nat} {x : Wt} (hx : d[i]? = some x) (w' : World) (hb : Below w.heap.size w w') : w'.cell? ⟨B, i * 10, none⟩ = some (.int .i64 x.job.id) ∧ w'.cell? ⟨B, i * 10 + 1, none⟩ = some (.int .i64 x.job.queue) ∧ w'.cell? ⟨B, i * 10 + 2, none⟩ = some (.int .i64 x.job.prio) ∧ w'.cell? ⟨B, i * 10 + 3, none⟩ = some (.int .i64 x.job.runtime) ∧ w'.cell? ⟨B, i * 10 + 4, none⟩ = some (.int .i64 x.job.shape.gpus) ∧ w'.cell? ⟨B, i * 10 + 5, none⟩ = some (.int .i64 x.job.shape.cpus) ∧ w'.cell? ⟨B, i * 10 + 6, none⟩ = some (.int .i64 x.job.shape.mn) ∧ w'.cell? ⟨B, i * 10 + 7, none⟩ = some (.int .i64 x.job.shape.mx) ∧ w'.cell? ⟨B, i * 10 + 8, none⟩ = some (.int .i64 x.since) ∧ w'.cell? ⟨B, i * 10 + 9, none⟩ = some (.int .i64 x.number) := by
  have hc : ∀ j, j < 10 → w'.cell? ⟨B, i * 10 + j, none⟩ = (Wt.cells x)[j]? := fun j hj => by
    rw [cell_of_block ((hb.block _ (lt_of_block h.blk)).trans h.blk), List.getElem?_toArray, flat_at d tail hx hj]
  exact ⟨hc 0 (by omega), hc 1 (by omega), hc 2 (by omega), hc 3 (by omega), hc 4 (by omega), hc 5 (by omega), hc 6 (by omega), hc 7 (by omega), hc 8 (by omega), hc 9 (by omega)⟩
theorem SR.set (h : SR W w B N1 N2 now age tail d) {i : Nat} (hi : i < d.length) {x : Wt} (hx : RankOk x now age) : SR W (stL B (i * 10) (Wt.cells x) w) B N1 N2 now age tail (d.set i x) := by
  have hf : Fr w.heap.size (fun g => g = B) w (stL B (i * 10) (Wt.cells x) w) := stL_fr (b := B) (F := fun g => g = B) rfl _ _ _ (Fr.refl _ _ _)
  refine ⟨?_, (hf.block _ (lt_of_block h.c1) h.n1).trans h.c1, (hf.block _ (lt_of_block h.c2) h.n2).trans h.c2, h.n1, h.n2, h.fr.trans (hf.mono h.fr.size fun _ _ e => e), fun y hy => ?_, by rw [List.length_set]; exact h.len⟩
  · have := stL_block (t := 27) (z := (0, 0)) (Wt.cells x) (i * 10) w _ h.blk
    rw [ovL_set x tail d i hi] at this
    exact this
  · rcases List.mem_or_eq_of_mem_set hy with hy | rfl
    · exact h.ok y hy
    · exact hx
theorem SR.swap (h : SR W w B N1 N2 now age tail d) {i j : Nat} {x y : Wt} (hi : d[i]? = some x) (hj : d[j]? = some y) : SR W (stL B (j * 10) (Wt.cells x) (stL B (i * 10) (Wt.cells y) w)) B N1 N2 now age tail (Ss.swap d i j x y) :=
  (h.set (List.getElem?_eq_some_iff.1 hi).1 (h.ok y (List.mem_of_getElem? hj))).set (by rw [List.length_set]; exact (List.getElem?_eq_some_iff.1 hj).1) (h.ok x (List.mem_of_getElem? hi))
theorem swap_comm {i j : Nat} {x y : Wt} (hi : d[i]? = some x) (hj : d[j]? = some y) (h : i ≠ j) : Ss.swap d i j x y = Ss.swap d j i y x := by
  unfold Ss.swap
  exact List.set_comm _ _ h
/-- two runs of one length change places -/
theorem swap_mid (p : List Wt) (z1 x2 mid x1 z2 q : List Wt) (x z : Wt) (a b : Nat) (ha : a = (p ++ z1).length) (hb : b = (p ++ z1).length + (x :: x2).length + mid.length + x1.length) :
    (p ++ (z1 ++ ((x :: x2) ++ (mid ++ (x1 ++ ((z :: z2) ++ q))))))[a]? = some x ∧ (p ++ (z1 ++ ((x :: x2) ++ (mid ++ (x1 ++ ((z :: z2) ++ q))))))[b]? = some z ∧
      Ss.swap (p ++ (z1 ++ ((x :: x2) ++ (mid ++ (x1 ++ ((z :: z2) ++ q)))))) a b x z = p ++ ((z1 ++ [z]) ++ (x2 ++ (mid ++ ((x1 ++ [x]) ++ (z2 ++ q))))) := by
  have sm : ∀ (A : List Wt) (u v : Wt) (C : List Wt), (A ++ u :: C).set A.length v = A ++ v :: C := fun A u v C => by rw [List.set_append_right _ _ (Nat.le_refl _)]; simp
  have e1 : p ++ (z1 ++ ((x :: x2) ++ (mid ++ (x1 ++ ((z :: z2) ++ q))))) = (p ++ z1) ++ x :: (x2 ++ (mid ++ (x1 ++ ((z :: z2) ++ q)))) := by simp
  have e2 : (p ++ z1) ++ z :: (x2 ++ (mid ++ (x1 ++ ((z :: z2) ++ q)))) = (p ++ z1 ++ (z :: x2) ++ mid ++ x1) ++ z :: (z2 ++ q) := by simp
  have e3 : p ++ (z1 ++ ((x :: x2) ++ (mid ++ (x1 ++ ((z :: z2) ++ q))))) = (p ++ z1 ++ (x :: x2) ++ mid ++ x1) ++ z :: (z2 ++ q) := by simp
  refine ⟨?_, ?_, ?_⟩
  · rw [e1, ha]; simp
  · have hl : b = (p ++ z1 ++ (x :: x2) ++ mid ++ x1).length := by rw [hb]; simp only [List.length_append]
    rw [e3, hl]; simp
  · unfold Ss.swap
    rw [e1, ha, sm, e2, hb, show (p ++ z1).length + (x :: x2).length + mid.length + x1.length = (p ++ z1 ++ (z :: x2) ++ mid ++ x1).length by simp; omega, sm]
    simp
set_option maxRecDepth 100000 in
set_option maxHeartbeats 8000000 in
theorem swapRange_any (p x mid z q : List Wt) (a b n cap : Nat) (f : Value) (h : SR W w B N1 N2 now age tail (p ++ (x ++ (mid ++ (z ++ q))))) (ha : p.length = a) (hb : a + x.length + mid.length = b) (hx : x.length = n) (hz : z.length = n) (m : Nat) (hm : (p ++ (x ++ (mid ++ (z ++ q)))).length = m) (hc : m ≤ cap) :
    Calls Try.prog 40 #[.slice (some ⟨B, 0, none⟩) m cap, .int .i64 a, .int .i64 b, .int .i64 n, f] w fun e w' => e = .returned (.tuple #[]) ∧ SR W w' B N1 N2 now age tail (p ++ (z ++ (mid ++ (x ++ q)))) := by
  have hml := h.len
  rw [hm] at hml
  have hab : a + n ≤ b := by omega
  have hbn : b + n ≤ m := by rw [← hm]; simp only [List.length_append]; omega
  have H := Lib.hid h; have HM := Lib.hid hm; have HA := Lib.hid ha; have HB := Lib.hid hb; have HX := Lib.hid hx; have HZ := Lib.hid hz
  clear h hm ha hb hx hz
  go_enter Try.func40, Try.ntmps40
  go_wp2_with fail
  go_loopw [10] (fun iv wr => ∃ (k : Nat) (x1 x2 z1 z2 : List Wt), k ≤ n ∧ iv = .int .i64 k ∧ Hid (x = x1 ++ x2 ∧ z = z1 ++ z2 ∧ x1.length = k ∧ z1.length = k) ∧ Hid (SR W wr B N1 N2 now age tail (p ++ (z1 ++ (x2 ++ (mid ++ (x1 ++ (z2 ++ q)))))))) (fun iv _ => n - (intOf iv).toNat)
  case atStart => exact ⟨0, [], x, [], z, Nat.zero_le _, rfl, Lib.hid ⟨rfl, rfl, rfl, rfl⟩, Lib.hid (by simpa using H.out)⟩
  case round =>
    obtain ⟨k, x1, x2, z1, z2, hk, rfl, HL, HS⟩ := hrel
    by_cases hlt : k < n
    · have dlt : decide ((k : Int) < n) = true := by simp; omega
      have dlt2 : decide (k < n) = true := by simp; omega
      have HLT := Lib.hid hlt
      obtain ⟨xx, x3, rfl⟩ : ∃ xx x3, x2 = xx :: x3 := by
        cases x2 with
        | nil => exfalso; have := HL.out.1; have h2 := HL.out.2.2.1; rw [List.append_nil] at this; have := HX.out; simp_all
        | cons c r => exact ⟨c, r, rfl⟩
      obtain ⟨zz, z3, rfl⟩ : ∃ zz z3, z2 = zz :: z3 := by
        cases z2 with
        | nil => exfalso; have := HL.out.2.1; have h2 := HL.out.2.2.2; rw [List.append_nil] at this; have := HZ.out; simp_all
        | cons c r => exact ⟨c, r, rfl⟩
      obtain ⟨ia, hia⟩ : ∃ ia, a + k = ia := ⟨_, rfl⟩
      obtain ⟨ib, hib⟩ : ∃ ib, b + k = ib := ⟨_, rfl⟩
      have hsm := swap_mid p z1 x3 mid x1 z3 q xx zz ia ib (by rw [← hia]; rw [List.length_append, HA.out, HL.out.2.2.2]) (by
        have h1 := HB.out; have h2 := congrArg List.length HL.out.1; have h3 := HL.out.2.2.1; have h4 := HL.out.2.2.2; have h5 := HA.out
        simp only [List.length_append, List.length_cons] at h1 h2 ⊢
        omega)
      obtain ⟨hix, hiz, hsw⟩ := hsm
      have HSW := Lib.hid hsw; have HRX := Lib.hid (HS.out.ok _ (List.mem_of_getElem? hix)); have HRZ := Lib.hid (HS.out.ok _ (List.mem_of_getElem? hiz)); have HNE := Lib.hid (show ia ≠ ib by omega)
      have HNL := Lib.hid (show x = (x1 ++ [xx]) ++ x3 ∧ z = (z1 ++ [zz]) ++ z3 ∧ (x1 ++ [xx]).length = k + 1 ∧ (z1 ++ [zz]).length = k + 1 from ⟨by rw [HL.out.1]; simp, by rw [HL.out.2.1]; simp, by simp [HL.out.2.2.1], by simp [HL.out.2.2.2]⟩)
      have hxc := HS.out.at hix wr (Below.refl _ _)
      have hzc := HS.out.at hiz wr (Below.refl _ _)
      obtain ⟨⟨u0, u1, u2, u3, ⟨u4, u5, u6, u7⟩⟩, u8, u9⟩ := xx
      obtain ⟨⟨v0, v1, v2, v3, ⟨v4, v5, v6, v7⟩⟩, v8, v9⟩ := zz
      simp only at hxc hzc
      obtain ⟨c0, c1, c2, c3, c4, c5, c6, c7, c8, c9⟩ := hxc
      obtain ⟨e0, e1, e2, e3, e4, e5, e6, e7, e8, e9⟩ := hzc
      have lB := lt_of_block HS.out.blk
      have fz := frozen_of_block HS.out.blk
      have hw1 : IntKind.i64.wrap ((a : Int) + (k : Int)) = (ia : Int) := by rw [IntKind.wrap_i64]; omega
      have hw2 : IntKind.i64.wrap ((b : Int) + (k : Int)) = (ib : Int) := by rw [IntKind.wrap_i64]; omega
      have hak : ia < m := by omega
      have hbk : ib < m := by omega
      have HIX := Lib.hid hix; have HIZ := Lib.hid hiz
      have hilen := Lib.hid (List.getElem?_eq_some_iff.1 hix).1
      have fx0 := (Below.refl wr.heap.size wr).drew
      have qa0 : ∀ y : Later wr, y.wd.cell? ⟨B, ia * 10, none⟩ = some (.int .i64 u0) := fun y => (y.cell lB).trans c0
      have qa1 : ∀ y : Later wr, y.wd.cell? ⟨B, ia * 10 + 1, none⟩ = some (.int .i64 u1) := fun y => (y.cell lB).trans c1
      have qa2 : ∀ y : Later wr, y.wd.cell? ⟨B, ia * 10 + 2, none⟩ = some (.int .i64 u2) := fun y => (y.cell lB).trans c2
      have qa3 : ∀ y : Later wr, y.wd.cell? ⟨B, ia * 10 + 3, none⟩ = some (.int .i64 u3) := fun y => (y.cell lB).trans c3
      have qa4 : ∀ y : Later wr, y.wd.cell? ⟨B, ia * 10 + 4, none⟩ = some (.int .i64 u4) := fun y => (y.cell lB).trans c4
      have qa5 : ∀ y : Later wr, y.wd.cell? ⟨B, ia * 10 + 5, none⟩ = some (.int .i64 u5) := fun y => (y.cell lB).trans c5
      have qa6 : ∀ y : Later wr, y.wd.cell? ⟨B, ia * 10 + 6, none⟩ = some (.int .i64 u6) := fun y => (y.cell lB).trans c6
      have qa7 : ∀ y : Later wr, y.wd.cell? ⟨B, ia * 10 + 7, none⟩ = some (.int .i64 u7) := fun y => (y.cell lB).trans c7
      have qa8 : ∀ y : Later wr, y.wd.cell? ⟨B, ia * 10 + 8, none⟩ = some (.int .i64 u8) := fun y => (y.cell lB).trans c8
      have qa9 : ∀ y : Later wr, y.wd.cell? ⟨B, ia * 10 + 9, none⟩ = some (.int .i64 u9) := fun y => (y.cell lB).trans c9
      have qb0 : ∀ y : Later wr, y.wd.cell? ⟨B, ib * 10, none⟩ = some (.int .i64 v0) := fun y => (y.cell lB).trans e0
      have qb1 : ∀ y : Later wr, y.wd.cell? ⟨B, ib * 10 + 1, none⟩ = some (.int .i64 v1) := fun y => (y.cell lB).trans e1
      have qb2 : ∀ y : Later wr, y.wd.cell? ⟨B, ib * 10 + 2, none⟩ = some (.int .i64 v2) := fun y => (y.cell lB).trans e2
      have qb3 : ∀ y : Later wr, y.wd.cell? ⟨B, ib * 10 + 3, none⟩ = some (.int .i64 v3) := fun y => (y.cell lB).trans e3
      have qb4 : ∀ y : Later wr, y.wd.cell? ⟨B, ib * 10 + 4, none⟩ = some (.int .i64 v4) := fun y => (y.cell lB).trans e4
      have qb5 : ∀ y : Later wr, y.wd.cell? ⟨B, ib * 10 + 5, none⟩ = some (.int .i64 v5) := fun y => (y.cell lB).trans e5
      have qb6 : ∀ y : Later wr, y.wd.cell? ⟨B, ib * 10 + 6, none⟩ = some (.int .i64 v6) := fun y => (y.cell lB).trans e6
      have qb7 : ∀ y : Later wr, y.wd.cell? ⟨B, ib * 10 + 7, none⟩ = some (.int .i64 v7) := fun y => (y.cell lB).trans e7
      have qb8 : ∀ y : Later wr, y.wd.cell? ⟨B, ib * 10 + 8, none⟩ = some (.int .i64 v8) := fun y => (y.cell lB).trans e8
      have qb9 : ∀ y : Later wr, y.wd.cell? ⟨B, ib * 10 + 9, none⟩ = some (.int .i64 v9) := fun y => (y.cell lB).trans e9
      clear hix hiz hsw hlt hia hib
      go_wp2_with fail
      refine Rg.wp_region_late (by kernel_rfl) [0, 1, 2, 3, 4, 5, 6, 7, 8, 9, 10, 11, 12, 14, 15, 16, 17, 18] [13, 19] [20, 21, 22, 23] [21, 23] (by kernel_rfl) (by kernel_rfl) (by kernel_rfl) (fun w' => ∃ y : Later wr, w' = y.wd) (fun c a a' w hd h => ⟨hd.symm.trans h.1, h.2⟩) ⟨⟨_, fx0⟩, rfl⟩ ?_
      simp only [Rg.picks, List.getElem?_cons_succ, List.getElem?_cons_zero, Option.toList, List.cons_append, List.nil_append]
      repeat (quiet_step (fail))
      refine wpQuiet_nil ?_
      repeat (quiet_step (fail))
      try refine wpQuiet_nil ?_
      simp only [Rg.pickn, List.getElem?_cons_succ, List.getElem?_cons_zero, Option.toList, List.map_cons, List.map_nil, List.cons_append, List.nil_append]
      clear qa0 qb0 qa1 qb1 qa2 qb2 qa3 qb3 qa4 qb4 qa5 qb5 qa6 qb6 qa7 qb7 qa8 qb8 qa9 qb9
      refine Rg.wpNr_step (fun K hK => ?_)
      go_simp
      refine hK _ _ (fun _ h => h) ?_
      clear hK K
      refine Rg.wpNr_step (fun K hK => ?_)
      go_simp
      refine hK _ _ (fun h => absurd h (by decide)) ?_
      clear hK K
      have h2 : SR W (((((((((((wr.setCell ⟨B, ia * 10, none⟩ (.int .i64 v0)).setCell ⟨B, ia * 10 + 1, none⟩ (.int .i64 v1)).setCell ⟨B, ia * 10 + 2, none⟩ (.int .i64 v2)).setCell ⟨B, ia * 10 + 3, none⟩ (.int .i64 v3)).setCell ⟨B, ia * 10 + 4, none⟩ (.int .i64 v4)).setCell ⟨B, ia * 10 + 5, none⟩ (.int .i64 v5)).setCell ⟨B, ia * 10 + 6, none⟩ (.int .i64 v6)).setCell ⟨B, ia * 10 + 7, none⟩ (.int .i64 v7)).setCell ⟨B, ia * 10 + 8, none⟩ (.int .i64 v8)).setCell ⟨B, ia * 10 + 9, none⟩ (.int .i64 v9))).drew B N1 N2 now age tail ((p ++ (z1 ++ ((⟨⟨u0, u1, u2, u3, ⟨u4, u5, u6, u7⟩⟩, u8, u9⟩ :: x3) ++ (mid ++ (x1 ++ ((⟨⟨v0, v1, v2, v3, ⟨v4, v5, v6, v7⟩⟩, v8, v9⟩ :: z3) ++ q)))))).set ia ⟨⟨v0, v1, v2, v3, ⟨v4, v5, v6, v7⟩⟩, v8, v9⟩) := (HS.out.set (x := ⟨⟨v0, v1, v2, v3, ⟨v4, v5, v6, v7⟩⟩, v8, v9⟩) hilen.out HRZ.out).later ((Below.refl _ _).drew)
      clear c0 e0 c1 e1 c2 e2 c3 e3 c4 e4 c5 e5 c6 e6 c7 e7 c8 e8 c9 e9 fz lB
      generalize (((((((((((wr.setCell ⟨B, ia * 10, none⟩ (.int .i64 v0)).setCell ⟨B, ia * 10 + 1, none⟩ (.int .i64 v1)).setCell ⟨B, ia * 10 + 2, none⟩ (.int .i64 v2)).setCell ⟨B, ia * 10 + 3, none⟩ (.int .i64 v3)).setCell ⟨B, ia * 10 + 4, none⟩ (.int .i64 v4)).setCell ⟨B, ia * 10 + 5, none⟩ (.int .i64 v5)).setCell ⟨B, ia * 10 + 6, none⟩ (.int .i64 v6)).setCell ⟨B, ia * 10 + 7, none⟩ (.int .i64 v7)).setCell ⟨B, ia * 10 + 8, none⟩ (.int .i64 v8)).setCell ⟨B, ia * 10 + 9, none⟩ (.int .i64 v9))).drew = w2 at h2 ⊢
      have H2 := Lib.hid h2
      have hiz2 := (List.getElem?_set_ne HNE.out (l := (p ++ (z1 ++ ((⟨⟨u0, u1, u2, u3, ⟨u4, u5, u6, u7⟩⟩, u8, u9⟩ :: x3) ++ (mid ++ (x1 ++ ((⟨⟨v0, v1, v2, v3, ⟨v4, v5, v6, v7⟩⟩, v8, v9⟩ :: z3) ++ q))))))) (a := ⟨⟨v0, v1, v2, v3, ⟨v4, v5, v6, v7⟩⟩, v8, v9⟩)).trans HIZ.out
      obtain ⟨e0, e1, e2, e3, e4, e5, e6, e7, e8, e9⟩ := h2.at hiz2 w2 (Below.refl _ _)
      have lB := lt_of_block h2.blk
      have fz := frozen_of_block h2.blk
      have hl2 := Lib.hid (List.getElem?_eq_some_iff.1 hiz2).1
      clear h2 hiz2
      refine Rg.wpNr_step (fun K hK => ?_)
      go_simp
      refine hK _ _ (fun _ h => h) ?_
      clear hK K
      refine Rg.wpNr_step (fun K hK => ?_)
      go_simp
      refine hK _ _ (fun h => absurd h (by decide)) ?_
      clear hK K
      have h3 : SR W (((((((((((w2.setCell ⟨B, ib * 10, none⟩ (.int .i64 u0)).setCell ⟨B, ib * 10 + 1, none⟩ (.int .i64 u1)).setCell ⟨B, ib * 10 + 2, none⟩ (.int .i64 u2)).setCell ⟨B, ib * 10 + 3, none⟩ (.int .i64 u3)).setCell ⟨B, ib * 10 + 4, none⟩ (.int .i64 u4)).setCell ⟨B, ib * 10 + 5, none⟩ (.int .i64 u5)).setCell ⟨B, ib * 10 + 6, none⟩ (.int .i64 u6)).setCell ⟨B, ib * 10 + 7, none⟩ (.int .i64 u7)).setCell ⟨B, ib * 10 + 8, none⟩ (.int .i64 u8)).setCell ⟨B, ib * 10 + 9, none⟩ (.int .i64 u9))) B N1 N2 now age tail (p ++ ((z1 ++ [⟨⟨v0, v1, v2, v3, ⟨v4, v5, v6, v7⟩⟩, v8, v9⟩]) ++ (x3 ++ (mid ++ ((x1 ++ [⟨⟨u0, u1, u2, u3, ⟨u4, u5, u6, u7⟩⟩, u8, u9⟩]) ++ (z3 ++ q)))))) := HSW.out ▸ (H2.out.set (x := ⟨⟨u0, u1, u2, u3, ⟨u4, u5, u6, u7⟩⟩, u8, u9⟩) hl2.out HRX.out)
      clear e0 e1 e2 e3 e4 e5 e6 e7 e8 e9 fz lB
      generalize ((((((((((w2.setCell ⟨B, ib * 10, none⟩ (.int .i64 u0)).setCell ⟨B, ib * 10 + 1, none⟩ (.int .i64 u1)).setCell ⟨B, ib * 10 + 2, none⟩ (.int .i64 u2)).setCell ⟨B, ib * 10 + 3, none⟩ (.int .i64 u3)).setCell ⟨B, ib * 10 + 4, none⟩ (.int .i64 u4)).setCell ⟨B, ib * 10 + 5, none⟩ (.int .i64 u5)).setCell ⟨B, ib * 10 + 6, none⟩ (.int .i64 u6)).setCell ⟨B, ib * 10 + 7, none⟩ (.int .i64 u7)).setCell ⟨B, ib * 10 + 8, none⟩ (.int .i64 u8)).setCell ⟨B, ib * 10 + 9, none⟩ (.int .i64 u9)) = w3 at h3 ⊢
      have H3 := Lib.hid h3
      clear h3
      simp only [Rg.wpNr]
      go_wp2_with fail
      exact ⟨⟨k + 1, x1 ++ [⟨⟨u0, u1, u2, u3, ⟨u4, u5, u6, u7⟩⟩, u8, u9⟩], x3, z1 ++ [⟨⟨v0, v1, v2, v3, ⟨v4, v5, v6, v7⟩⟩, v8, v9⟩], z3, by have := HLT.out; omega, by go_num, Lib.hid HNL.out, Lib.hid H3.out⟩, by have := HLT.out; simp [intOf]; omega⟩
    · obtain rfl : k = n := by omega
      have dlt : decide ((k : Int) < k) = false := by simp
      clear hlt
      have HE := Lib.hid (show SR W wr B N1 N2 now age tail (p ++ (z ++ (mid ++ (x ++ q)))) by
        have h1 := HL.out
        have e1 : x2 = [] := List.eq_nil_of_length_eq_zero (by have := congrArg List.length h1.1; have := HX.out; simp only [List.length_append] at *; omega)
        have e2 : z2 = [] := List.eq_nil_of_length_eq_zero (by have := congrArg List.length h1.2.1; have := HZ.out; simp only [List.length_append] at *; omega)
        have := HS.out
        rw [h1.1, h1.2.1, e1, e2]
        rw [e1, e2] at this
        simpa using this)
      go_wp2_with fail
      go_end0
      exact ⟨rfl, HE.out⟩
end
end Go.Proofs.Ytlbneinfejnaaaa.Ss
