/-
  wire: a reader that comes to its end; the parts of a configuration that are read one by one.
-/
import Derived.Test.YtghfdiaaonjofaaWireGet3
set_option linter.unusedVariables false
set_option linter.unusedSimpArgs false
namespace Go.Proofs.Ytghfdiaaonjofaa
open Go.RowKit

set_option maxHeartbeats 2000000 in
/-- the reader is at its end, or comes to it at the first field -/
theorem get_stop (R B lo : Nat) (s : ByteArray) (a : Nat) (sh : Bool) (off b : Nat) (r : List (Nat × Nat)) (v : Value) (w : World) (hR : w.heap[R]? = some (.cells #[.string s, .int .i64 (a : Nat), .bool sh] 65 (0, 0)))
    (hf : FieldRow w lo B v ((off, b) :: r)) (hlo : R < lo) (hs : s.size ≤ 100000) (hst : sh = true ∨ (a ≤ s.size ∧ s.size < a + b)) (hln : r.length ≤ 100) :
    Calls Try.prog 21 #[.pointer (some ⟨R, 0, none⟩), v] w fun e w' => e = .returned (.tuple #[]) ∧ Fr w.heap.size (fun q => q = R) w w' ∧ w'.heap[R]? = some (.cells #[.string s, .int .i64 (a : Nat), .bool true] 65 (0, 0)) := by
  obtain ⟨av, cap, rfl, hc⟩ := hf
  obtain ⟨g, rfl, hg1, hg2, c0, c1⟩ := hc 0 off b rfl
  obtain ⟨n, hn⟩ : ∃ n, ((off, b) :: r).length = n := ⟨_, rfl⟩
  have hn0 : 0 < n := by rw [← hn]; simp
  have hn1 : n ≤ 101 := by rw [← hn]; simp; omega
  rw [hn]
  have lR := lt_of_block hR
  have hgR : g ≠ R := by omega
  have HR := Lib.hid hR; have HST := Lib.hid hst
  clear hn hc hln hR hst
  go_enter Try.func21, Try.ntmps21
  go_wp2_with fail
  go_loopw [8] (fun i wr => i = .int .i64 0 ∧ wr = w) (fun _ _ => 0)
  case atStart => exact ⟨rfl, rfl⟩
  case round =>
    obtain ⟨rfl, rfl⟩ := hrel
    go_wp2_with fail
    have hb3 := (Below.refl wr.heap.size wr).alloc (Nat.le_refl _) (.cells #[.pointer (some ⟨B, off, none⟩), .int .i64 b] 73)
    have k3 := World.alloc_heap_new wr (.cells #[.pointer (some ⟨B, off, none⟩), .int .i64 b] 73)
    generalize wr.alloc (.cells #[.pointer (some ⟨B, off, none⟩), .int .i64 b] 73) = w3 at hb3 k3 ⊢
    have hR3 := (hb3.block _ lR).trans HR.out
    have lR3 := lt_of_block hR3; have lF3 := lt_of_block k3
    have r0 : ∀ y : Later w3, y.wd.cell? ⟨R, 0, none⟩ = some (.string s) := fun y => (y.cell lR3).trans (cell_of_block hR3 0)
    have r1 : ∀ y : Later w3, y.wd.cell? ⟨R, 1, none⟩ = some (.int .i64 a) := fun y => (y.cell lR3).trans (cell_of_block hR3 1)
    have r2 : ∀ y : Later w3, y.wd.cell? ⟨R, 2, none⟩ = some (.bool sh) := fun y => (y.cell lR3).trans (cell_of_block hR3 2)
    have f1 : ∀ y : Later w3, y.wd.cell? ⟨wr.heap.size, 1, none⟩ = some (.int .i64 b) := fun y => (y.cell lF3).trans (cell_of_block k3 1)
    have HB3 := Lib.hid hb3; have HR3 := Lib.hid hR3
    have fx0 := (Below.refl w3.heap.size w3).drew
    clear hb3 hR3 k3
    cases sh
    case false =>
      have hst : a ≤ s.size ∧ s.size < a + b := by
        rcases HST.out with h | h
        · cases h
        · exact h
      have hw1 : IntKind.i64.wrap ((s.size : Int) - a) = (s.size : Int) - a := by rw [wrap_eq]; unfold wrap64; omega
      have hd : decide ((s.size : Int) - a < (b : Int)) = true := by
        rcases HST.out with h | h
        · cases h
        · simp; omega
      refine Rg.wp_region_pick (by kernel_rfl) [0, 1, 2, 3, 4, 5, 6, 7, 8, 9, 10, 11, 12, 13, 14, 15, 16, 17, 18, 19] [20, 21, 22] 20 (by kernel_rfl) (by kernel_rfl) (by kernel_rfl) (fun w' => ∃ y : Later w3, w' = y.wd) (fun c a a' w hd h => ⟨hd.symm.trans h.1, h.2⟩) ⟨⟨_, fx0⟩, rfl⟩ ?_
      simp only [Rg.picks, List.getElem?_cons_succ, List.getElem?_cons_zero, Option.toList, List.cons_append, List.nil_append]
      repeat (quiet_step (fail))
      refine wpQuiet_nil ?_
      clear r0 r1 r2 f1
      simp only [Rg.pickn, List.getElem?_cons_succ, List.getElem?_cons_zero, Option.toList, List.map_cons, List.map_nil, List.cons_append, List.nil_append]
      refine Rg.wpN_list (by decide) ?_
      simp only [List.map_cons, List.map_nil]
      have q2 := cell_of_block HR3.out 2; have z2 := frozen_of_block HR3.out 2
      go_wp2_with fail
      refine bodyPost_ret (results_none rfl _ _ _) rfl ?_
      have hRn := setCell_block HR3.out 2 (.bool true)
      exact ⟨rfl, (Fr.setCell (F := fun q => q = R) (p := ⟨R, 2, none⟩) (Fr.of_below HB3.out _) (.inr rfl) _).drew, hRn⟩
    case true =>
      clear r0 r1 r2 f1 fx0
      have q2 := cell_of_block HR3.out 2; have z2 := frozen_of_block HR3.out 2
      go_region
      have q2 := cell_of_block (setCell_block HR3.out 2 (.bool true)) 2
      go_wp2_with fail
      refine bodyPost_ret (results_none rfl _ _ _) rfl ?_
      have hRn := setCell_block HR3.out 2 (.bool true)
      exact ⟨rfl, (Fr.setCell (F := fun q => q = R) (p := ⟨R, 2, none⟩) (Fr.of_below HB3.out _) (.inr rfl) _).drew, hRn⟩

/-- what reading one thing into the block X leaves -/
def OneP (R X : Nat) (s : ByteArray) (t : TypeId) (n : Nat) (res : Option (List Value × Nat)) (w : World) (e : Ending) (w' : World) : Prop :=
  e = .returned (.tuple #[]) ∧ Fr w.heap.size (fun q => q = R ∨ q = X) w w' ∧ match res with
    | some (cs, b) => w'.heap[R]? = some (.cells #[.string s, .int .i64 (b : Nat), .bool false] 65 (0, 0)) ∧ w'.heap[X]? = some (.cells cs.toArray t (0, 0))
    | none => ∃ (a2 : Nat) (cs : Array Value), w'.heap[R]? = some (.cells #[.string s, .int .i64 (a2 : Nat), .bool true] 65 (0, 0)) ∧ w'.heap[X]? = some (.cells cs t (0, 0)) ∧ cs.size = n ∧ ∀ (k : Nat) (u : Value), cs[k]? = some u → ∃ n, u = .int .i64 n
theorem SlFd.row {w w' : World} {lo B : Nat} {v : Value} {l : List (Nat × Nat)} (h : SlFd w lo v (l.map fun p => ⟨B, p.1, p.2, 0⟩) w') : FieldRow w' lo B v l := by
  obtain ⟨g, rfl, hg, hc, hb⟩ := h
  have hl : (l.map fun p => (⟨B, p.1, p.2, 0⟩ : Fd)).length = l.length := by simp
  rw [hl]
  refine field_row hc hg fun i hi => ?_
  have key : ∀ (l : List (Nat × Nat)) (i : Nat), i < l.length → ((l.map fun p => (⟨B, p.1, p.2, 0⟩ : Fd)).flatMap Fd.cells)[i * 2]? = (l[i]?).map (fun p => Value.pointer (some ⟨B, p.1, none⟩)) ∧ ((l.map fun p => (⟨B, p.1, p.2, 0⟩ : Fd)).flatMap Fd.cells)[i * 2 + 1]? = (l[i]?).map (fun p => Value.int .i64 p.2) := by
    intro l
    induction l with
    | nil => intro i hi; simp at hi
    | cons p r ih =>
      intro i hi
      cases i with
      | zero => simp [Fd.cells]
      | succ i =>
        have := ih i (by simpa using hi)
        rw [show (i + 1) * 2 = i * 2 + 2 by omega]
        simpa [Fd.cells, List.flatMap_cons] using this
  simpa using key l i hi

set_option maxHeartbeats 1000000 in
theorem one_dom (X RB R : Nat) (s : ByteArray) (a : Nat) (w : World) (hX : w.heap[X]? = some (.cells #[.int .i64 0, .int .i64 0] 87 (0, 0))) (hB : w.heap[RB]? = some (.cells #[.pointer (some ⟨R, 0, none⟩)] 63 (0, 0)))
    (hR : w.heap[R]? = some (.cells #[.string s, .int .i64 (a : Nat), .bool false] 65 (0, 0))) (hRX : R ≠ X) (hRB : RB ≠ R ∧ RB ≠ X) (hs : s.size ≤ 100000) (ha : a ≤ s.size) :
    Calls Try.prog 34 #[.pointer (some ⟨X, 0, none⟩), .pointer (some ⟨RB, 0, none⟩)] w (OneP R X s 87 2 ((domR s a).map fun p => (Dm.cells p.1, p.2)) w) := by
  have lB := lt_of_block hB; have lR := lt_of_block hR; have lX := lt_of_block hX
  have q0 : ∀ y : LaterF w (fun q => q = R ∨ q = X), y.wd.cell? ⟨RB, 0, none⟩ = some (.pointer (some ⟨R, 0, none⟩)) := fun y => (y.cell lB (fun h => h.elim hRB.1 hRB.2)).trans (cell_of_block hB 0)
  have HX := Lib.hid hX; have HR := Lib.hid hR
  have fx0 := (Fr.refl w.heap.size (fun q => q = R ∨ q = X) w).drew
  clear hX hR hB
  go_enter Try.func34, Try.ntmps34
  refine Rg.wp_region_pick (by kernel_rfl) [0, 1] [2, 3] 4 (by kernel_rfl) (by kernel_rfl) (by kernel_rfl) (fun w' => ∃ y : LaterF w (fun q => q = R ∨ q = X), w' = y.wd) (fun c a a' w hd h => ⟨hd.symm.trans h.1, h.2⟩) ⟨⟨_, fx0⟩, rfl⟩ ?_
  simp only [Rg.picks, List.getElem?_cons_succ, List.getElem?_cons_zero, Option.toList, List.cons_append, List.nil_append]
  repeat (quiet_step (fail))
  refine wpQuiet_nil ?_
  clear q0
  simp only [Rg.pickn, List.getElem?_cons_succ, List.getElem?_cons_zero, Option.toList, List.map_cons, List.map_nil, List.cons_append, List.nil_append]
  refine Rg.wpN_step (fun K hK => ?_) ⟨⟨_, fx0⟩, rfl⟩
  go_simp
  refine (domain_any X 0 0 0 _).mono ?_
  rintro e w2 ⟨v, rfl, hsl⟩
  have hb2 : Below w.heap.size w w2 := (Below.refl w.heap.size w).drew.trans (by obtain ⟨_, _, _, _, h⟩ := hsl; exact h)
  have hrow : FieldRow w2 w.heap.size X v [(0, 1), (1, 2)] := SlFd.row (l := [(0, 1), (1, 2)]) hsl
  have HB2 := Lib.hid hb2; have HROW := Lib.hid hrow
  clear hsl hrow
  have HC2 := Lib.hid (Fr.of_below hb2 (fun q => q = R ∨ q = X))
  refine hK _ _ (fun _ => ⟨⟨_, HC2.out⟩, rfl⟩) ?_
  clear hK K hb2 fx0
  refine Rg.wpN_step (fun K hK => ?_) ⟨⟨_, HC2.out⟩, rfl⟩
  go_simp
  have hR2 := (HB2.out.block _ lR).trans HR.out
  have hX2 := (HB2.out.block _ lX).trans HX.out
  have HR2 := Lib.hid hR2; have HX2 := Lib.hid hX2
  clear hR2 hX2
  by_cases hfit : a + 3 ≤ s.size
  · have hone : domR s a = some (⟨numF s a 1, numF s (a + 1) 2⟩, a + 3) := by unfold domR; rw [if_pos hfit]
    rw [hone]
    have HG := Lib.hid (get3_any R X w.heap.size s a [(0, 1), (1, 2)] v _ _ w2 HR2.out HX2.out HROW.out hRX ⟨lR, lX⟩ (fun p hp => by simp only [List.mem_cons, List.not_mem_nil, or_false] at hp; rcases hp with rfl | rfl <;> exact ⟨by decide, by decide, rfl⟩) (by decide) hs ha (by decide))
    refine HG.out.mono ?_
    rintro e w3 ⟨rfl, hf3, hcase⟩
    rcases hcase with ⟨h1, h2, h3⟩ | ⟨h1, _⟩
    · have HF := Lib.hid ((Fr.of_below HB2.out _).trans (hf3.mono HB2.out.size fun q _ e => e))
      have H2 := Lib.hid h2; have H3 := Lib.hid h3
      clear hf3 h1 h2 h3
      refine hK _ _ (fun _ => ⟨⟨_, HF.out⟩, rfl⟩) ?_
      clear hK K
      refine Rg.wpN_list (by decide) ?_
      simp only [List.map_nil]
      go_wp2_with fail
      go_end0
      unfold OneP
      rw [hone]
      refine ⟨rfl, HF.out, ?_⟩
      exact ⟨H2.out, H3.out⟩
    · exact absurd h1 (by simp only [total]; omega)
  · have hone : domR s a = none := by unfold domR; rw [if_neg hfit]
    rw [hone]
    have HG := Lib.hid (get3_any R X w.heap.size s a [(0, 1), (1, 2)] v _ _ w2 HR2.out HX2.out HROW.out hRX ⟨lR, lX⟩ (fun p hp => by simp only [List.mem_cons, List.not_mem_nil, or_false] at hp; rcases hp with rfl | rfl <;> exact ⟨by decide, by decide, rfl⟩) (by decide) hs ha (by decide))
    refine HG.out.mono ?_
    rintro e w3 ⟨rfl, hf3, hcase⟩
    rcases hcase with ⟨h1, _⟩ | ⟨_, a2, cs', h2, h3, h4, _, h5⟩
    · exact absurd h1 (by simp only [total]; omega)
    · have HF := Lib.hid ((Fr.of_below HB2.out _).trans (hf3.mono HB2.out.size fun q _ e => e))
      have H2 := Lib.hid h2; have H3 := Lib.hid h3; have H4 := Lib.hid h4; have H5 := Lib.hid h5
      clear hf3 h2 h3 h4 h5
      refine hK _ _ (fun _ => ⟨⟨_, HF.out⟩, rfl⟩) ?_
      clear hK K
      refine Rg.wpN_list (by decide) ?_
      simp only [List.map_nil]
      go_wp2_with fail
      go_end0
      unfold OneP
      rw [hone]
      refine ⟨rfl, HF.out, ?_⟩
      refine ⟨a2, cs', H2.out, H3.out, H4.out, fun k u hu => ?_⟩
      rcases H5.out k u hu with h | h
      · rcases k with _ | _ | k
        · simp at h; exact ⟨_, h.symm⟩
        · simp at h; exact ⟨_, h.symm⟩
        · simp at h
      · exact h

set_option maxHeartbeats 1000000 in
theorem one_qu (X RB R : Nat) (s : ByteArray) (a : Nat) (w : World) (hX : w.heap[X]? = some (.cells #[.int .i64 0, .int .i64 0, .int .i64 0] 92 (0, 0))) (hB : w.heap[RB]? = some (.cells #[.pointer (some ⟨R, 0, none⟩)] 63 (0, 0)))
    (hR : w.heap[R]? = some (.cells #[.string s, .int .i64 (a : Nat), .bool false] 65 (0, 0))) (hRX : R ≠ X) (hRB : RB ≠ R ∧ RB ≠ X) (hs : s.size ≤ 100000) (ha : a ≤ s.size) :
    Calls Try.prog 36 #[.pointer (some ⟨X, 0, none⟩), .pointer (some ⟨RB, 0, none⟩)] w (OneP R X s 92 3 ((quR s a).map fun p => (Qu.cells p.1, p.2)) w) := by
  have lB := lt_of_block hB; have lR := lt_of_block hR; have lX := lt_of_block hX
  have q0 : ∀ y : LaterF w (fun q => q = R ∨ q = X), y.wd.cell? ⟨RB, 0, none⟩ = some (.pointer (some ⟨R, 0, none⟩)) := fun y => (y.cell lB (fun h => h.elim hRB.1 hRB.2)).trans (cell_of_block hB 0)
  have HX := Lib.hid hX; have HR := Lib.hid hR
  have fx0 := (Fr.refl w.heap.size (fun q => q = R ∨ q = X) w).drew
  clear hX hR hB
  go_enter Try.func36, Try.ntmps36
  refine Rg.wp_region_pick (by kernel_rfl) [0, 1] [2, 3] 4 (by kernel_rfl) (by kernel_rfl) (by kernel_rfl) (fun w' => ∃ y : LaterF w (fun q => q = R ∨ q = X), w' = y.wd) (fun c a a' w hd h => ⟨hd.symm.trans h.1, h.2⟩) ⟨⟨_, fx0⟩, rfl⟩ ?_
  simp only [Rg.picks, List.getElem?_cons_succ, List.getElem?_cons_zero, Option.toList, List.cons_append, List.nil_append]
  repeat (quiet_step (fail))
  refine wpQuiet_nil ?_
  clear q0
  simp only [Rg.pickn, List.getElem?_cons_succ, List.getElem?_cons_zero, Option.toList, List.map_cons, List.map_nil, List.cons_append, List.nil_append]
  refine Rg.wpN_step (fun K hK => ?_) ⟨⟨_, fx0⟩, rfl⟩
  go_simp
  refine (queue_any X 0 0 0 0 _).mono ?_
  rintro e w2 ⟨v, rfl, hsl⟩
  have hb2 : Below w.heap.size w w2 := (Below.refl w.heap.size w).drew.trans (by obtain ⟨_, _, _, _, h⟩ := hsl; exact h)
  have hrow : FieldRow w2 w.heap.size X v [(0, 3), (1, 3), (2, 1)] := SlFd.row (l := [(0, 3), (1, 3), (2, 1)]) hsl
  have HB2 := Lib.hid hb2; have HROW := Lib.hid hrow
  clear hsl hrow
  have HC2 := Lib.hid (Fr.of_below hb2 (fun q => q = R ∨ q = X))
  refine hK _ _ (fun _ => ⟨⟨_, HC2.out⟩, rfl⟩) ?_
  clear hK K hb2 fx0
  refine Rg.wpN_step (fun K hK => ?_) ⟨⟨_, HC2.out⟩, rfl⟩
  go_simp
  have hR2 := (HB2.out.block _ lR).trans HR.out
  have hX2 := (HB2.out.block _ lX).trans HX.out
  have HR2 := Lib.hid hR2; have HX2 := Lib.hid hX2
  clear hR2 hX2
  by_cases hfit : a + 7 ≤ s.size
  · have hone : quR s a = some (⟨⟨numF s a 3, numF s (a + 3) 3⟩, numF s (a + 6) 1⟩, a + 7) := by unfold quR; rw [if_pos hfit]
    rw [hone]
    have HG := Lib.hid (get3_any R X w.heap.size s a [(0, 3), (1, 3), (2, 1)] v _ _ w2 HR2.out HX2.out HROW.out hRX ⟨lR, lX⟩ (fun p hp => by simp only [List.mem_cons, List.not_mem_nil, or_false] at hp; rcases hp with rfl | rfl | rfl <;> exact ⟨by decide, by decide, rfl⟩) (by decide) hs ha (by decide))
    refine HG.out.mono ?_
    rintro e w3 ⟨rfl, hf3, hcase⟩
    rcases hcase with ⟨h1, h2, h3⟩ | ⟨h1, _⟩
    · have HF := Lib.hid ((Fr.of_below HB2.out _).trans (hf3.mono HB2.out.size fun q _ e => e))
      have H2 := Lib.hid h2; have H3 := Lib.hid h3
      clear hf3 h1 h2 h3
      refine hK _ _ (fun _ => ⟨⟨_, HF.out⟩, rfl⟩) ?_
      clear hK K
      refine Rg.wpN_list (by decide) ?_
      simp only [List.map_nil]
      go_wp2_with fail
      go_end0
      unfold OneP
      rw [hone]
      refine ⟨rfl, HF.out, ?_⟩
      exact ⟨H2.out, H3.out⟩
    · exact absurd h1 (by simp only [total]; omega)
  · have hone : quR s a = none := by unfold quR; rw [if_neg hfit]
    rw [hone]
    have HG := Lib.hid (get3_any R X w.heap.size s a [(0, 3), (1, 3), (2, 1)] v _ _ w2 HR2.out HX2.out HROW.out hRX ⟨lR, lX⟩ (fun p hp => by simp only [List.mem_cons, List.not_mem_nil, or_false] at hp; rcases hp with rfl | rfl | rfl <;> exact ⟨by decide, by decide, rfl⟩) (by decide) hs ha (by decide))
    refine HG.out.mono ?_
    rintro e w3 ⟨rfl, hf3, hcase⟩
    rcases hcase with ⟨h1, _⟩ | ⟨_, a2, cs', h2, h3, h4, _, h5⟩
    · exact absurd h1 (by simp only [total]; omega)
    · have HF := Lib.hid ((Fr.of_below HB2.out _).trans (hf3.mono HB2.out.size fun q _ e => e))
      have H2 := Lib.hid h2; have H3 := Lib.hid h3; have H4 := Lib.hid h4; have H5 := Lib.hid h5
      clear hf3 h2 h3 h4 h5
      refine hK _ _ (fun _ => ⟨⟨_, HF.out⟩, rfl⟩) ?_
      clear hK K
      refine Rg.wpN_list (by decide) ?_
      simp only [List.map_nil]
      go_wp2_with fail
      go_end0
      unfold OneP
      rw [hone]
      refine ⟨rfl, HF.out, ?_⟩
      refine ⟨a2, cs', H2.out, H3.out, H4.out, fun k u hu => ?_⟩
      rcases H5.out k u hu with h | h
      · rcases k with _ | _ | _ | k
        · simp at h; exact ⟨_, h.symm⟩
        · simp at h; exact ⟨_, h.symm⟩
        · simp at h; exact ⟨_, h.symm⟩
        · simp at h
      · exact h
end Go.Proofs.Ytghfdiaaonjofaa
