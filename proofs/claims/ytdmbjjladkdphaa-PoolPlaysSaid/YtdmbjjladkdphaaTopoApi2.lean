/-
  Topo's functions: contracts.
-/
import Derived.Test.YtdmbjjladkdphaaTopoApi
set_option linter.unusedVariables false
set_option linter.unusedSimpArgs false
namespace Go.Proofs.Ytdmbjjladkdphaa
open Go.RowKit Go.Maps

set_option maxHeartbeats 1000000 in
theorem index_none (p R cap M nn : Nat) (L : List Fe) (s : Sp) (hs : SpOk s) (hk : posF L s = none) (w : World) (h : TopoAt w p R cap M nn L) :
    Calls Try.prog 43 #[.pointer (some ⟨p, 0, none⟩), .agg #[.int .i64 s.node, .int .i64 s.domain]] w fun e w' => e = .returned (.tuple #[.int .i64 0, .bool false]) ∧ Below w.heap.size w w' := by
  have hB0 := (Below.refl w.heap.size w).alloc (Nat.le_refl _) (.cells #[.int .i64 s.node, .int .i64 s.domain] 41)
  have H1 := h.later hB0
  obtain ⟨es, c, m1, m2⟩ := H1.map
  have hl := look_idx s L 0
  rw [hk] at hl
  simp only [Option.map_none] at hl
  have hlk : ∀ x : Later (w.alloc (.cells #[.int .i64 s.node, .int .i64 s.domain] 41)), (Instr.lookup 87 (.map (some M)) (.agg #[.int .i64 s.node, .int .i64 s.domain]) true).run Try.prog x.wd = .ok (.tuple #[.int .i64 0, .bool false]) x.wd := fun x => by
    have := Mp.lookup_ok (zero := .int .i64 0) spKey mapUnder (fun w => by kernel_rfl) ((x.block (lt_of_block m1)).trans m1) m2 hs
    rw [hl] at this
    exact this
  obtain ⟨l1, l2, l3⟩ := H1.lt
  have c0 : ∀ x : Later (w.alloc (.cells #[.int .i64 s.node, .int .i64 s.domain] 41)), x.wd.cell? ⟨p, 1, none⟩ = some (.map (some M)) := fun x => (x.cell l1).trans (cell_of_block H1.head 1)
  have c1 : ∀ x : Later (w.alloc (.cells #[.int .i64 s.node, .int .i64 s.domain] 41)), x.wd.cell? ⟨w.heap.size, 0, none⟩ = some (.int .i64 s.node) := fun x => (x.cell (by simp)).trans (cell_of_block (World.alloc_heap_new w _) 0)
  have c2 : ∀ x : Later (w.alloc (.cells #[.int .i64 s.node, .int .i64 s.domain] 41)), x.wd.cell? ⟨w.heap.size, 1, none⟩ = some (.int .i64 s.domain) := fun x => (x.cell (by simp)).trans (cell_of_block (World.alloc_heap_new w _) 1)
  have HB := Lib.hid hB0
  clear h hB0 H1 m1 m2 hl hk l1 l2 l3
  go_enter Try.func43, Try.ntmps43
  go_wp2_with fail
  refine wp_region_later (by kernel_rfl) (by kernel_rfl) ?_
  repeat (quiet_step (fail))
  refine wpQuiet_nil ?_
  rintro w3 ⟨⟨_, hb2⟩, rfl⟩
  clear c0 c1 c2 hlk
  have HB2 := Lib.hid (HB.out.trans (hb2.mono (by simp)))
  clear hb2
  go_wp2_with fail
  go_quiet (fail)
  go_wp2
  go_ret2
  exact ⟨rfl, ⟨HB2.out.os, HB2.out.tape, HB2.out.output, HB2.out.size, HB2.out.block⟩⟩

set_option maxHeartbeats 1000000 in
theorem at_some (p R cap M nn : Nat) (L : List Fe) (s : Sp) (hs : SpOk s) (k : Nat) (hk : posF L s = some k) (f : Fe) (hf : L[k]? = some f) (w : World) (h : TopoAt w p R cap M nn L) :
    Calls Try.prog 35 #[.pointer (some ⟨p, 0, none⟩), .agg #[.int .i64 s.node, .int .i64 s.domain]] w fun e w' => e = .returned (.tuple #[.agg #[.int .i64 f.spot.node, .int .i64 f.spot.domain, .int .u64 f.mask, .int .i64 f.cpus], .int .i64 0]) ∧ Below w.heap.size w w' := by
  obtain ⟨hkl, hks⟩ := posF_some hk
  obtain ⟨hkl', hf'⟩ := List.getElem?_eq_some_iff.1 hf
  have K0 := ((Kept.start w).new #[.int .i64 s.node, .int .i64 s.domain] 41).new #[.int .i64 0, .int .i64 0, .int .u64 0, .int .i64 0] 45
  have H := Lib.hid (h.later K0.below); have HK := Lib.hid hk; have HF := Lib.hid hf'
  have HB0 := Lib.hid K0.below
  clear h hk hks hf hf' K0
  go_enter Try.func35, Try.ntmps35
  go_wp2_with fail
  refine (index_some p R cap M nn L s hs k HK.out _ H.out).mono ?_
  rintro e w1 ⟨rfl, hb1⟩
  have K1 := (((Kept.start w).new #[.int .i64 s.node, .int .i64 s.domain] 41).new #[.int .i64 0, .int .i64 0, .int .u64 0, .int .i64 0] 45).later hb1
  have H1 := H.out.later hb1
  obtain ⟨r1, r2, r3, r4⟩ := H1.cellsOf hkl HF.out
  have d0 : w1.cell? ⟨p, 0, none⟩ = some (.slice (some ⟨R, 0, none⟩) L.length cap) := cell_of_block H1.head 0
  have q := K1.cells 0 rfl; have qf := K1.frozen 0 rfl; have ql := K1.lt 0 rfl
  simp only [World.size_alloc] at q qf ql
  obtain ⟨l1, l2, l3⟩ := H1.lt
  have HKB := Lib.hid K1.below
  have i0 : (k : Int) < L.length := by omega
  clear hb1 K1 H1
  go_wp2_with fail
  refine bodyPost_ret (v := .tuple #[.agg #[.int .i64 f.spot.node, .int .i64 f.spot.domain, .int .u64 f.mask, .int .i64 f.cpus], .int .i64 0]) ?_ rfl ⟨rfl, ?_⟩
  · simp [results, Try.results35, go_sem, q, ql]
  · exact (((HKB.out.setCell (by simp) _).setCell (by simp) _).setCell (by simp) _).setCell (by simp) _

set_option maxHeartbeats 1000000 in
theorem at_none (p R cap M nn : Nat) (L : List Fe) (s : Sp) (hs : SpOk s) (hk : posF L s = none) (w : World) (h : TopoAt w p R cap M nn L) :
    Calls Try.prog 35 #[.pointer (some ⟨p, 0, none⟩), .agg #[.int .i64 s.node, .int .i64 s.domain]] w fun e w' => e = .returned (.tuple #[.agg #[.int .i64 0, .int .i64 0, .int .u64 0, .int .i64 0], .int .i64 3]) ∧ Below w.heap.size w w' := by
  have K0 := ((Kept.start w).new #[.int .i64 s.node, .int .i64 s.domain] 41).new #[.int .i64 0, .int .i64 0, .int .u64 0, .int .i64 0] 45
  have H := Lib.hid (h.later K0.below); have HK := Lib.hid hk
  clear h hk K0
  go_enter Try.func35, Try.ntmps35
  go_wp2_with fail
  refine (index_none p R cap M nn L s hs HK.out _ H.out).mono ?_
  rintro e w1 ⟨rfl, hb1⟩
  have K1 := (((Kept.start w).new #[.int .i64 s.node, .int .i64 s.domain] 41).new #[.int .i64 0, .int .i64 0, .int .u64 0, .int .i64 0] 45).later hb1
  have q := K1.cells 0 rfl; have qf := K1.frozen 0 rfl; have ql := K1.lt 0 rfl
  simp only [World.size_alloc] at q qf ql
  have HKB := Lib.hid K1.below
  clear hb1 K1
  go_wp2_with fail
  refine bodyPost_ret (v := .tuple #[.agg #[.int .i64 0, .int .i64 0, .int .u64 0, .int .i64 0], .int .i64 3]) ?_ rfl ⟨rfl, ?_⟩
  · simp [results, Try.results35, go_sem, q, ql]
  · first
      | exact HKB.out
      | exact (((HKB.out.setCell (by simp) _).setCell (by simp) _).setCell (by simp) _).setCell (by simp) _

/-- a slice that a call has made: what lies there, and where -/
def Made {α : Type} (w0 w : World) (v : Value) (sz : Nat) (cells : α → List Value) (xs : List α) : Prop :=
  Rd.SliceOf w v sz cells xs ∧ (∀ a n c, v = .slice (some a) n c → w0.heap.size ≤ a.block) ∧ (∀ a n c, v = .slice (some a) n c → ∃ cs t, w.heap[a.block]? = some (.cells cs t (0, 0)))

theorem infoSpot : (Try.prog.info? 41).map (fun i => (i.zero, i.size, i.bytes)) = some (some (.agg #[.int .i64 0, .int .i64 0]), 2, 16) := by kernel_rfl

theorem made_own {w0 w : World} {e : TypeId} {sz : Nat} {v : Value} {α : Type} {cells : α → List Value} {xs : List α} (hsz : ∀ x, (cells x).length = sz) (hpos : 0 < sz) (h : w.ownsRow w0.heap.size e sz v xs.length (xs.flatMap cells)) : Made w0 w v sz cells xs := by
  obtain ⟨hl, ⟨rfl, h0⟩ | ⟨g, cap, cur, rfl, hg, hc, hn, hm, hs, ht⟩⟩ := h
  · exact ⟨.inl ⟨rfl, List.length_eq_zero_iff.1 h0⟩, (fun a n c h => by cases h), (fun a n c h => by cases h)⟩
  · refine ⟨.inr ⟨_, _, rfl, hn, hm, fun i hi j hj => ?_⟩, (fun a n c h => by cases h; exact hg), (fun a n c h => by cases h; exact ⟨_, _, hc⟩)⟩
    have hj' : j < sz := by rw [hsz] at hj; exact hj
    have hadd : (⟨g, 0, none⟩ : Addr).add (i * sz + j) = ⟨g, i * sz + j, none⟩ := by
      unfold Addr.add
      split
      · rename_i e'; rw [e']
      · simp
    have hlt : i * sz + j < xs.length * sz := by
      have : (i + 1) * sz ≤ xs.length * sz := Nat.mul_le_mul_right _ hi
      rw [Nat.add_mul] at this
      omega
    rw [hadd, cell_of_block hc, ← Array.getElem?_toList]
    have h1 : (cur.toList.take (xs.length * sz))[i * sz + j]? = cur.toList[i * sz + j]? := by rw [List.getElem?_take, if_pos hlt]
    rw [ht, flatMap_get hsz xs i j hi hj'] at h1
    rw [← h1, List.getElem?_eq_getElem]

end Go.Proofs.Ytdmbjjladkdphaa
