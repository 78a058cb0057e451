/-
  The document's pool: New.
-/
import Derived.Test.YtdmbjjladkdphaaRefPool4
import Derived.Test.YtdmbjjladkdphaaRegions5
import Derived.Test.YtdmbjjladkdphaaTopoRef2
import Derived.Deep.Cut
set_option linter.unusedVariables false
set_option linter.unusedSimpArgs false
namespace Go.Proofs.Ytdmbjjladkdphaa
open Go.RowKit Go.Maps
variable {w w' : World} {A : List Fe}

theorem infoBool : (Try.prog.info? 4).map (fun i => (i.zero, i.size, i.bytes)) = some (some (.bool false), 1, 1) := by kernel_rfl
theorem run_make_bool {w : World} (n : Nat) (hn : n ≤ 1000) : (Instr.makeSlice 60 (.int .i64 n) (.int .i64 n)).run Try.prog w = .ok (.slice (some ⟨w.heap.size, 0, none⟩) n n) (w.alloc (.cells (DB n []) 4)) := by
  obtain ⟨i0, hi0, hz0, hz1, hz2⟩ := info_parts infoBool
  have := run_makeSlice (P := Try.prog) w 60 4 i0 _ Try.underlying60 hi0 hz0 .i64 .i64 n n (by omega) (by omega) (by rw [hz1]; omega) (by rw [hz2]; omega) (by omega)
  rw [hz1] at this
  have e : madeCells (Value.cells (.bool false)) ((n : Int).toNat * 1) = DB n [] := by
    unfold madeCells DB
    apply Array.ext'
    simp [Value.cells]
    intro a _
    rw [Nat.mod_one]; rfl
  rw [e] at this
  simpa using this
theorem made_at {w0 w : World} {v : Value} (h : Made w0 w v 4 Fe.cells A) (h0 : 0 < A.length) : ∃ BA oA cA, v = .slice (some ⟨BA, oA, none⟩) A.length cA ∧ w0.heap.size ≤ BA ∧ ∃ cs t, w.heap[BA]? = some (.cells cs t (0, 0)) ∧ ∀ (k : Nat) (hk : k < A.length) (j : Nat), j < 4 → cs[oA + (k * 4 + j)]? = (Fe.cells A[k])[j]? := by
  obtain ⟨b, off, cap, hv, _, _, hb, hcell⟩ := h.1.plain (by intro e; rw [e] at h0; simp at h0) (by intro x _; simp [Fe.cells])
  obtain ⟨cs, t, hk⟩ := h.2.2 _ _ _ hv
  refine ⟨b, off, cap, hv, h.2.1 _ _ _ hv, cs, t, hk, fun k hk' j hj => ?_⟩
  have h1 := hcell k hk' j (by simpa [Fe.cells] using hj)
  rw [cell_of_block hk] at h1
  rw [h1]
  exact (List.getElem?_eq_getElem _).symm

/-- a document's pool that is being made: k of its spots -/
structure RN (w0 w : World) (m : Nat) (A : List Fe) (nn BA oA cA BD base k : Nat) (vT : Value) : Prop where
  head : w.heap[m]? = some (.cells #[.slice (some ⟨BA, oA, none⟩) A.length cA, vT, .slice (some ⟨BD, 0, none⟩) nn nn] 62 (0, 0))
  all : ∃ cs t, w.heap[BA]? = some (.cells cs t (0, 0)) ∧ ∀ (k : Nat) (hk : k < A.length) (j : Nat), j < 4 → cs[oA + (k * 4 + j)]? = (Fe.cells A[k])[j]?
  own : w.ownsRow base 45 4 vT k (((A.take k).map emptyF).flatMap Fe.cells)
  drn : w.heap[BD]? = some (.cells (DB nn []) 4 (0, 0))
  apart : m ≠ BA ∧ m ≠ BD ∧ BA ≠ BD ∧ m < base ∧ BA < base ∧ BD < base
  low : w0.heap.size ≤ m ∧ w0.heap.size ≤ BA ∧ w0.heap.size ≤ BD
  bel : Below w0.heap.size w0 w
theorem RN.later {w0 : World} {m nn BA oA cA BD base k : Nat} {vT : Value} (h : RN w0 w m A nn BA oA cA BD base k vT) (hb : Below w.heap.size w w') : RN w0 w' m A nn BA oA cA BD base k vT := by
  obtain ⟨cs, t, h1, h2⟩ := h.all
  exact ⟨(hb.block _ (lt_of_block h.head)).trans h.head, ⟨cs, t, (hb.block _ (lt_of_block h1)).trans h1, h2⟩, ownsRow_below h.own hb, (hb.block _ (lt_of_block h.drn)).trans h.drn, h.apart, h.low, h.bel.trans (hb.mono h.bel.size)⟩
def RNew (A : List Fe) (nn : Nat) (w : World) (e : Ending) (w' : World) : Prop :=
  ∃ m BA oA cA BD base vT, e = .returned (.pointer (some ⟨m, 0, none⟩)) ∧ RpAt w' m A (A.map emptyF) nn [] BA oA cA BD base vT ∧ (∀ q, RF m BA BD vT q → w.heap.size ≤ q) ∧ Below w.heap.size w w'

set_option maxRecDepth 100000 in
set_option maxHeartbeats 4000000 in
theorem rnew_any (v : Value) (ns : List (List Dm)) (w : World) (s : NodesOf w v ns) (hok : nodesOk ns = true) (hA : allG 0 ns = A) (h0 : 0 < A.length) (hl : A.length ≤ 1000) :
    Calls Try.prog 24 #[.agg #[v]] w (RNew A ns.length w) := by
  obtain ⟨i0, hi0, hz0, hz1, hz2⟩ := info_parts infoFree
  obtain ⟨a, cap, hv⟩ := s.form
  obtain ⟨nn, hnn⟩ : ∃ nn, ns.length = nn := ⟨_, rfl⟩
  have hn16 : nn ≤ 16 := by have := (nodesOk_parts hok).2.1; rw [hnn] at this; exact this
  rw [hnn] at hv
  subst hv
  have HS := Lib.hid s; have HOK := Lib.hid hok; have HAA := Lib.hid hA
  have hb0 := (Below.refl w.heap.size w).alloc (Nat.le_refl _) (.cells #[.slice a nn cap] 24)
  have HB0 := Lib.hid hb0
  have HK0 := Lib.hid (World.alloc_heap_new w (.cells #[.slice a nn cap] 24))
  have hmk := fun w : World => run_make_bool (w := w) nn (by omega)
  have HMK := Lib.hid hmk
  obtain ⟨n, hn⟩ : ∃ n, A.length = n := ⟨_, rfl⟩
  have HN := Lib.hid hn
  have H0 := Lib.hid h0
  rw [hnn]
  clear s hok hA hb0 hnn
  go_enter Try.func24, Try.ntmps24
  go_upto_region 1 with fail
  obtain ⟨Z, hZ⟩ : ∃ Z, w.heap.size = Z := ⟨_, rfl⟩
  have HZ := Lib.hid hZ
  rw [hZ] at HK0 ⊢
  generalize w.alloc (.cells #[.slice a nn cap] 24) = w1 at HB0 HK0 ⊢
  have d0 : ∀ y : Later w1, y.wd.cell? ⟨Z, 0, none⟩ = some (.slice a nn cap) := fun y => (y.cell (lt_of_block HK0.out)).trans (cell_of_block HK0.out 0)
  have fx0 := (Below.refl w1.heap.size w1).drew
  clear hZ
  go_cut [3] from 5 (fun a3 wy => ∃ (wx : World) (m BA oA cA BD : Nat), wx = wy ∧ a3 = .pointer (some ⟨m, 0, none⟩) ∧ RN w wx m A nn BA oA cA BD wx.heap.size 0 (.slice none 0 0))
  case rest =>
    obtain ⟨wx, m, BA, oA, cA, BD, rfl, rfl, hR⟩ := hcut
    have HR := Lib.hid hR
    obtain ⟨base, hbase⟩ : ∃ base, wx.heap.size = base := ⟨_, rfl⟩
    rw [hbase] at HR
    clear hR d0 fx0 hmk
    go_wp2_with fail
    go_loopw [4] (fun i wr => ∃ (k : Nat) (vT : Value), k ≤ n ∧ i = .int .i64 k ∧ Hid (RN w wr m A nn BA oA cA BD base k vT ∧ base ≤ wr.heap.size)) (fun i _ => n - (intOf i).toNat)
    case atStart => exact ⟨0, _, Nat.zero_le _, rfl, Lib.hid ⟨HR.out, Nat.le_of_eq hbase.symm⟩⟩
    case round =>
      obtain ⟨k, vT, hk, rfl, HI⟩ := hrel
      obtain ⟨av, cv, rfl⟩ := own_form HI.out.1.own
      have c0 := cell_of_block HI.out.1.head 0
      have c1 := cell_of_block HI.out.1.head 1
      rw [HN.out] at c0
      have zp := frozen_of_block HI.out.1.head 1
      have lm := lt_of_block HI.out.1.head
      by_cases hlt : k < n
      · have hkA : k < A.length := by rw [HN.out]; exact hlt
        obtain ⟨f, hf⟩ : ∃ f, A[k] = f := ⟨_, rfl⟩
        obtain ⟨cs, ty, hcs1, hcs2⟩ := HI.out.1.all
        have hcell : ∀ j, j < 4 → wr.cell? ⟨BA, oA + k * 4 + j, none⟩ = (Fe.cells f)[j]? := fun j hj => by
          rw [cell_of_block hcs1, Nat.add_assoc, hcs2 k hkA j hj, hf]
        have lBA := lt_of_block hcs1
        have hap := HI.out.1.apart
        have hv := HI.out.1.own.lt
        have av1 : ¬ (Value.slice av k cv).ownBlock = some m := fun e => by have := (hv m e).1; omega
        have av2 : ¬ (Value.slice av k cv).ownBlock = some BA := fun e => by have := (hv BA e).1; omega
        have av3 : ¬ (Value.slice av k cv).ownBlock = some BD := fun e => by have := (hv BD e).1; omega
        have e0 : ∀ y : LaterF wr (fun q => (Value.slice av k cv).ownBlock = some q), y.wd.cell? ⟨m, 0, none⟩ = some (.slice (some ⟨BA, oA, none⟩) n cA) := fun y => (y.cell lm av1).trans c0
        have e1 : ∀ y : LaterF wr (fun q => (Value.slice av k cv).ownBlock = some q), y.wd.cell? ⟨m, 1, none⟩ = some (.slice av k cv) := fun y => (y.cell lm av1).trans c1
        have e2 : ∀ y : LaterF wr (fun q => (Value.slice av k cv).ownBlock = some q), y.wd.cell? ⟨BA, oA + k * 4, none⟩ = some (.int .i64 f.spot.node) := fun y => (y.cell lBA av2).trans (hcell 0 (by omega))
        have e3 : ∀ y : LaterF wr (fun q => (Value.slice av k cv).ownBlock = some q), y.wd.cell? ⟨BA, oA + k * 4 + 1, none⟩ = some (.int .i64 f.spot.domain) := fun y => (y.cell lBA av2).trans (hcell 1 (by omega))
        have fxr := (Fr.refl wr.heap.size (fun q => (Value.slice av k cv).ownBlock = some q) wr).drew
        have HTK := Lib.hid (show ((A.take (k + 1)).map emptyF).flatMap Fe.cells = ((A.take k).map emptyF).flatMap Fe.cells ++ [.int .i64 f.spot.node, .int .i64 f.spot.domain, .int .u64 0, .int .i64 0] by
          rw [List.take_succ_eq_append_getElem hkA, List.map_append, List.flatMap_append, hf]
          simp [Fe.cells, emptyF])
        have HCS := Lib.hid (show ∃ cs t, wr.heap[BA]? = some (.cells cs t (0, 0)) ∧ ∀ (k : Nat) (hk : k < A.length) (j : Nat), j < 4 → cs[oA + (k * 4 + j)]? = (Fe.cells A[k])[j]? from ⟨cs, ty, hcs1, hcs2⟩)
        clear hcs1 hcs2 hcell hf hv
        go_upto_region 5 with fail
        clear c0 c1
        refine Rg.wp_region_pick (by kernel_rfl) [0, 1, 2, 3, 4, 5, 6, 7, 8, 9, 10, 11, 12, 13] [14, 15, 16, 17, 18] 16 (by kernel_rfl) (by kernel_rfl) (by kernel_rfl) (fun w' => ∃ y : LaterF wr (fun q => (Value.slice av k cv).ownBlock = some q), w' = y.wd) (fun c a a' w hd h => ⟨hd.symm.trans h.1, h.2⟩) ⟨⟨_, fxr⟩, rfl⟩ ?_
        simp only [Rg.picks, List.getElem?_cons_succ, List.getElem?_cons_zero, Option.toList, List.cons_append, List.nil_append]
        repeat (quiet_step (fail))
        refine wpQuiet_nil ?_
        clear e0 e1 e2 e3
        simp only [Rg.pickn, List.getElem?_cons_succ, List.getElem?_cons_zero, Option.toList, List.map_cons, List.map_nil, List.cons_append, List.nil_append]
        refine Rg.wpN_step (fun K hK => ?_) ⟨⟨_, fxr⟩, rfl⟩
        go_simp
        have fx1 := ((Fr.refl wr.heap.size (fun q => (Value.slice av k cv).ownBlock = some q) wr).alloc (Nat.le_refl _) (.cells #[.int .i64 f.spot.node, .int .i64 f.spot.domain, .int .u64 0, .int .i64 0] 45)).drew
        have hown7 := (HI.out.1.own.alloc (.cells #[.int .i64 f.spot.node, .int .i64 f.spot.domain, .int .u64 0, .int .i64 0] 45)).drew
        refine hK _ _ (fun _ => ⟨⟨_, fx1⟩, rfl⟩) ?_
        clear hK K
        refine Rg.wpN_step (fun K hK => ?_) ⟨⟨_, fx1⟩, rfl⟩
        have hbw := HI.out.2
        refine step_append_lies _ (by rfl) _ _ _ (by rfl) base 45 i0 _ 4 32 Try.underlying38 hi0 hz0 hz1 hz2 rfl (by omega) (.slice av k cv) k _ (by rfl) hown7
          ⟨wr.heap.size, 0, none⟩ 1 1 [.int .i64 f.spot.node, .int .i64 f.spot.domain, .int .u64 0, .int .i64 0] (by rfl) (by rfl) (World.news_of_block (cs := #[.int .i64 f.spot.node, .int .i64 f.spot.domain, .int .u64 0, .int .i64 0]) (t := 45) (fr := (0, 0)) (World.alloc_heap_new wr _)) (by simp [Value.oneCell'])
          (by omega) (by unfold maxLen; omega) (by omega) (by simp; omega) (wr.heap.size + 1) (by simp) ?_
        intro gg cap' w8 hown2 hgrow hat hlt2
        have fx3 := fx1.grown hgrow (by simp) (fun q e => .inr e)
        refine hK _ _ (fun _ => ⟨⟨_, fx3⟩, rfl⟩) ?_
        clear hK K
        refine Rg.wpN_list (by decide) ?_
        simp only [List.map_cons, List.map_nil]
        rw [← HTK.out] at hown2
        have HO8 := Lib.hid hown2
        have hm8 := (fx3.block m lm av1).trans HI.out.1.head
        have HM8 := Lib.hid hm8
        have HD8 := Lib.hid ((fx3.block BD (lt_of_block HI.out.1.drn) av3).trans HI.out.1.drn)
        have HA8 := Lib.hid (fx3.block BA lBA av2)
        have HF8 := Lib.hid fx3
        have z1 := cell_of_block hm8 1
        have z2 := frozen_of_block hm8 1
        have l8 := lt_of_block hm8
        clear hown2 hm8 hgrow zp fxr fx1 fx3 hown7 lm
        go_wp2_with fail
        refine ⟨⟨k + 1, .slice (some ⟨gg, 0, none⟩) (k + 1) cap', by omega, by go_num, Lib.hid ⟨?_, ?_⟩⟩, by simp [intOf]; omega⟩
        · have hap := HI.out.1.apart
          obtain ⟨cs, ty, hcs1, hcs2⟩ := HCS.out
          have hlow := HI.out.1.low
          have same : ∀ q, q ≠ m → (w8.setCell ⟨m, 1, none⟩ (.slice (some ⟨gg, 0, none⟩) (k + 1) cap')).heap[q]? = w8.heap[q]? := fun q hq => setCell_other (p := ⟨m, 1, none⟩) _ hq
          refine ⟨setCell_block HM8.out 1 _, ⟨cs, ty, (same BA (Ne.symm hap.1)).trans (HA8.out.trans hcs1), hcs2⟩, ⟨HO8.out.1, ?_⟩, (same BD (Ne.symm hap.2.1)).trans HD8.out, hap, hlow, ?_⟩
          · rcases HO8.out.2 with e | ⟨g, cap, cur, hv', hg, hh, hn⟩
            · exact .inl e
            · exact .inr ⟨g, cap, cur, hv', hg, (same g (by omega)).trans hh, hn⟩
          · have hsz := HI.out.1.bel.size
            have hv := HI.out.1.own.lt
            have hb8 : Below w.heap.size w w8 := HI.out.1.bel.trans ((HF8.out.mono hsz fun _ _ e => e).below (Nat.le_refl _) fun q hq => by have := (hv q hq).1; omega)
            exact hb8.setCell (p := ⟨m, 1, none⟩) hlow.1 _
        · have := HF8.out.size
          simp [World.setCell]
          omega
      · obtain rfl : k = n := by omega
        clear hlt hk
        go_wp2
        go_ret
        have hI := HI.out.1
        have hlow := hI.low
        have htk : (A.take k).map emptyF = A.map emptyF := by rw [List.take_of_length_le (by rw [HN.out]; exact Nat.le_refl _)]
        have ho := hI.own
        rw [htk] at ho
        have hlen : (A.map emptyF).length = k := by rw [List.length_map, HN.out]
        refine ⟨m, BA, oA, cA, BD, base, _, rfl, ⟨hI.head, hI.all, by rw [hlen]; exact ho, hI.drn, hI.apart, by simp⟩, fun q hq => ?_, hI.bel⟩
        rcases hq with rfl | rfl | rfl | hq
        · exact hlow.1
        · exact hlow.2.1
        · exact hlow.2.2
        · have h1 := (hI.own.lt q hq).1; have h2 := hI.apart; omega
  refine Rg.wp_region_tree (by kernel_rfl) [0, 2, 3, 4] (.two 1 (.one 5 (.fin [6, 7, 8])) 5 (.one 1 (.fin [6, 7, 8]))) 9 (by kernel_rfl) (by kernel_rfl) (by kernel_rfl) (by kernel_rfl) (fun w' => ∃ y : Later w1, w' = y.wd) (fun c a a' w hd h => ⟨hd.symm.trans h.1, h.2⟩) ⟨⟨_, fx0⟩, rfl⟩ ?_
  simp only [Rg.picks, List.getElem?_cons_succ, List.getElem?_cons_zero, Option.toList, List.cons_append, List.nil_append]
  repeat (quiet_step (fail))
  refine wpQuiet_nil ?_
  clear d0 hmk
  simp only [Rg.wpQ, Rg.pickn, List.getElem?_cons_succ, List.getElem?_cons_zero, Option.toList, List.map_cons, List.map_nil, List.cons_append, List.nil_append]
  have HX := Lib.hid fx0
  generalize w1.drew = w2 at HX ⊢
  clear fx0
  constructor
  · refine Rg.wp1_step (fun K hK => ?_) ⟨⟨_, HX.out⟩, rfl⟩
    go_simp
    refine (rall_any _ ns _ (HS.out.later (HB0.out.trans (HX.out.mono HB0.out.size))) HOK.out).mono ?_
    rintro e w3 ⟨va, rfl, hm3, hb3⟩
    rw [HAA.out] at hm3
    obtain ⟨BA, oA, cA, rfl, hBA, cs, ty, hk3, hc3⟩ := made_at hm3 H0.out
    have HX3 := Lib.hid (HX.out.trans (hb3.mono HX.out.size))
    have HK3 := Lib.hid hk3; have HC3 := Lib.hid hc3
    have HBA := Lib.hid (Nat.le_trans HX.out.size hBA)
    clear hm3 hb3 hk3 hc3 hBA
    refine hK _ _ (fun _ => ⟨⟨_, HX3.out⟩, rfl⟩) ?_
    clear hK K
    have hmk := HMK.out w3
    have hx4 := HX3.out.alloc HX3.out.size (.cells (DB nn []) 4)
    refine Rg.wp1_step (fun K hK => ?_) ⟨⟨_, HX3.out⟩, rfl⟩
    go_simp
    refine hK _ _ (fun _ => ⟨⟨_, hx4⟩, rfl⟩) ?_
    clear hK K hmk
    have k4 := World.alloc_heap_new w3 (.cells (DB nn []) 4)
    have ka4 := (((Below.refl w3.heap.size w3).alloc (Nat.le_refl _) (.cells (DB nn []) 4)).block _ (lt_of_block HK3.out)).trans HK3.out
    have hlt3 := lt_of_block HK3.out
    have hge3 := HX3.out.size
    obtain ⟨BD, hBD⟩ : ∃ BD, w3.heap.size = BD := ⟨_, rfl⟩
    rw [hBD] at k4 hlt3 hge3 ⊢
    generalize w3.alloc (.cells (DB nn []) 4) = w4 at hx4 k4 ka4 ⊢
    have HX4 := Lib.hid hx4; have HD4 := Lib.hid k4; have HA4 := Lib.hid ka4
    have HLT := Lib.hid (show BA < BD ∧ w1.heap.size ≤ BD from ⟨hlt3, hge3⟩)
    clear hx4 k4 ka4 hlt3 hge3 hBD
    try rw [HN.out]
    refine Rg.wpN_step (fun K hK => ?_) ⟨⟨_, HX4.out⟩, rfl⟩
    go_simp
    refine hK _ _ (fun _ => ⟨⟨_, HX4.out⟩, rfl⟩) ?_
    clear hK K
    have hx5 := HX4.out.alloc HX4.out.size (.cells #[.slice (some ⟨BA, oA, none⟩) n cA, .slice none 0 0, .slice (some ⟨BD, 0, none⟩) nn nn] 62)
    refine Rg.wpN_step (fun K hK => ?_) ⟨⟨_, HX4.out⟩, rfl⟩
    go_simp
    refine hK _ _ (fun _ => ⟨⟨_, hx5⟩, rfl⟩) ?_
    clear hK K
    have k5 := World.alloc_heap_new w4 (.cells #[.slice (some ⟨BA, oA, none⟩) n cA, .slice none 0 0, .slice (some ⟨BD, 0, none⟩) nn nn] 62)
    have hb5 := (Below.refl w4.heap.size w4).alloc (Nat.le_refl _) (.cells #[.slice (some ⟨BA, oA, none⟩) n cA, .slice none 0 0, .slice (some ⟨BD, 0, none⟩) nn nn] 62)
    have HA5 := Lib.hid ((hb5.block _ (lt_of_block HA4.out)).trans HA4.out)
    have HD5 := Lib.hid ((hb5.block _ (lt_of_block HD4.out)).trans HD4.out)
    have hlA := lt_of_block HA4.out; have hlD := lt_of_block HD4.out
    obtain ⟨m, hm⟩ : ∃ m, w4.heap.size = m := ⟨_, rfl⟩
    have hge4 := HX4.out.size
    rw [hm] at k5 hlA hlD hge4 ⊢
    generalize w4.alloc (.cells #[.slice (some ⟨BA, oA, none⟩) n cA, .slice none 0 0, .slice (some ⟨BD, 0, none⟩) nn nn] 62) = w5 at hx5 k5 HA5 HD5 ⊢
    have HX5 := Lib.hid hx5; have HM5 := Lib.hid k5
    have HLL := Lib.hid (show BA < m ∧ BD < m ∧ w1.heap.size ≤ m from ⟨hlA, hlD, hge4⟩)
    clear hx5 k5 hb5 hlA hlD hge4 hm
    refine Rg.wpN_step (fun K hK => ?_) ⟨⟨_, HX5.out⟩, rfl⟩
    go_simp
    refine hK _ _ (fun _ => ⟨⟨_, HX5.out⟩, rfl⟩) ?_
    clear hK K
    refine Rg.wpN_list (by simp) ?_
    simp only [List.map_nil]
    go_wp2
    go_meet
    have hs0 := HB0.out.size
    have h1 := HLL.out; have h2 := HLT.out; have h3 := HBA.out
    have lm := lt_of_block HM5.out
    refine ⟨w5, m, BA, oA, cA, BD, rfl, rfl, ⟨by rw [HN.out]; exact HM5.out, ⟨cs, ty, HA5.out, HC3.out⟩, World.ownsRow_nil _ _ _ _, HD5.out, ⟨by omega, by omega, by omega, by omega, by omega, by omega⟩, ⟨by omega, by omega, by omega⟩, HB0.out.trans (HX5.out.mono HB0.out.size)⟩⟩
  · have hmk := HMK.out w2
    have hx3 := HX.out.alloc HX.out.size (.cells (DB nn []) 4)
    refine Rg.wp1_step (fun K hK => ?_) ⟨⟨_, HX.out⟩, rfl⟩
    go_simp
    refine hK _ _ (fun _ => ⟨⟨_, hx3⟩, rfl⟩) ?_
    clear hK K hmk
    have k3 := World.alloc_heap_new w2 (.cells (DB nn []) 4)
    have hge2 := HX.out.size
    obtain ⟨BD, hBD⟩ : ∃ BD, w2.heap.size = BD := ⟨_, rfl⟩
    rw [hBD] at k3 hge2 ⊢
    generalize w2.alloc (.cells (DB nn []) 4) = w3 at hx3 k3 ⊢
    have HX3 := Lib.hid hx3; have HD3 := Lib.hid k3; have HGE := Lib.hid hge2
    clear hx3 k3 hge2 hBD
    refine Rg.wp1_step (fun K hK => ?_) ⟨⟨_, HX3.out⟩, rfl⟩
    go_simp
    refine (rall_any _ ns _ (HS.out.later (HB0.out.trans (HX3.out.mono HB0.out.size))) HOK.out).mono ?_
    rintro e w4 ⟨va, rfl, hm4, hb4⟩
    rw [HAA.out] at hm4
    obtain ⟨BA, oA, cA, rfl, hBA, cs, ty, hk4, hc3⟩ := made_at hm4 H0.out
    have HX4 := Lib.hid (HX3.out.trans (hb4.mono HX3.out.size))
    have HA4 := Lib.hid hk4; have HC3 := Lib.hid hc3
    have HD4 := Lib.hid ((hb4.block _ (lt_of_block HD3.out)).trans HD3.out)
    have HBA := Lib.hid (Nat.le_trans HX3.out.size hBA)
    have HLT := Lib.hid (show BD < BA ∧ w1.heap.size ≤ BD from ⟨Nat.lt_of_lt_of_le (lt_of_block HD3.out) hBA, HGE.out⟩)
    clear hm4 hb4 hk4 hc3 hBA
    refine hK _ _ (fun _ => ⟨⟨_, HX4.out⟩, rfl⟩) ?_
    clear hK K
    try rw [HN.out]
    refine Rg.wpN_step (fun K hK => ?_) ⟨⟨_, HX4.out⟩, rfl⟩
    go_simp
    refine hK _ _ (fun _ => ⟨⟨_, HX4.out⟩, rfl⟩) ?_
    clear hK K
    have hx5 := HX4.out.alloc HX4.out.size (.cells #[.slice (some ⟨BA, oA, none⟩) n cA, .slice none 0 0, .slice (some ⟨BD, 0, none⟩) nn nn] 62)
    refine Rg.wpN_step (fun K hK => ?_) ⟨⟨_, HX4.out⟩, rfl⟩
    go_simp
    refine hK _ _ (fun _ => ⟨⟨_, hx5⟩, rfl⟩) ?_
    clear hK K
    have k5 := World.alloc_heap_new w4 (.cells #[.slice (some ⟨BA, oA, none⟩) n cA, .slice none 0 0, .slice (some ⟨BD, 0, none⟩) nn nn] 62)
    have hb5 := (Below.refl w4.heap.size w4).alloc (Nat.le_refl _) (.cells #[.slice (some ⟨BA, oA, none⟩) n cA, .slice none 0 0, .slice (some ⟨BD, 0, none⟩) nn nn] 62)
    have HA5 := Lib.hid ((hb5.block _ (lt_of_block HA4.out)).trans HA4.out)
    have HD5 := Lib.hid ((hb5.block _ (lt_of_block HD4.out)).trans HD4.out)
    have hlA := lt_of_block HA4.out; have hlD := lt_of_block HD4.out
    obtain ⟨m, hm⟩ : ∃ m, w4.heap.size = m := ⟨_, rfl⟩
    have hge4 := HX4.out.size
    rw [hm] at k5 hlA hlD hge4 ⊢
    generalize w4.alloc (.cells #[.slice (some ⟨BA, oA, none⟩) n cA, .slice none 0 0, .slice (some ⟨BD, 0, none⟩) nn nn] 62) = w5 at hx5 k5 HA5 HD5 ⊢
    have HX5 := Lib.hid hx5; have HM5 := Lib.hid k5
    have HLL := Lib.hid (show BA < m ∧ BD < m ∧ w1.heap.size ≤ m from ⟨hlA, hlD, hge4⟩)
    clear hx5 k5 hb5 hlA hlD hge4 hm
    refine Rg.wpN_step (fun K hK => ?_) ⟨⟨_, HX5.out⟩, rfl⟩
    go_simp
    refine hK _ _ (fun _ => ⟨⟨_, HX5.out⟩, rfl⟩) ?_
    clear hK K
    refine Rg.wpN_list (by simp) ?_
    simp only [List.map_nil]
    go_wp2
    go_meet
    have hs0 := HB0.out.size
    have h1 := HLL.out; have h2 := HLT.out; have h3 := HBA.out
    have lm := lt_of_block HM5.out
    refine ⟨w5, m, BA, oA, cA, BD, rfl, rfl, ⟨by rw [HN.out]; exact HM5.out, ⟨cs, ty, HA5.out, HC3.out⟩, World.ownsRow_nil _ _ _ _, HD5.out, ⟨by omega, by omega, by omega, by omega, by omega, by omega⟩, ⟨by omega, by omega, by omega⟩, HB0.out.trans (HX5.out.mono HB0.out.size)⟩⟩
end Go.Proofs.Ytdmbjjladkdphaa
