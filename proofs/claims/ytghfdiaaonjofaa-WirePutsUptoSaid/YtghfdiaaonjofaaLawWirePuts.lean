/-
  The law WirePuts.
-/
import Derived.Test.YtghfdiaaonjofaaWireOpen
import Derived.Test.YtghfdiaaonjofaaRefCfg2
set_option linter.unusedVariables false
set_option linter.unusedSimpArgs false
namespace Go.Proofs.Ytghfdiaaonjofaa
open Go.RowKit
set_option maxRecDepth 100000 in
set_option maxHeartbeats 4000000 in
theorem wirePuts_walk (x : Ac) (wx : x.wf) (nv qv : Value) (ns : List (List Dm)) (qs : List Qu) (wk tm rt ag : Int) (W : World) (hn : NodesOf W nv ns) (hq : Rd.SliceOf W qv 3 Qu.cells qs)
    (wn : ∀ n ∈ ns, ∀ d ∈ n, d.wf) (wq : ∀ q ∈ qs, q.wf) (ww : (Lit.int .i64 wk).wf = true ∧ (Lit.int .i64 tm).wf = true ∧ (Lit.int .i64 rt).wf = true ∧ (Lit.int .i64 ag).wf = true) (hd : dtot ns ≤ 1048576) :
    Calls Try.prog 5 #[.agg #[.int .i64 x.kind, .int .i64 x.n, .int .i64 x.job.id, .int .i64 x.job.queue, .int .i64 x.job.prio, .int .i64 x.job.runtime, .int .i64 x.job.shape.gpus, .int .i64 x.job.shape.cpus, .int .i64 x.job.shape.mn, .int .i64 x.job.shape.mx],
      .agg #[nv, qv, .int .i64 wk, .int .i64 tm, .int .i64 rt, .int .i64 ag]] W fun e w' => e = .returned (.bool true) ∧ Below W.heap.size W w' := by
  have HN := Lib.hid hn; have HQ := Lib.hid hq; have HWX := Lib.hid wx; have HWN := Lib.hid wn; have HWQ := Lib.hid wq; have HWW := Lib.hid ww
  clear hn hq wx wn wq ww
  go_enter Try.func5, Try.ntmps5
  go_wp2_with fail
  have hb1 := ((Below.refl W.heap.size W).alloc (Nat.le_refl _) (.cells #[.int .i64 x.kind, .int .i64 x.n, .int .i64 x.job.id, .int .i64 x.job.queue, .int .i64 x.job.prio, .int .i64 x.job.runtime, .int .i64 x.job.shape.gpus, .int .i64 x.job.shape.cpus, .int .i64 x.job.shape.mn, .int .i64 x.job.shape.mx] 30)).alloc (by simp) (.cells #[nv, qv, .int .i64 wk, .int .i64 tm, .int .i64 rt, .int .i64 ag] 43)
  have kA : ((W.alloc (.cells #[.int .i64 x.kind, .int .i64 x.n, .int .i64 x.job.id, .int .i64 x.job.queue, .int .i64 x.job.prio, .int .i64 x.job.runtime, .int .i64 x.job.shape.gpus, .int .i64 x.job.shape.cpus, .int .i64 x.job.shape.mn, .int .i64 x.job.shape.mx] 30)).alloc (.cells #[nv, qv, .int .i64 wk, .int .i64 tm, .int .i64 rt, .int .i64 ag] 43)).heap[W.heap.size]? = some (.cells #[.int .i64 x.kind, .int .i64 x.n, .int .i64 x.job.id, .int .i64 x.job.queue, .int .i64 x.job.prio, .int .i64 x.job.runtime, .int .i64 x.job.shape.gpus, .int .i64 x.job.shape.cpus, .int .i64 x.job.shape.mn, .int .i64 x.job.shape.mx] 30 (0, 0)) := alloc_other (World.alloc_heap_new _ _)
  have kC : ((W.alloc (.cells #[.int .i64 x.kind, .int .i64 x.n, .int .i64 x.job.id, .int .i64 x.job.queue, .int .i64 x.job.prio, .int .i64 x.job.runtime, .int .i64 x.job.shape.gpus, .int .i64 x.job.shape.cpus, .int .i64 x.job.shape.mn, .int .i64 x.job.shape.mx] 30)).alloc (.cells #[nv, qv, .int .i64 wk, .int .i64 tm, .int .i64 rt, .int .i64 ag] 43)).heap[W.heap.size + 1]? = some (.cells #[nv, qv, .int .i64 wk, .int .i64 tm, .int .i64 rt, .int .i64 ag] 43 (0, 0)) := alloc2_new _ _ _
  generalize (W.alloc (.cells #[.int .i64 x.kind, .int .i64 x.n, .int .i64 x.job.id, .int .i64 x.job.queue, .int .i64 x.job.prio, .int .i64 x.job.runtime, .int .i64 x.job.shape.gpus, .int .i64 x.job.shape.cpus, .int .i64 x.job.shape.mn, .int .i64 x.job.shape.mx] 30)).alloc (.cells #[nv, qv, .int .i64 wk, .int .i64 tm, .int .i64 rt, .int .i64 ag] 43) = w1 at hb1 kA kC ⊢
  obtain ⟨A, hA⟩ : ∃ A, W.heap.size = A := ⟨_, rfl⟩
  rw [hA] at kA kC ⊢
  obtain ⟨C, hC⟩ : ∃ C, A + 1 = C := ⟨_, rfl⟩
  rw [hC] at kC ⊢
  have HA := Lib.hid kA; have HC := Lib.hid kC; have HB1 := Lib.hid hb1
  clear hb1 kA kC hC
  clear hA
  refine (awake_any _).mono ?_
  rintro e w2 ⟨rfl, hb2⟩
  have HB2 := Lib.hid (show Below w1.heap.size w1 w2 from hb2)
  clear hb2
  have c0 := cell_of_block ((HB2.out.block _ (lt_of_block HC.out)).trans HC.out) 0
  have c1 := cell_of_block ((HB2.out.block _ (lt_of_block HC.out)).trans HC.out) 1
  have c2 := cell_of_block ((HB2.out.block _ (lt_of_block HC.out)).trans HC.out) 2
  have c3 := cell_of_block ((HB2.out.block _ (lt_of_block HC.out)).trans HC.out) 3
  have c4 := cell_of_block ((HB2.out.block _ (lt_of_block HC.out)).trans HC.out) 4
  have c5 := cell_of_block ((HB2.out.block _ (lt_of_block HC.out)).trans HC.out) 5
  have lc := Nat.lt_of_lt_of_le (lt_of_block HC.out) HB2.out.size
  go_wp2_with fail
  clear c0 c1 c2 c3 c4 c5 lc
  have HB2W : Hid (Below W.heap.size W w2) := Lib.hid ((HB1.out.trans (HB2.out.mono HB1.out.size)) )
  refine (rfew_any nv qv ns qs wk tm rt ag _ (HN.out.later HB2W.out) (HQ.out.later HB2W.out) hd).mono ?_
  rintro e w3 ⟨rfl, hb3⟩
  have HB3 := Lib.hid (HB2.out.trans (hb3.mono HB2.out.size))
  clear hb3
  cases hfew : fewC ns qs with
  | false =>
    have HF := Lib.hid (show Below W.heap.size W w3 from (HB1.out.trans (HB3.out.mono HB1.out.size)))
    clear hfew
    go_wp2_with fail
    go_ret
    exact ⟨rfl, HF.out⟩
  | true =>
  have HLS := Lib.hid (show ns.length ≤ 300 ∧ qs.length ≤ 300 ∧ dtot ns ≤ 600 by unfold fewC at hfew; simp only [Bool.and_eq_true, decide_eq_true_eq] at hfew; exact ⟨hfew.1.1, hfew.1.2, hfew.2⟩)
  clear hfew
  have a0 := cell_of_block ((HB3.out.block _ (lt_of_block HA.out)).trans HA.out) 0
  have a1 := cell_of_block ((HB3.out.block _ (lt_of_block HA.out)).trans HA.out) 1
  have a2 := cell_of_block ((HB3.out.block _ (lt_of_block HA.out)).trans HA.out) 2
  have a3 := cell_of_block ((HB3.out.block _ (lt_of_block HA.out)).trans HA.out) 3
  have a4 := cell_of_block ((HB3.out.block _ (lt_of_block HA.out)).trans HA.out) 4
  have a5 := cell_of_block ((HB3.out.block _ (lt_of_block HA.out)).trans HA.out) 5
  have a6 := cell_of_block ((HB3.out.block _ (lt_of_block HA.out)).trans HA.out) 6
  have a7 := cell_of_block ((HB3.out.block _ (lt_of_block HA.out)).trans HA.out) 7
  have a8 := cell_of_block ((HB3.out.block _ (lt_of_block HA.out)).trans HA.out) 8
  have a9 := cell_of_block ((HB3.out.block _ (lt_of_block HA.out)).trans HA.out) 9
  have la := Nat.lt_of_lt_of_le (lt_of_block HA.out) HB3.out.size
  go_wp2_with fail
  clear a0 a1 a2 a3 a4 a5 a6 a7 a8 a9 la
  refine (putB_any x _).mono ?_
  rintro e w4 ⟨rfl, hb4⟩
  have HB4 := Lib.hid (HB3.out.trans (hb4.mono HB3.out.size))
  clear hb4
  have a0 := cell_of_block ((HB4.out.block _ (lt_of_block HA.out)).trans HA.out) 0
  have a1 := cell_of_block ((HB4.out.block _ (lt_of_block HA.out)).trans HA.out) 1
  have a2 := cell_of_block ((HB4.out.block _ (lt_of_block HA.out)).trans HA.out) 2
  have a3 := cell_of_block ((HB4.out.block _ (lt_of_block HA.out)).trans HA.out) 3
  have a4 := cell_of_block ((HB4.out.block _ (lt_of_block HA.out)).trans HA.out) 4
  have a5 := cell_of_block ((HB4.out.block _ (lt_of_block HA.out)).trans HA.out) 5
  have a6 := cell_of_block ((HB4.out.block _ (lt_of_block HA.out)).trans HA.out) 6
  have a7 := cell_of_block ((HB4.out.block _ (lt_of_block HA.out)).trans HA.out) 7
  have a8 := cell_of_block ((HB4.out.block _ (lt_of_block HA.out)).trans HA.out) 8
  have a9 := cell_of_block ((HB4.out.block _ (lt_of_block HA.out)).trans HA.out) 9
  have la := Nat.lt_of_lt_of_le (lt_of_block HA.out) HB4.out.size
  go_wp2_with fail
  clear a0 a1 a2 a3 a4 a5 a6 a7 a8 a9 la
  refine (rput_any x HWX.out _).mono ?_
  rintro e w5 ⟨rfl, hb5⟩
  have HB5 := Lib.hid (HB4.out.trans (hb5.mono HB4.out.size))
  clear hb5
  obtain ⟨s1, hs1⟩ : ∃ s, strOfNums (putB x).1 = s := ⟨_, rfl⟩
  obtain ⟨e1, he1⟩ : ∃ s, (putB x).2 = s := ⟨_, rfl⟩
  rw [hs1, he1]
  clear hs1 he1
  have c0 := cell_of_block ((HB5.out.block _ (lt_of_block HC.out)).trans HC.out) 0
  have c1 := cell_of_block ((HB5.out.block _ (lt_of_block HC.out)).trans HC.out) 1
  have c2 := cell_of_block ((HB5.out.block _ (lt_of_block HC.out)).trans HC.out) 2
  have c3 := cell_of_block ((HB5.out.block _ (lt_of_block HC.out)).trans HC.out) 3
  have c4 := cell_of_block ((HB5.out.block _ (lt_of_block HC.out)).trans HC.out) 4
  have c5 := cell_of_block ((HB5.out.block _ (lt_of_block HC.out)).trans HC.out) 5
  have lc := Nat.lt_of_lt_of_le (lt_of_block HC.out) HB5.out.size
  go_wp2_with fail
  clear c0 c1 c2 c3 c4 c5 lc
  have HB5W : Hid (Below W.heap.size W w5) := Lib.hid ((HB1.out.trans (HB5.out.mono HB1.out.size)) )
  refine (putConfig_any nv qv ns qs wk tm rt ag _ (HN.out.later HB5W.out) (HQ.out.later HB5W.out) HLS.out.1 HLS.out.2.1 HLS.out.2.2).mono ?_
  rintro e w6 ⟨rfl, hb6⟩
  have HB6 := Lib.hid (HB5.out.trans (hb6.mono HB5.out.size))
  clear hb6
  have c0 := cell_of_block ((HB6.out.block _ (lt_of_block HC.out)).trans HC.out) 0
  have c1 := cell_of_block ((HB6.out.block _ (lt_of_block HC.out)).trans HC.out) 1
  have c2 := cell_of_block ((HB6.out.block _ (lt_of_block HC.out)).trans HC.out) 2
  have c3 := cell_of_block ((HB6.out.block _ (lt_of_block HC.out)).trans HC.out) 3
  have c4 := cell_of_block ((HB6.out.block _ (lt_of_block HC.out)).trans HC.out) 4
  have c5 := cell_of_block ((HB6.out.block _ (lt_of_block HC.out)).trans HC.out) 5
  have lc := Nat.lt_of_lt_of_le (lt_of_block HC.out) HB6.out.size
  go_wp2_with fail
  clear c0 c1 c2 c3 c4 c5 lc
  have HB6W : Hid (Below W.heap.size W w6) := Lib.hid ((HB1.out.trans (HB6.out.mono HB1.out.size)) )
  refine (rputConfig_any nv qv ns qs wk tm rt ag _ (HN.out.later HB6W.out) (HQ.out.later HB6W.out) HLS.out.1 HLS.out.2.1 HLS.out.2.2 HWN.out HWQ.out HWW.out).mono ?_
  rintro e w7 ⟨rfl, hb7⟩
  have HB7 := Lib.hid (HB6.out.trans (hb7.mono HB6.out.size))
  clear hb7
  obtain ⟨s2, hs2⟩ : ∃ s, strOfNums (cfgB (cfgL ns qs wk tm rt ag)).1 = s := ⟨_, rfl⟩
  obtain ⟨e2, he2⟩ : ∃ s, (cfgB (cfgL ns qs wk tm rt ag)).2 = s := ⟨_, rfl⟩
  rw [hs2, he2]
  clear hs2 he2
  have HF := Lib.hid (show Below W.heap.size W w7 from (HB1.out.trans (HB7.out.mono HB1.out.size)))
  go_wp2_with fail
  go_ret
  exact ⟨rfl, HF.out⟩
end Go.Proofs.Ytghfdiaaonjofaa
