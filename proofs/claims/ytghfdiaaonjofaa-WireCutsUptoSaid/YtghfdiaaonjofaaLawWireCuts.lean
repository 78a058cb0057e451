/-
  The law WireCuts.
-/
import Derived.Test.YtghfdiaaonjofaaWireOpen
import Derived.Test.YtghfdiaaonjofaaWireTrip
import Derived.Test.YtghfdiaaonjofaaWireConf
import Derived.Test.YtghfdiaaonjofaaRefSame
set_option linter.unusedVariables false
set_option linter.unusedSimpArgs false
namespace Go.Proofs.Ytghfdiaaonjofaa
open Go.RowKit
set_option maxRecDepth 100000 in
set_option maxHeartbeats 4000000 in
theorem wireCuts_walk (nv qv : Value) (ns : List (List Dm)) (qs : List Qu) (wk tm rt ag : Int) (W : World) (hn : NodesOf W nv ns) (hq : Rd.SliceOf W qv 3 Qu.cells qs)
    (wn : ∀ n ∈ ns, ∀ d ∈ n, d.wf) (wq : ∀ q ∈ qs, q.wf) (ww : (Lit.int .i64 wk).wf = true ∧ (Lit.int .i64 tm).wf = true ∧ (Lit.int .i64 rt).wf = true ∧ (Lit.int .i64 ag).wf = true) (hd : dtot ns ≤ 1048576) (cut : Int) (wc : (Lit.int .i64 cut).wf = true) :
    Calls Try.prog 8 #[.agg #[nv, qv, .int .i64 wk, .int .i64 tm, .int .i64 rt, .int .i64 ag], .int .i64 cut] W fun e w' => e = .returned (.bool true) ∧ Below W.heap.size W w' := by
  clear wn wq ww wc
  obtain ⟨na, nc, hnv⟩ := hn.form
  obtain ⟨qa, qc, hqv⟩ := hq.form
  obtain ⟨nn, hnn⟩ : ∃ nn, ns.length = nn := ⟨_, rfl⟩
  obtain ⟨qn, hqn⟩ : ∃ qn, qs.length = qn := ⟨_, rfl⟩
  rw [hnn] at hnv
  rw [hqn] at hqv
  subst hnv hqv
  have HN := Lib.hid hn; have HQ := Lib.hid hq; have HNN := Lib.hid hnn; have HQN := Lib.hid hqn
  clear hn hq hnn hqn
  go_enter Try.func8, Try.ntmps8
  go_wp2_with fail
  have hb1 := (Below.refl W.heap.size W).alloc (Nat.le_refl _) (.cells #[.slice na nn nc, .slice qa qn qc, .int .i64 wk, .int .i64 tm, .int .i64 rt, .int .i64 ag] 43)
  have kC := World.alloc_heap_new W (.cells #[.slice na nn nc, .slice qa qn qc, .int .i64 wk, .int .i64 tm, .int .i64 rt, .int .i64 ag] 43)
  generalize W.alloc (.cells #[.slice na nn nc, .slice qa qn qc, .int .i64 wk, .int .i64 tm, .int .i64 rt, .int .i64 ag] 43) = w1 at hb1 kC ⊢
  obtain ⟨C, hC⟩ : ∃ C, W.heap.size = C := ⟨_, rfl⟩
  rw [hC] at kC ⊢
  have HC := Lib.hid kC; have HB1 := Lib.hid hb1
  clear hb1 kC hC
  refine (awake_any _).mono ?_
  rintro e w2 ⟨rfl, hb2⟩
  have HB2 := Lib.hid (show Below w1.heap.size w1 w2 from hb2)
  clear hb2
  have c0 := cell_of_block ((HB2.out.block _ (lt_of_block HC.out)).trans HC.out) 0
  have c1 := cell_of_block ((HB2.out.block _ (lt_of_block HC.out)).trans HC.out) 1
  have c2 := cell_of_block ((HB2.out.block _ (lt_of_block HC.out)).trans HC.out) 2
  have c3 := cell_of_block ((HB2.out.block _ (lt_of_block HC.out)).trans HC.out) 3
  have c4 := cell_of_block ((HB2.out.block _ (lt_of_block HC.out)).trans HC.out) 4
  have c5 := cell_of_block ((HB2.out.block _ (lt_of_block HC.out)).trans HC.out) 5
  have lc := Nat.lt_of_lt_of_le (lt_of_block HC.out) HB2.out.size
  go_wp2_with fail
  clear c0 c1 c2 c3 c4 c5 lc
  have HB2W : Hid (Below W.heap.size W w2) := Lib.hid (HB1.out.trans (HB2.out.mono HB1.out.size))
  refine (rfew_any _ _ ns qs wk tm rt ag _ (HN.out.later HB2W.out) (HQ.out.later HB2W.out) hd).mono ?_
  rintro e w3 ⟨rfl, hb3⟩
  have HB3 := Lib.hid (HB2.out.trans (hb3.mono HB2.out.size))
  clear hb3
  cases hfew : fewC ns qs with
  | false =>
    have HF := Lib.hid (show Below W.heap.size W w3 from HB1.out.trans (HB3.out.mono HB1.out.size))
    clear hfew
    go_wp2_with fail
    go_ret
    exact ⟨rfl, HF.out⟩
  | true =>
  have HLS := Lib.hid (show ns.length ≤ 300 ∧ qs.length ≤ 300 ∧ dtot ns ≤ 600 by unfold fewC at hfew; simp only [Bool.and_eq_true, decide_eq_true_eq] at hfew; exact ⟨hfew.1.1, hfew.1.2, hfew.2⟩)
  clear hfew
  have c0 := cell_of_block ((HB3.out.block _ (lt_of_block HC.out)).trans HC.out) 0
  have c1 := cell_of_block ((HB3.out.block _ (lt_of_block HC.out)).trans HC.out) 1
  have c2 := cell_of_block ((HB3.out.block _ (lt_of_block HC.out)).trans HC.out) 2
  have c3 := cell_of_block ((HB3.out.block _ (lt_of_block HC.out)).trans HC.out) 3
  have c4 := cell_of_block ((HB3.out.block _ (lt_of_block HC.out)).trans HC.out) 4
  have c5 := cell_of_block ((HB3.out.block _ (lt_of_block HC.out)).trans HC.out) 5
  have lc := Nat.lt_of_lt_of_le (lt_of_block HC.out) HB3.out.size
  go_wp2_with fail
  clear c0 c1 c2 c3 c4 c5 lc
  have HB3W : Hid (Below W.heap.size W w3) := Lib.hid (HB1.out.trans (HB3.out.mono HB1.out.size))
  refine (putConfig_any _ _ ns qs wk tm rt ag _ (HN.out.later HB3W.out) (HQ.out.later HB3W.out) HLS.out.1 HLS.out.2.1 HLS.out.2.2).mono ?_
  rintro e w4 ⟨rfl, hb4⟩
  have HB4 := Lib.hid (HB3.out.trans (hb4.mono HB3.out.size))
  clear hb4
  obtain ⟨L, hL⟩ : ∃ L, cfgL ns qs wk tm rt ag = L := ⟨_, rfl⟩
  have HL := Lib.hid hL
  rw [hL]
  clear hL
  obtain ⟨e2, he2⟩ : ∃ s, (cfgB L).2 = s := ⟨_, rfl⟩
  obtain ⟨s, hs⟩ : ∃ s, strOfNums (cfgB L).1 = s := ⟨_, rfl⟩
  rw [he2, hs]
  have HE2 := Lib.hid he2; have HS := Lib.hid hs
  have HFD := Lib.hid (show Below W.heap.size W w4 from HB1.out.trans (HB4.out.mono HB1.out.size))
  clear he2 hs
  by_cases h0 : e2 = 0
  case neg =>
    have hd1 : decide (e2 = 0) = false := by simp [h0]
    have hd2 : (e2 == 0) = false := by simp [h0]
    have hd3 : (e2 != 0) = true := by simp [h0]
    go_wp2_with fail
    go_ret
    exact ⟨rfl, HFD.out⟩
  subst h0
  by_cases hneg : cut < 0
  · have hd1 : decide (cut < 0) = true := by simp; omega
    go_wp2_with fail
    go_ret
    exact ⟨rfl, HFD.out⟩
  by_cases hbig : (s.size : Int) < cut
  · have hd1 : decide (cut < 0) = false := by simp; omega
    have hd2 : decide ((s.size : Int) < cut) = true := by simp; omega
    go_wp2_with fail
    go_ret
    exact ⟨rfl, HFD.out⟩
  obtain ⟨k, rfl⟩ : ∃ k : Nat, cut = k := ⟨cut.toNat, by omega⟩
  have hk : k ≤ s.size := by omega
  have hd1 : decide ((k : Int) < 0) = false := by simp
  have hd2 : decide ((s.size : Int) < (k : Int)) = false := by simp; omega
  have i1 : (0 : Int) ≤ (k : Int) := by omega
  have i2 : (k : Int) ≤ (s.size : Int) := by omega
  have hfit := cfg_code L HE2.out
  have hs' : strOfNums (putN L) = s := by rw [← hfit.2]; exact HS.out
  have hcfg : cfgR s = some (⟨ns, qs, wk, tm, rt, ag⟩, s.size) := by
    have h1 := cfg_put (s := s) (ns := ns) (qs := qs) (wk := wk) (tm := tm) (rt := rt) (ag := ag) (by rw [HL.out]; exact hfit.1) (by rw [HL.out, ← hs']; exact str_more _ (putN_range L))
    rw [h1, HL.out, ← hs', strOfNums_size]
  have hslen : s.size ≤ 100000 := by
    rw [← hs', strOfNums_size, ← HL.out, cfg_len]
    have := HLS.out
    omega
  have hpre : (s.extract 0 k).size = k := by rw [ByteArray.size_extract]; omega
  have HCFG := Lib.hid hcfg; have HPRE := Lib.hid hpre
  clear hfit hs' hcfg hpre hneg hbig
  go_wp2_with fail
  refine (config_any (s.extract 0 k) _ (by rw [HPRE.out]; omega)).mono ?_
  rintro e w5 ⟨hb5, hcase⟩
  have HB5 := Lib.hid (HB4.out.trans (hb5.mono HB4.out.size))
  have HB5W := Lib.hid (HFD.out.trans (hb5.mono HFD.out.size))
  clear hb5
  by_cases hke : k = s.size
  · subst hke
    rw [extract_all, HCFG.out] at hcase
    obtain ⟨nv2, qv2, rfl, hN2, hQ2⟩ := hcase
    obtain ⟨na2, nc2, rfl⟩ := hN2.form
    obtain ⟨qa2, qc2, rfl⟩ := hQ2.form
    simp only at hN2 hQ2 ⊢
    rw [HNN.out] at hN2 ⊢
    rw [HQN.out] at hQ2 ⊢
    rw [extract_end']
    have HN2 := Lib.hid hN2; have HQ2 := Lib.hid hQ2
    clear hN2 hQ2
    have c0 := cell_of_block ((HB5.out.block _ (lt_of_block HC.out)).trans HC.out) 0
    have c1 := cell_of_block ((HB5.out.block _ (lt_of_block HC.out)).trans HC.out) 1
    have c2 := cell_of_block ((HB5.out.block _ (lt_of_block HC.out)).trans HC.out) 2
    have c3 := cell_of_block ((HB5.out.block _ (lt_of_block HC.out)).trans HC.out) 3
    have c4 := cell_of_block ((HB5.out.block _ (lt_of_block HC.out)).trans HC.out) 4
    have c5 := cell_of_block ((HB5.out.block _ (lt_of_block HC.out)).trans HC.out) 5
    have lc := Nat.lt_of_lt_of_le (lt_of_block HC.out) HB5.out.size
    go_wp2_with fail
    have hb6 := (Below.refl w5.heap.size w5).alloc (Nat.le_refl _) (.cells #[.slice na2 nn nc2, .slice qa2 qn qc2, .int .i64 wk, .int .i64 tm, .int .i64 rt, .int .i64 ag] 43)
    refine (same_any _ _ _ _ ns qs wk tm rt ag _ ((HN.out.later HB5W.out).later hb6) ((HQ.out.later HB5W.out).later hb6) (HN2.out.later hb6) (HQ2.out.later hb6) (by have := HLS.out; omega) (by have := HLS.out; omega) (fun ds h => by have := dlen_le ns ds h; have := HLS.out; omega)).mono ?_
    rintro e w7 ⟨rfl, hb7⟩
    have HF := Lib.hid (HB5W.out.trans ((hb6.trans (hb7.mono hb6.size)).mono HB5W.out.size))
    clear hb6 hb7
    go_wp2_with fail
    go_ret
    exact ⟨rfl, HF.out⟩
  · have hnone : cfgR (s.extract 0 k) = none := by
      cases h : cfgR (s.extract 0 k) with
      | none => rfl
      | some r =>
        have h2 := cfg_mono hk h
        rw [HCFG.out] at h2
        simp only [Option.some.injEq] at h2
        obtain ⟨rfl, h3⟩ := h2
        simp only at h3
        omega
    rw [hnone] at hcase
    subst hcase
    have hd3 : decide ((k : Int) = (s.size : Int)) = false := by simp; omega
    have hd4 : ((k : Int) == (s.size : Int)) = false := by simp; omega
    have HKE := Lib.hid hke
    clear hnone hke
    go_wp2_with fail
    have hb6 := (Below.refl w5.heap.size w5).alloc (Nat.le_refl _) (.cells #[.slice none 0 0, .slice none 0 0, .int .i64 0, .int .i64 0, .int .i64 0, .int .i64 0] 43)
    refine (same_any (.slice none 0 0) (.slice none 0 0) (.slice none 0 0) (.slice none 0 0) [] [] 0 0 0 0 _ (.inl ⟨rfl, rfl⟩) (.inl ⟨rfl, rfl⟩) (.inl ⟨rfl, rfl⟩) (.inl ⟨rfl, rfl⟩) (by decide) (by decide) (fun ds h => by simp at h)).mono ?_
    rintro e w7 ⟨rfl, hb7⟩
    have HF := Lib.hid (HB5W.out.trans ((hb6.trans (hb7.mono hb6.size)).mono HB5W.out.size))
    clear hb6 hb7
    go_wp2_with fail
    go_ret
    exact ⟨rfl, HF.out⟩
end Go.Proofs.Ytghfdiaaonjofaa
