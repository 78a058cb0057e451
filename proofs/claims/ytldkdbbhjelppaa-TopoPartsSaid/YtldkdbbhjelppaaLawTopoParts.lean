/-
  The law TopoParts.
-/
import Derived.Test.YtldkdbbhjelppaaTopoLaw
set_option linter.unusedVariables false
set_option linter.unusedSimpArgs false
namespace Go.Proofs.Ytldkdbbhjelppaa
open Go.RowKit Go.Maps

set_option maxHeartbeats 2000000 in
theorem topoParts_walk (W : World) (v : Value) (ns : List (List Dm)) (s : NodesOf W v ns) (_ : ∀ n ∈ ns, ∀ y ∈ n, y.wf) :
    Calls Try.prog 6 #[.agg #[v]] W fun e w' => e = .returned (.bool true) ∧ Below W.heap.size W w' := by
  obtain ⟨a, cap, hv⟩ := s.form
  obtain ⟨n, hn⟩ : ∃ n, ns.length = n := ⟨_, rfl⟩
  have HS := Lib.hid s; have HN := Lib.hid hn
  have hmx : ns.length ≤ 9223372036854775807 := by
    rcases s with ⟨_, rfl⟩ | ⟨a, cap, _, h1, h2, _⟩
    · simp
    · unfold maxLen at h2; omega
  have HMX := Lib.hid hmx
  rw [hn] at hv
  subst hv
  clear s hn hmx
  have K0 := Lib.hid ((Kept.start W).new #[.slice a n cap] 24)
  obtain ⟨rf, hrf⟩ : ∃ r, fewB ns = r := ⟨_, rfl⟩
  have HRF := Lib.hid hrf
  clear hrf
  go_enter Try.func6, Try.ntmps6
  go_wp2_with fail
  refine (awake_any _).mono ?_
  rintro e w1 ⟨rfl, hb1⟩
  have K1 := Lib.hid (K0.out.later hb1)
  have q := K1.out.cells 0 rfl; have ql := K1.out.lt 0 rfl
  clear hb1
  go_wp2_with fail
  refine (few_any _ ns _ (HS.out.later K1.out.below) HMX.out rf HRF.out).mono ?_
  rintro e w2 ⟨rfl, hb2⟩
  have K2 := Lib.hid (K1.out.later hb2)
  clear q ql hb2
  have q := K2.out.cells 0 rfl; have ql := K2.out.lt 0 rfl
  cases rf with
  | false =>
    go_wp2
    go_ret
    exact ⟨rfl, K2.out.below⟩
  | true =>
    go_wp2_with fail
    refine (topoNew_any _ ns _ (HS.out.later K2.out.below)).mono ?_
    rintro e w3 (⟨hno, rfl, hb3⟩ | ⟨hok, p, R, cp, M, rfl, hT, hp1, hp2, hp3, hb3⟩)
    · have K3 := Lib.hid (K2.out.later hb3)
      clear hb3 hno
      go_wp2
      go_ret
      exact ⟨rfl, K3.out.below⟩
    · have K3 := Lib.hid (K2.out.later hb3)
      have HT := Lib.hid hT; have HOK := Lib.hid hok
      have hn16 : n ≤ 16 := by have := (nodesOk_parts hok).2.1; rw [HN.out] at this; exact this
      clear q ql hb3 hT hp1 hp2 hp3 hok
      have q := K3.out.cells 0 rfl; have ql := K3.out.lt 0 rfl
      have K4 := Lib.hid (K3.out.new #[.int .i64 0, .int .i64 0] 47)
      have hB4 := Lib.hid ((Below.refl w3.heap.size w3).alloc (Nat.le_refl _) (.cells #[.int .i64 0, .int .i64 0] 47))
      have hlt3 : W.heap.size < w3.heap.size := ql
      obtain ⟨b, off, cap2, hvv, hc1, hc2, hb, hcell⟩ := HS.out.plain (by intro e; have := (nodesOk_parts HOK.out).1; rw [e] at this; simp at this)
      rw [HN.out] at hvv hc1
      simp only [Value.slice.injEq] at hvv
      obtain ⟨rfl, -, rfl⟩ := hvv
      clear hcell
      go_wp2_with fail
      go_loopw [6] (fun i wr => ∃ (k : Nat) (g c : Int), k ≤ n ∧ i = .int .i64 k ∧ Hid (g = gsum (allG 0 (ns.take k)) ∧ c = csum (allG 0 (ns.take k))) ∧
        Kept W wr [(w3.heap.size, #[.int .i64 g, .int .i64 c], 47), (W.heap.size, #[.slice (some ⟨b, off, none⟩) n cap], 24)] ∧ Below w3.heap.size w3 wr) (fun i _ => n - (intOf i).toNat)
      case atStart => exact ⟨0, 0, 0, Nat.zero_le _, rfl, Lib.hid ⟨by simp [allG, gsum], by simp [allG, csum]⟩, K4.out, hB4.out⟩
      case round =>
        obtain ⟨k, g, c, hk, rfl, hgc, K, hBr⟩ := hrel
        have HK := Lib.hid K
        have HBr := Lib.hid hBr
        clear q ql
        have q := K.cells 1 rfl; have ql := K.lt 1 rfl
        clear K hBr
        by_cases hlt : k < n
        · have hkl : k < ns.length := by rw [HN.out]; exact hlt
          have hkc : (k : Int) < cap := by omega
          have hpart := Lib.hid (NodesOf.part (w := wr) (ns := ns) (b := b) (off := off) (cap := cap) (by have := HS.out.later HK.out.below; rwa [HN.out]) hkl)
          have hone := Lib.hid (nodesOk_one HOK.out hkl)
          have hf := allG_facts hone.out 0
          have hg := gsum_bd (allG 0 [ns[k]])
          have hc := csum_bd (allG 0 [ns[k]]) hf.1
          have hfa := allG_facts HOK.out 0
          have hg2 := gsum_bd (allG 0 (ns.take k))
          have hlk : (allG 0 (ns.take k)).length ≤ 64 := by
            have h1 := allG_len (ns := ns.take k) (n := 0) fun d hd => ((nodesOk_parts HOK.out).2.2 d (List.mem_of_mem_take hd)).2.1
            rw [List.length_take] at h1
            omega
          have hc2' := csum_bd (allG 0 (ns.take k)) (allG_feOk fun ds hd x hx => ((nodesOk_parts HOK.out).2.2 ds (List.mem_of_mem_take hd)).2.2 x hx)
          rw [← hgc.out.1] at hg2
          rw [← hgc.out.2] at hc2'
          have HF := Lib.hid hf
          have hl64 := hf.2
          have HT' := Lib.hid (gsum_take ns k hkl)
          obtain ⟨g1, hg1⟩ : ∃ g1, gsum (allG 0 [ns[k]]) = g1 := ⟨_, rfl⟩
          obtain ⟨c1, hc1e⟩ : ∃ c1, csum (allG 0 [ns[k]]) = c1 := ⟨_, rfl⟩
          have HG1 := Lib.hid hg1; have HC1 := Lib.hid hc1e
          rw [hg1] at hg
          rw [hc1e] at hc
          have bg : 0 ≤ g1 ∧ g1 ≤ 4096 := by omega
          have bc : 0 ≤ c1 ∧ c1 ≤ 65536 := by omega
          have bg2 : 0 ≤ g ∧ g ≤ 4096 := by omega
          have bc2 : 0 ≤ c ∧ c ≤ 65536 := by omega
          clear hf hfa hg hc hg2 hc2' hlk hl64 hg1 hc1e
          go_wp2_with fail
          refine (topoNew_any _ [ns[k]] _ hpart.out).mono ?_
          rintro e w5 (⟨hno, rfl, hb5⟩ | ⟨_, p', R', cp', M', rfl, hT', hp1', hp2', hp3', hb5⟩)
          · rw [hone.out] at hno; cases hno
          have K5 := Lib.hid (HK.out.later hb5)
          have HB5 := Lib.hid (HBr.out.trans (hb5.mono HBr.out.size))
          have HT5 := Lib.hid hT'
          clear q ql hb5 hT' hp1' hp2' hp3'
          go_wp2_with fail
          refine (nodes_fn p' R' cp' M' _ _ _ HT5.out).mono ?_
          rintro e w6 ⟨rfl, rfl⟩
          go_wp2_with fail
          refine (total_any p' R' cp' M' _ _ _ HT5.out (by have := HF.out.2; omega) HF.out.1).mono ?_
          rintro e w6 ⟨rfl, hb6⟩
          rw [HG1.out, HC1.out]
          have K6 := Lib.hid (K5.out.later hb6)
          have HB6 := Lib.hid (HB5.out.trans (hb6.mono HB5.out.size))
          have r := K6.out.cells 0 rfl; have rl := K6.out.lt 0 rfl; have rf := K6.out.frozen 0 rfl
          have K7 := Lib.hid (((K6.out.store (by omega) (by simp; omega) 0 (.int .i64 (g + g1))).store (by omega) (by simp; omega) 1 (.int .i64 (c + c1))).later ((Below.refl _ _).alloc (Nat.le_refl _) (.cells #[.int .i64 g1, .int .i64 c1] 47)))
          clear hb6
          go_wp2_with fail
          refine ⟨⟨k + 1, g + g1, c + c1, by omega, by go_num, Lib.hid ⟨by rw [HT'.out.1, ← hgc.out.1, HG1.out], by rw [HT'.out.2, ← hgc.out.2, HC1.out]⟩, ?_, ?_⟩, by simp [intOf]; omega⟩
          · exact K7.out
          · exact ((HB6.out.setCell (by simp) _).setCell (by simp) _).alloc (by have := HB6.out.size; simp [World.setCell]; omega) _
        · obtain rfl : k = n := by omega
          have hgc2 := hgc.out
          rw [List.take_of_length_le (by rw [HN.out]; exact Nat.le_refl _)] at hgc2
          have HGC := Lib.hid hgc2
          have hf := Lib.hid (allG_facts HOK.out 0)
          have d0 : ∀ y : Later wr, y.wd.cell? ⟨w3.heap.size, 0, none⟩ = some (.int .i64 g) := fun y => HK.out.laters 0 rfl y 0
          have d1 : ∀ y : Later wr, y.wd.cell? ⟨w3.heap.size, 1, none⟩ = some (.int .i64 c) := fun y => HK.out.laters 0 rfl y 1
          have HT2 := Lib.hid (HT.out.later HBr.out)
          clear hgc2
          go_wp2_with fail
          refine wp_region_later (by kernel_rfl) (by kernel_rfl) ?_
          repeat (quiet_step (first
            | (go_at_call 17; exact Calls.later ((total_any p R cp M _ _ _ (HT2.out.later (Later.bel _)) (by have := hf.out.2; omega) hf.out.1).mono fun e w' h => by rw [← HGC.out.1, ← HGC.out.2] at h; exact h))))
          refine wpQuiet_nil ?_
          rintro w5 ⟨⟨_, hb5⟩, rfl⟩
          go_wp2
          go_ret
          exact ⟨ret_bool (by simp), HK.out.below.trans (hb5.mono HK.out.size)⟩
end Go.Proofs.Ytldkdbbhjelppaa
