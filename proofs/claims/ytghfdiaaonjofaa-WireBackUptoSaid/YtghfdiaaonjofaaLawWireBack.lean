/-
  The law WireBack.
-/
import Derived.Test.YtghfdiaaonjofaaWireOpen
import Derived.Test.YtghfdiaaonjofaaWireTrip2
import Derived.Test.YtghfdiaaonjofaaWireConf
import Derived.Test.YtghfdiaaonjofaaRefSame
import Derived.Test.YtghfdiaaonjofaaFlatAc
set_option linter.unusedVariables false
set_option linter.unusedSimpArgs false
namespace Go.Proofs.Ytghfdiaaonjofaa
open Go.RowKit
theorem infoAc : (Try.prog.info? 30).map (fun i => (i.zero, i.size, i.bytes)) = some (some (.agg #[.int .i64 0, .int .i64 0, .int .i64 0, .int .i64 0, .int .i64 0, .int .i64 0, .int .i64 0, .int .i64 0, .int .i64 0, .int .i64 0]), 10, 80) := by kernel_rfl
theorem infoI : (Try.prog.info? 3).map (fun i => (i.zero, i.size, i.bytes)) = some (some (.int .i64 0), 1, 8) := by kernel_rfl
def plC (e : We) : List Value := [.int .i64 e.place]
/-- the acts kept, where each begins, and the text so far -/
def BackI (w0 wr : World) (kept : List Ac) (txt : ByteArray) (ka aa : Option Addr) (m kc ac : Nat) : Prop :=
  kept.length = m ∧ (∀ x ∈ kept, (putB x).2 = 0) ∧ txt = strOfNums (kept.flatMap encA) ∧ wr.ownsRow w0.heap.size 30 10 (.slice ka m kc) m (kept.flatMap Ac.cells) ∧
    wr.ownsRow w0.heap.size 3 1 (.slice aa m ac) m ((entsOf 0 kept).flatMap plC) ∧ (∀ g, (Value.slice ka m kc).ownBlock = some g → (Value.slice aa m ac).ownBlock ≠ some g) ∧ Below w0.heap.size w0 wr
theorem BackI.later {w0 wr w2 : World} {kept : List Ac} {txt : ByteArray} {ka aa : Option Addr} {m kc ac : Nat} (h : BackI w0 wr kept txt ka aa m kc ac) (hb : Below wr.heap.size wr w2) : BackI w0 w2 kept txt ka aa m kc ac :=
  ⟨h.1, h.2.1, h.2.2.1, ownsRow_below h.2.2.2.1 hb, ownsRow_below h.2.2.2.2.1 hb, h.2.2.2.2.2.1, h.2.2.2.2.2.2.trans (hb.mono h.2.2.2.2.2.2.size)⟩
theorem BackI.txt_len {w0 wr : World} {kept : List Ac} {txt : ByteArray} {ka aa : Option Addr} {m kc ac : Nat} (h : BackI w0 wr kept txt ka aa m kc ac) : txt.size ≤ 12 * m := by
  rw [h.2.2.1, strOfNums_size, ← h.1]
  exact (encs_len kept h.2.1).1
set_option maxRecDepth 100000 in
set_option maxHeartbeats 8000000 in
theorem wireBack_walk (v : Value) (xs : List Ac) (W : World) (hxs : Rd.SliceOf W v 10 Ac.cells xs) (wx : ∀ x ∈ xs, x.wf) (nv qv : Value) (ns : List (List Dm)) (qs : List Qu) (wk tm rt ag : Int) (hn : NodesOf W nv ns) (hq : Rd.SliceOf W qv 3 Qu.cells qs)
    (wn : ∀ n ∈ ns, ∀ d ∈ n, d.wf) (wq : ∀ q ∈ qs, q.wf) (ww : (Lit.int .i64 wk).wf = true ∧ (Lit.int .i64 tm).wf = true ∧ (Lit.int .i64 rt).wf = true ∧ (Lit.int .i64 ag).wf = true) (hd : dtot ns ≤ 1048576) (mo : ByteArray) (wmo : mo.size ≤ maxLen) :
    Calls Try.prog 7 #[v, .agg #[nv, qv, .int .i64 wk, .int .i64 tm, .int .i64 rt, .int .i64 ag], .string mo] W fun e w' => e = .returned (.bool true) ∧ Below W.heap.size W w' := by
  clear wn wq ww
  obtain ⟨va, vc, hvv⟩ := hxs.form
  obtain ⟨n, hnx⟩ : ∃ n, xs.length = n := ⟨_, rfl⟩
  rw [hnx] at hvv
  subst hvv
  obtain ⟨na, nc, hnv⟩ := hn.form
  obtain ⟨qa, qc, hqv⟩ := hq.form
  obtain ⟨nn, hnn⟩ : ∃ nn, ns.length = nn := ⟨_, rfl⟩
  obtain ⟨qn, hqn⟩ : ∃ qn, qs.length = qn := ⟨_, rfl⟩
  rw [hnn] at hnv
  rw [hqn] at hqv
  subst hnv hqv
  have HX := Lib.hid hxs; have HXN := Lib.hid hnx; have HN := Lib.hid hn; have HQ := Lib.hid hq; have HNN := Lib.hid hnn; have HQN := Lib.hid hqn
  clear hxs hnx hn hq hnn hqn wx
  go_enter Try.func7, Try.ntmps7
  go_wp2_with fail
  have hb1 := (Below.refl W.heap.size W).alloc (Nat.le_refl _) (.cells #[.slice na nn nc, .slice qa qn qc, .int .i64 wk, .int .i64 tm, .int .i64 rt, .int .i64 ag] 43)
  have kC := World.alloc_heap_new W (.cells #[.slice na nn nc, .slice qa qn qc, .int .i64 wk, .int .i64 tm, .int .i64 rt, .int .i64 ag] 43)
  generalize W.alloc (.cells #[.slice na nn nc, .slice qa qn qc, .int .i64 wk, .int .i64 tm, .int .i64 rt, .int .i64 ag] 43) = w1 at hb1 kC ⊢
  obtain ⟨C, hC⟩ : ∃ C, W.heap.size = C := ⟨_, rfl⟩
  rw [hC] at kC ⊢
  have HC := Lib.hid kC; have HB1 := Lib.hid hb1
  clear hb1 kC hC
  refine (awake_any _).mono ?_
  rintro e w2 ⟨rfl, hb2⟩
  have HB2 := Lib.hid (show Below w1.heap.size w1 w2 from hb2)
  have HB2W : Hid (Below W.heap.size W w2) := Lib.hid (HB1.out.trans (HB2.out.mono HB1.out.size))
  clear hb2
  by_cases hbig : 200 < n
  · have hd1 : decide (200 < (n : Int)) = true := by simp; omega
    go_wp2_with fail
    go_ret
    exact ⟨rfl, HB2W.out⟩
  have hd1 : decide (200 < (n : Int)) = false := by simp; omega
  have hn200 : n ≤ 200 := by omega
  clear hbig
  have c0 := cell_of_block ((HB2.out.block _ (lt_of_block HC.out)).trans HC.out) 0
  have c1 := cell_of_block ((HB2.out.block _ (lt_of_block HC.out)).trans HC.out) 1
  have c2 := cell_of_block ((HB2.out.block _ (lt_of_block HC.out)).trans HC.out) 2
  have c3 := cell_of_block ((HB2.out.block _ (lt_of_block HC.out)).trans HC.out) 3
  have c4 := cell_of_block ((HB2.out.block _ (lt_of_block HC.out)).trans HC.out) 4
  have c5 := cell_of_block ((HB2.out.block _ (lt_of_block HC.out)).trans HC.out) 5
  have lc := Nat.lt_of_lt_of_le (lt_of_block HC.out) HB2.out.size
  go_wp2_with fail
  clear c0 c1 c2 c3 c4 c5 lc
  refine (rfew_any _ _ ns qs wk tm rt ag _ (HN.out.later HB2W.out) (HQ.out.later HB2W.out) hd).mono ?_
  rintro e w3 ⟨rfl, hb3⟩
  have HB3 := Lib.hid (HB2.out.trans (hb3.mono HB2.out.size))
  have HB3W : Hid (Below W.heap.size W w3) := Lib.hid (HB1.out.trans (HB3.out.mono HB1.out.size))
  clear hb3
  cases hfew : fewC ns qs with
  | false =>
    clear hfew
    go_wp2_with fail
    go_ret
    exact ⟨rfl, HB3W.out⟩
  | true =>
  have HLS := Lib.hid (show ns.length ≤ 300 ∧ qs.length ≤ 300 ∧ dtot ns ≤ 600 by unfold fewC at hfew; simp only [Bool.and_eq_true, decide_eq_true_eq] at hfew; exact ⟨hfew.1.1, hfew.1.2, hfew.2⟩)
  clear hfew
  by_cases hmo : 1000 < mo.size
  · have hd2 : decide (1000 < (mo.size : Int)) = true := by simp; omega
    go_wp2_with fail
    go_ret
    exact ⟨rfl, HB3W.out⟩
  have hd2 : decide (1000 < (mo.size : Int)) = false := by simp; omega
  have hmo1 : mo.size ≤ 1000 := by omega
  clear hmo
  go_wp2_with fail
  go_loopw [7, 8, 9, 10] (fun tv kv av iv wr => ∃ (k m kc ac : Nat) (kept : List Ac) (txt : ByteArray) (ka aa : Option Addr), tv = .string txt ∧ kv = .slice ka m kc ∧ av = .slice aa m ac ∧ iv = .int .i64 k ∧ k ≤ n ∧ m ≤ k ∧ txt.size ≤ 2400 ∧ Hid (BackI w3 wr kept txt ka aa m kc ac)) (fun _ _ _ iv _ => n - (intOf iv).toNat)
  case atStart => exact ⟨0, 0, 0, 0, [], ⟨#[]⟩, none, none, rfl, rfl, rfl, rfl, Nat.zero_le _, Nat.le_refl _, by decide, Lib.hid ⟨rfl, fun x h => by simp at h, by rw [List.flatMap_nil]; exact str_nil.symm, World.ownsRow_nil _ _ _ _, World.ownsRow_nil _ _ _ _, fun g h => by simp [Value.ownBlock] at h, Below.refl _ _⟩⟩
  case round =>
    obtain ⟨k, m, kc, ac, kept, txt, ka, aa, rfl, rfl, rfl, rfl, hk, hmk, htx, hI⟩ := hrel
    by_cases hlt : k < n
    · have hkx : k < xs.length := by rw [HXN.out]; exact hlt
      obtain ⟨x, hx⟩ : ∃ x, xs[k] = x := ⟨_, rfl⟩
      obtain ⟨b, off, cap, hv, _, _, hb, hat⟩ := Ac.at HX.out hkx hx
      simp only [Value.slice.injEq] at hv
      obtain ⟨rfl, -, rfl⟩ := hv
      have HAT := Lib.hid hat
      have hBw := HB3W.out.trans (hI.out.2.2.2.2.2.2.mono HB3W.out.size)
      have HBW := Lib.hid hBw
      obtain ⟨f0, f1, f2, f3, f4, f5, f6, f7, f8, f9⟩ := hat wr hBw
      have lb := Nat.lt_of_lt_of_le hb hBw.size
      clear hx hat hBw
      go_wp2_with fail
      refine (putB_any x _).mono ?_
      rintro e w4 ⟨rfl, hb4⟩
      have HI4 := Lib.hid (hI.out.later hb4)
      have HBW4 := Lib.hid (HBW.out.trans (hb4.mono HBW.out.size))
      clear hb4 f0 f1 f2 f3 f4 f5 f6 f7 f8 f9 lb hI HBW
      obtain ⟨e2, he2⟩ : ∃ s, (putB x).2 = s := ⟨_, rfl⟩
      rw [he2]
      by_cases h0 : e2 = 0
      case neg =>
        have hd3 : decide (e2 = 0) = false := by simp [h0]
        have hd4 : (e2 == 0) = false := by simp [h0]
        have HE2 := Lib.hid he2
        clear he2
        go_wp2_with fail
        exact ⟨⟨k + 1, m, kc, ac, kept, txt, ka, aa, rfl, rfl, rfl, by go_num, by omega, by omega, htx, Lib.hid HI4.out⟩, by simp [intOf]; omega⟩
      subst h0
      obtain ⟨s, hs⟩ : ∃ s, strOfNums (putB x).1 = s := ⟨_, rfl⟩
      rw [hs]
      have hsz : s.size ≤ 12 := by rw [← hs, strOfNums_size]; exact (encA_len he2).2.1
      have HE2 := Lib.hid he2; have HS := Lib.hid hs
      clear he2 hs
      have hown := HI4.out.2.2.2.2.1; have hownk := HI4.out.2.2.2.1
      have hlva := hown.lt; have hlvk := hownk.lt
      have HOA := Lib.hid hown; have HOK := Lib.hid hownk; have HLA := Lib.hid hlva; have HLK := Lib.hid hlvk
      have hw34 : w3.heap.size ≤ w4.heap.size := HI4.out.2.2.2.2.2.2.size
      clear hown hownk hlva hlvk
      obtain ⟨i0, hi0, hz0, hz1, hz2⟩ := info_parts infoI
      go_wp2_with (at_builtin; refine wpList_append_lies _ rfl _ _ _ rfl w3.heap.size 3 i0 _ 1 8 Try.underlying60 hi0 hz0 hz1 hz2 rfl (by omega) (.slice aa m ac) m _ rfl (HOA.out.alloc _) ⟨w4.heap.size, 0, none⟩ 1 1 [.int .i64 txt.size] rfl rfl (World.news_of_block (cs := #[.int .i64 txt.size]) (t := 3) (fr := (0, 0)) (World.alloc_heap_new w4 _)) (by simp [Value.oneCell']) (by omega) (by unfold maxLen; omega) (by omega) (by simp; omega) (w4.heap.size + 1) (by simp) ?_)
      intro ga capa w5 hown5 hgrow hata hlt5
      have hf5 : Fr w4.heap.size (fun q => (Value.slice aa m ac).ownBlock = some q) w4 w5 := Fr.grown ((Fr.refl _ _ _).alloc (Nat.le_refl _) _) hgrow (by simp) (fun q e => .inr e)
      have hownk5 := ownsRow_fr HOK.out hf5 (fun g hg => ⟨(HLK.out g hg).2, fun e => HI4.out.2.2.2.2.2.1 g hg e⟩)
      have hb35 : Below w3.heap.size w3 w5 := HI4.out.2.2.2.2.2.2.trans (hf5.below HI4.out.2.2.2.2.2.2.size fun q e => (HLA.out q e).1)
      have hBw5 := HB3W.out.trans (hb35.mono HB3W.out.size)
      obtain ⟨f0, f1, f2, f3, f4, f5, f6, f7, f8, f9⟩ := HAT.out w5 hBw5
      have lb := Nat.lt_of_lt_of_le hb hBw5.size
      have hgak : ∀ g, (Value.slice ka m kc).ownBlock = some g → g ≠ ga ∧ g < w5.heap.size := fun g hg => by
        refine ⟨fun e => ?_, Nat.lt_of_lt_of_le (HLK.out g hg).2 hf5.size⟩
        subst e
        rcases hata with h | h
        · exact HI4.out.2.2.2.2.2.1 g hg h
        · have := (HLK.out g hg).2; omega
      have hw35 : w3.heap.size ≤ w5.heap.size := hb35.size
      have HOA5 := Lib.hid hown5; have HOK5 := Lib.hid hownk5; have HB35 := Lib.hid hb35; have HGAK := Lib.hid hgak; have HLT5 := Lib.hid hlt5
      clear hown5 hgrow hata hlt5 hf5 hownk5 hb35 hBw5 hgak
      obtain ⟨j0, hj0, hy0, hy1, hy2⟩ := info_parts infoAc
      go_wp2_with (at_builtin; refine wpList_append_lies _ rfl _ _ _ rfl w3.heap.size 30 j0 _ 10 80 Try.underlying59 hj0 hy0 hy1 hy2 rfl (by omega) (.slice ka m kc) m _ rfl (HOK5.out.alloc _) ⟨w5.heap.size, 0, none⟩ 1 1 [.int .i64 x.kind, .int .i64 x.n, .int .i64 x.job.id, .int .i64 x.job.queue, .int .i64 x.job.prio, .int .i64 x.job.runtime, .int .i64 x.job.shape.gpus, .int .i64 x.job.shape.cpus, .int .i64 x.job.shape.mn, .int .i64 x.job.shape.mx] rfl rfl (World.news_of_block (cs := #[.int .i64 x.kind, .int .i64 x.n, .int .i64 x.job.id, .int .i64 x.job.queue, .int .i64 x.job.prio, .int .i64 x.job.runtime, .int .i64 x.job.shape.gpus, .int .i64 x.job.shape.cpus, .int .i64 x.job.shape.mn, .int .i64 x.job.shape.mx]) (t := 30) (fr := (0, 0)) (World.alloc_heap_new w5 _)) (by simp [Value.oneCell']) (by omega) (by unfold maxLen; omega) (by omega) (by simp; omega) (w5.heap.size + 1) (by simp) ?_)
      intro gk capk w6 hown6 hgrow hatk hlt6
      have hf6 : Fr w5.heap.size (fun q => (Value.slice ka m kc).ownBlock = some q) w5 w6 := Fr.grown ((Fr.refl _ _ _).alloc (Nat.le_refl _) _) hgrow (by simp) (fun q e => .inr e)
      have howna6 := ownsRow_fr HOA5.out hf6 (fun g hg => ⟨(HOA5.out.lt g hg).2, fun e => by
        simp only [Value.ownBlock, Option.some.injEq] at hg
        exact (HGAK.out g e).1 hg.symm⟩)
      have hb36 : Below w3.heap.size w3 w6 := HB35.out.trans (hf6.below HB35.out.size fun q e => (HLK.out q e).1)
      have hdis : gk ≠ ga := fun e => by
        subst e
        rcases hatk with h | h
        · exact (HGAK.out _ h).1 rfl
        · have := HLT5.out; omega
      have hnew : strOfNums ((kept ++ [x]).flatMap encA) = txt ++ s := by
        rw [HI4.out.2.2.1, ← HS.out, str_append, List.flatMap_append]
        congr 2
        simp [encA]
      have HFIN := Lib.hid (show BackI w3 w6 (kept ++ [x]) (txt ++ s) (some ⟨gk, 0, none⟩) (some ⟨ga, 0, none⟩) (m + 1) capk capa from by
        refine ⟨by simp [HI4.out.1], fun y hy => ?_, hnew.symm, ?_, ?_, fun g hg e => ?_, hb36⟩
        · rcases List.mem_append.1 hy with hy | hy
          · exact HI4.out.2.1 y hy
          · simp only [List.mem_singleton] at hy; subst hy; exact HE2.out
        · rw [List.flatMap_append]; simpa [Ac.cells] using hown6
        · rw [entsOf_snoc, List.flatMap_append]
          have h1 := howna6
          have h2 : (txt.size : Int) = ((0 + (kept.flatMap encA).length : Nat) : Int) := by rw [HI4.out.2.2.1, strOfNums_size, Nat.zero_add]
          rw [h2] at h1
          simpa [plC] using h1
        · simp only [Value.ownBlock, Option.some.injEq] at hg e
          exact hdis (hg.trans e.symm))
      have hcl : ¬ (9223372036854775807 < txt.size + s.size) := by omega
      have htx2 : (txt ++ s).size ≤ 2400 := by
        have := HFIN.out.txt_len; omega
      clear hown6 hgrow hatk hlt6 hf6 howna6 hb36 hdis hnew f0 f1 f2 f3 f4 f5 f6 f7 f8 f9 lb
      go_wp2_with fail
      exact ⟨⟨k + 1, m + 1, capk, capa, kept ++ [x], txt ++ s, _, _, rfl, rfl, rfl, by go_num, by omega, by omega, htx2, Lib.hid HFIN.out⟩, by simp [intOf]; omega⟩
    · obtain rfl : k = n := by omega
      go_wp2_with fail
      refine (entries_any txt _ (by omega)).mono ?_
      rintro e w4 ⟨v1, rfl, ho1, hb4⟩
      have HI4 := Lib.hid (hI.out.later hb4)
      have hes : entriesN txt txt.size 0 = entsOf 0 kept := by
        have hr := encs_len kept hI.out.2.1
        refine entries_put kept 0 txt.size hI.out.2.1 ?_ ?_ (by omega)
        · rw [hI.out.2.2.1]; exact str_more _ hr.2
        · rw [hI.out.2.2.1, strOfNums_size, Nat.zero_add]
      rw [hes] at ho1
      have hs1 := (sliceOf_own (cells := We.cells) (sz := 12) (fun _ => rfl) (by decide) ho1).1
      have hsk := (sliceOf_own (cells := Ac.cells) (sz := 10) (fun _ => rfl) (by decide) (by rw [HI4.out.1]; exact HI4.out.2.2.2.1)).1
      have hel : (entsOf 0 kept).length = m := by rw [entsOf_len, HI4.out.1]
      have hsa := (sliceOf_own (cells := plC) (sz := 1) (xs := entsOf 0 kept) (fun _ => rfl) (by decide) (by rw [hel]; exact HI4.out.2.2.2.2.1)).1
      obtain ⟨v1a, v1c, hv1⟩ := hs1.form
      rw [hel] at hv1
      subst hv1
      have HS1 := Lib.hid hs1; have HSK := Lib.hid hsk; have HSA := Lib.hid hsa; have HEL := Lib.hid hel
      clear ho1 hb4 hes hs1 hsk hsa hel hI
      go_wp2_with fail
      go_loopw [14] (fun iv wr => ∃ j : Nat, j ≤ m ∧ iv = .int .i64 j ∧ Hid (Below w4.heap.size w4 wr)) (fun iv _ => m - (intOf iv).toNat)
      case atStart => exact ⟨0, Nat.zero_le _, rfl, Lib.hid (Below.refl _ _)⟩
      case round =>
        obtain ⟨j, hj, rfl, hJ⟩ := hrel
        by_cases hjt : j < m
        · have hje : j < (entsOf 0 kept).length := by rw [HEL.out]; exact hjt
          have hjk : j < kept.length := by rw [HI4.out.1]; exact hjt
          obtain ⟨y, hy⟩ : ∃ y, (entsOf 0 kept)[j] = y := ⟨_, rfl⟩
          obtain ⟨x, hx⟩ : ∃ x, kept[j] = x := ⟨_, rfl⟩
          have hxy : y = ⟨x, 0, y.place⟩ := by
            have := entsOf_get kept 0 j hje hjk
            rw [hy, hx] at this
            exact this
          obtain ⟨d1, o1, p1, hv1, _, _, hb1, hc1⟩ := We.at HS1.out hje hy
          obtain ⟨d2, o2, p2, hv2, _, _, hb2, hc2⟩ := Ac.at HSK.out hjk hx
          obtain ⟨d3, o3, p3, hv3, _, _, hb3, hc3⟩ := HSA.out.plain (fun e => by rw [e] at hje; simp at hje) (fun e _ => by simp [plC])
          simp only [Value.slice.injEq] at hv1 hv2 hv3
          obtain ⟨rfl, -, rfl⟩ := hv1
          obtain ⟨rfl, -, rfl⟩ := hv2
          obtain ⟨rfl, -, rfl⟩ := hv3
          have f := hc1 wr hJ.out
          have g := hc2 wr hJ.out
          have h0 := hc3 j hje 0 (by simp [plC])
          rw [Nat.mul_one, Nat.add_zero] at h0
          have h0' : w4.cell? ⟨d3, o3 + j, none⟩ = some (.int .i64 y.place) := by rw [h0]; simp [plC, hy]
          have h1 := (hJ.out.cell (p := ⟨d3, o3 + j, none⟩) hb3).trans h0'
          have l1 := Nat.lt_of_lt_of_le hb1 hJ.out.size
          have l2 := Nat.lt_of_lt_of_le hb2 hJ.out.size
          have l3 := Nat.lt_of_lt_of_le hb3 hJ.out.size
          obtain ⟨pl, hpl⟩ : ∃ p, y.place = p := ⟨_, rfl⟩
          rw [hpl] at hxy h1
          rw [hxy] at f
          obtain ⟨kd, en, ⟨j0, j1, j2, j3, ⟨j4, j5, j6, j7⟩⟩⟩ := x
          obtain ⟨f0, f1, f2, f3, f4, f5, f6, f7, f8, f9, f10, f11⟩ := f
          obtain ⟨g0, g1, g2, g3, g4, g5, g6, g7, g8, g9⟩ := g
          clear hy hx hxy hc1 hc2 hc3 hb1 hb2 hb3 h0 h0' hpl
          go_wp2_with fail
          go_quiet (fail)
          have hBq : Below wr.heap.size wr (wr.drewN nq) := ⟨rfl, rfl, rfl, Nat.le_refl _, fun _ _ => rfl⟩
          have HJ2 := Lib.hid (hJ.out.trans (hBq.mono hJ.out.size))
          clear f0 f1 f2 f3 f4 f5 f6 f7 f8 f9 f10 f11 g0 g1 g2 g3 g4 g5 g6 g7 g8 g9 h1 l1 l2 l3
          generalize wr.drewN nq = wz at HJ2 hBq ⊢
          clear hBq
          go_wp2_with fail
          exact ⟨⟨j + 1, by omega, by go_num, Lib.hid HJ2.out⟩, by simp [intOf]; omega⟩
        · obtain rfl : j = m := by omega
          have hb34 := HI4.out.2.2.2.2.2.2
          have hb3r := hb34.trans (hJ.out.mono hb34.size)
          have HB6 := Lib.hid (HB3.out.trans (hb3r.mono HB3.out.size))
          have HB6W := Lib.hid (HB3W.out.trans (hb3r.mono HB3W.out.size))
          clear hb34 hb3r
          have c0 := cell_of_block ((HB6.out.block _ (lt_of_block HC.out)).trans HC.out) 0
          have c1 := cell_of_block ((HB6.out.block _ (lt_of_block HC.out)).trans HC.out) 1
          have c2 := cell_of_block ((HB6.out.block _ (lt_of_block HC.out)).trans HC.out) 2
          have c3 := cell_of_block ((HB6.out.block _ (lt_of_block HC.out)).trans HC.out) 3
          have c4 := cell_of_block ((HB6.out.block _ (lt_of_block HC.out)).trans HC.out) 4
          have c5 := cell_of_block ((HB6.out.block _ (lt_of_block HC.out)).trans HC.out) 5
          have lc := Nat.lt_of_lt_of_le (lt_of_block HC.out) HB6.out.size
          go_wp2_with fail
          clear c0 c1 c2 c3 c4 c5 lc
          refine (putConfig_any _ _ ns qs wk tm rt ag _ (HN.out.later HB6W.out) (HQ.out.later HB6W.out) HLS.out.1 HLS.out.2.1 HLS.out.2.2).mono ?_
          rintro e w7 ⟨rfl, hb7⟩
          have HB7 := Lib.hid (HB6.out.trans (hb7.mono HB6.out.size))
          have HB7W := Lib.hid (HB6W.out.trans (hb7.mono HB6W.out.size))
          clear hb7
          obtain ⟨L, hL⟩ : ∃ L, cfgL ns qs wk tm rt ag = L := ⟨_, rfl⟩
          have HL := Lib.hid hL
          rw [hL]
          clear hL
          obtain ⟨e2, he2⟩ : ∃ s, (cfgB L).2 = s := ⟨_, rfl⟩
          by_cases h0 : e2 = 0
          case neg =>
            have hnil : strOfNums (cfgB L).1 = ⟨#[]⟩ := by rw [cfg_code' L (by rw [he2]; exact h0)]; exact str_nil
            rw [he2, hnil]
            have hd3 : decide (e2 = 0) = false := by simp [h0]
            have hd4 : (e2 == 0) = false := by simp [h0]
            have hd5 : (e2 != 0) = true := by simp [h0]
            clear he2 hnil
            go_wp2_with fail
            go_ret
            exact ⟨rfl, HB7W.out⟩
          subst h0
          have hfit := cfg_code L he2
          obtain ⟨s, hs⟩ : ∃ s, strOfNums (cfgB L).1 = s := ⟨_, rfl⟩
          rw [he2, hs]
          have hs' : strOfNums (putN L) = s := by rw [← hfit.2]; exact hs
          have hcfg : cfgR (s ++ mo) = some (⟨ns, qs, wk, tm, rt, ag⟩, s.size) := by
            have h1 := cfg_put (s := s ++ mo) (ns := ns) (qs := qs) (wk := wk) (tm := tm) (rt := rt) (ag := ag) (by rw [HL.out]; exact hfit.1) (by rw [HL.out, ← hs']; exact byteF_str _ (putN_range L) mo)
            rw [h1, HL.out, ← hs', strOfNums_size]
          have hslen : s.size ≤ 5000 := by
            rw [← hs', strOfNums_size, ← HL.out, cfg_len]
            have := HLS.out
            omega
          have hcl : ¬ (9223372036854775807 < s.size + mo.size) := by omega
          have HCFG := Lib.hid hcfg
          clear he2 hs hs' hfit hcfg
          go_wp2_with fail
          refine (config_any (s ++ mo) _ (by rw [ByteArray.size_append]; omega)).mono ?_
          rintro e w8 ⟨hb8, hcase⟩
          have HB8 := Lib.hid (HB7.out.trans (hb8.mono HB7.out.size))
          have HB8W := Lib.hid (HB7W.out.trans (hb8.mono HB7W.out.size))
          clear hb8
          rw [HCFG.out] at hcase
          obtain ⟨nv2, qv2, rfl, hN2, hQ2⟩ := hcase
          obtain ⟨na2, nc2, rfl⟩ := hN2.form
          obtain ⟨qa2, qc2, rfl⟩ := hQ2.form
          simp only at hN2 hQ2 ⊢
          rw [HNN.out] at hN2 ⊢
          rw [HQN.out] at hQ2 ⊢
          rw [extract_more]
          have HN2 := Lib.hid hN2; have HQ2 := Lib.hid hQ2
          clear hN2 hQ2
          have c0 := cell_of_block ((HB8.out.block _ (lt_of_block HC.out)).trans HC.out) 0
          have c1 := cell_of_block ((HB8.out.block _ (lt_of_block HC.out)).trans HC.out) 1
          have c2 := cell_of_block ((HB8.out.block _ (lt_of_block HC.out)).trans HC.out) 2
          have c3 := cell_of_block ((HB8.out.block _ (lt_of_block HC.out)).trans HC.out) 3
          have c4 := cell_of_block ((HB8.out.block _ (lt_of_block HC.out)).trans HC.out) 4
          have c5 := cell_of_block ((HB8.out.block _ (lt_of_block HC.out)).trans HC.out) 5
          have lc := Nat.lt_of_lt_of_le (lt_of_block HC.out) HB8.out.size
          go_wp2_with fail
          have hb9 := (Below.refl w8.heap.size w8).alloc (Nat.le_refl _) (.cells #[.slice na2 nn nc2, .slice qa2 qn qc2, .int .i64 wk, .int .i64 tm, .int .i64 rt, .int .i64 ag] 43)
          refine (same_any _ _ _ _ ns qs wk tm rt ag _ ((HN.out.later HB8W.out).later hb9) ((HQ.out.later HB8W.out).later hb9) (HN2.out.later hb9) (HQ2.out.later hb9) (by have := HLS.out; omega) (by have := HLS.out; omega) (fun ds h => by have := dlen_le ns ds h; have := HLS.out; omega)).mono ?_
          rintro e w10 ⟨rfl, hb10⟩
          have HF := Lib.hid (HB8W.out.trans ((hb9.trans (hb10.mono hb9.size)).mono HB8W.out.size))
          clear hb9 hb10
          go_wp2_with fail
          go_ret
          exact ⟨rfl, HF.out⟩
end Go.Proofs.Ytghfdiaaonjofaa
