/-
  The law WireReads.
-/
import Derived.Test.YtghfdiaaonjofaaRefEnt
import Derived.Test.YtghfdiaaonjofaaRefConf
import Derived.Test.YtghfdiaaonjofaaRefSame
set_option linter.unusedVariables false
set_option linter.unusedSimpArgs false
namespace Go.Proofs.Ytghfdiaaonjofaa
open Go.RowKit
theorem entries_len' (s : ByteArray) : ∀ (f a : Nat), a ≤ s.size → (entriesN s f a).length ≤ s.size - a
  | 0, a, _ => by simp [entriesN]
  | f + 1, a, h => by
    unfold entriesN
    split
    · rename_i h1
      have h2 := entry_next s h1
      have h3 := entries_len' s f (entryF s a).2 h2.2
      simp only [List.length_cons]
      omega
    · simp
def zeroCg : Cg := ⟨[], [], 0, 0, 0, 0⟩
def cfgU (s : ByteArray) : Cg := match cfgR s with | some (c, _) => c | none => zeroCg
def leftU (s : ByteArray) : ByteArray := match cfgR s with | some (_, b) => s.extract b s.size | none => ⟨#[]⟩
def errU (s : ByteArray) : Int := match cfgR s with | some _ => 0 | none => 11
theorem ConfP.uni {s : ByteArray} {w w' : World} {e : Ending} (h : ConfP s w e w') : Below w.heap.size w w' ∧ ∃ nv qv, e = .returned (.tuple #[.agg #[nv, qv, .int .i64 (cfgU s).wk, .int .i64 (cfgU s).tm, .int .i64 (cfgU s).rt, .int .i64 (cfgU s).ag], .string (leftU s), .int .i64 (errU s)]) ∧ NodesOf w' nv (cfgU s).ns ∧ Rd.SliceOf w' qv 3 Qu.cells (cfgU s).qs := by
  obtain ⟨hb, h⟩ := h
  refine ⟨hb, ?_⟩
  unfold cfgU leftU errU
  cases hc : cfgR s with
  | none =>
    rw [hc] at h
    exact ⟨_, _, h, .inl ⟨rfl, rfl⟩, .inl ⟨rfl, rfl⟩⟩
  | some p =>
    rw [hc] at h
    exact h
theorem manyK_mem {α : Type} {one : Nat → Option (α × Nat)} : ∀ (k a : Nat) (l : List α) (b : Nat), manyK one k a = some (l, b) → ∀ x ∈ l, ∃ a' b', one a' = some (x, b')
  | 0, a, l, b, h, x, hx => by
    simp only [manyK, Option.some.injEq, Prod.mk.injEq] at h
    obtain ⟨rfl, rfl⟩ := h
    simp at hx
  | k + 1, a, l, b, h, x, hx => by
    rw [manyK] at h
    cases e1 : one a with
    | none => rw [e1] at h; cases h
    | some p =>
      obtain ⟨y, c⟩ := p
      rw [e1] at h
      simp only at h
      cases e2 : manyK one k c with
      | none => rw [e2] at h; cases h
      | some q =>
        obtain ⟨l', d⟩ := q
        rw [e2] at h
        simp only [Option.some.injEq, Prod.mk.injEq] at h
        obtain ⟨rfl, rfl⟩ := h
        rcases List.mem_cons.1 hx with rfl | hx
        · exact ⟨a, c, e1⟩
        · exact manyK_mem k c l' _ e2 x hx
theorem manyK_len {α : Type} {one : Nat → Option (α × Nat)} : ∀ (k a : Nat) (l : List α) (b : Nat), manyK one k a = some (l, b) → l.length = k
  | 0, a, l, b, h => by
    simp only [manyK, Option.some.injEq, Prod.mk.injEq] at h
    obtain ⟨rfl, rfl⟩ := h
    rfl
  | k + 1, a, l, b, h => by
    rw [manyK] at h
    cases e1 : one a with
    | none => rw [e1] at h; cases h
    | some p =>
      obtain ⟨y, c⟩ := p
      rw [e1] at h
      simp only at h
      cases e2 : manyK one k c with
      | none => rw [e2] at h; cases h
      | some q =>
        obtain ⟨l', d⟩ := q
        rw [e2] at h
        simp only [Option.some.injEq, Prod.mk.injEq] at h
        obtain ⟨rfl, rfl⟩ := h
        rw [List.length_cons, manyK_len k c l' _ e2]
theorem manyR_len {α : Type} {s : ByteArray} {one : Nat → Option (α × Nat)} {a : Nat} {l : List α} {b : Nat} (h : manyR s one a = some (l, b)) : l.length ≤ 255 := by
  unfold manyR at h
  split at h
  · have := byteF_bound s a
    rw [manyK_len _ _ _ _ h]; omega
  · cases h
theorem cfgU_len (s : ByteArray) : (cfgU s).ns.length ≤ 100000 ∧ (cfgU s).qs.length ≤ 100000 ∧ ∀ ds ∈ (cfgU s).ns, ds.length ≤ 100000 := by
  unfold cfgU
  cases hc : cfgR s with
  | none => exact ⟨by decide, by decide, fun ds h => by simp [zeroCg] at h⟩
  | some p =>
    unfold cfgR at hc
    cases h1 : manyR s (nodeR s) 0 with
    | none => rw [h1] at hc; cases hc
    | some q =>
      obtain ⟨ns, a⟩ := q
      rw [h1] at hc
      simp only at hc
      cases h2 : manyR s (quR s) a with
      | none => rw [h2] at hc; cases hc
      | some q =>
        obtain ⟨qs, b⟩ := q
        rw [h2] at hc
        simp only at hc
        split at hc
        · simp only [Option.some.injEq] at hc
          subst hc
          refine ⟨by have := manyR_len h1; simp only; omega, by have := manyR_len h2; simp only; omega, fun ds hds => ?_⟩
          unfold manyR at h1
          split at h1
          · obtain ⟨a', b', h3⟩ := manyK_mem _ _ _ _ h1 ds hds
            have := manyR_len h3; omega
          · cases h1
        · cases hc
set_option maxRecDepth 100000 in
set_option maxHeartbeats 4000000 in
theorem wireReads_walk (s : ByteArray) (hsm : s.size ≤ maxLen) (W : World) :
    Calls Try.prog 6 #[.string s] W fun e w' => e = .returned (.bool true) ∧ Below W.heap.size W w' := by
  go_enter Try.func6, Try.ntmps6
  go_wp2_with fail
  refine (awake_any _).mono ?_
  rintro e w1 ⟨rfl, hb1⟩
  have HB1 := Lib.hid hb1
  clear hb1
  by_cases hbig : 3000 < s.size
  · have hd : decide (3000 < (s.size : Int)) = true := by simp; omega
    go_wp2_with fail
    go_ret
    exact ⟨rfl, HB1.out⟩
  have hd : decide (3000 < (s.size : Int)) = false := by simp; omega
  have hs : s.size ≤ 100000 := by omega
  go_wp2_with fail
  refine (entries_any s _ hs).mono ?_
  rintro e w2 ⟨v1, rfl, ho1, hb2⟩
  have HB2 := Lib.hid (HB1.out.trans (hb2.mono HB1.out.size))
  have hs1 := (sliceOf_own (cells := We.cells) (sz := 12) (fun _ => rfl) (by decide) ho1).1
  have HS1 := Lib.hid hs1
  clear ho1 hb2 hs1
  go_wp2_with fail
  refine (rentries_any s _ hs).mono ?_
  rintro e w3 ⟨v2, rfl, ho2, hb3⟩
  have HB3 := Lib.hid (HB2.out.trans (hb3.mono HB2.out.size))
  have hs2 := (sliceOf_own (cells := We.cells) (sz := 12) (fun _ => rfl) (by decide) ho2).1
  have hs1 := HS1.out.later hb3
  clear HS1
  obtain ⟨es, hes⟩ : ∃ es, entriesN s s.size 0 = es := ⟨_, rfl⟩
  rw [hes] at hs1 hs2
  obtain ⟨va1, vc1, hv1⟩ := hs1.form
  obtain ⟨va2, vc2, hv2⟩ := hs2.form
  obtain ⟨n, hn⟩ : ∃ n, es.length = n := ⟨_, rfl⟩
  have hn3 : n ≤ 100000 := by
    have := entries_len' s s.size 0 (Nat.zero_le _)
    rw [hes, hn] at this
    omega
  rw [hn] at hv1 hv2
  subst hv1 hv2
  have HS1 := Lib.hid hs1; have HS2 := Lib.hid hs2; have HN := Lib.hid hn
  clear ho2 hb3 hs1 hs2 hes hn
  go_wp2_with fail
  go_loopw [5] (fun iv wr => ∃ k : Nat, k ≤ n ∧ iv = .int .i64 k ∧ Hid (Below w3.heap.size w3 wr)) (fun iv _ => n - (intOf iv).toNat)
  case atStart => exact ⟨0, Nat.zero_le _, rfl, Lib.hid (Below.refl _ _)⟩
  case round =>
    obtain ⟨k, hk, rfl, hI⟩ := hrel
    by_cases hlt : k < n
    · have hke : k < es.length := by rw [HN.out]; exact hlt
      obtain ⟨x, hx⟩ : ∃ x, es[k] = x := ⟨_, rfl⟩
      obtain ⟨d1, o1, p1, hv1, _, _, hb1, hc1⟩ := We.at HS1.out hke hx
      obtain ⟨d2, o2, p2, hv2, _, _, hb2, hc2⟩ := We.at HS2.out hke hx
      simp only [Value.slice.injEq] at hv1 hv2
      obtain ⟨rfl, -, rfl⟩ := hv1
      obtain ⟨rfl, -, rfl⟩ := hv2
      have f := hc1 wr hI.out
      have g := hc2 wr hI.out
      have l1 := Nat.lt_of_lt_of_le hb1 hI.out.size
      have l2 := Nat.lt_of_lt_of_le hb2 hI.out.size
      obtain ⟨⟨kd, en, ⟨j0, j1, j2, j3, ⟨j4, j5, j6, j7⟩⟩⟩, er, pl⟩ := x
      obtain ⟨f0, f1, f2, f3, f4, f5, f6, f7, f8, f9, f10, f11⟩ := f
      obtain ⟨g0, g1, g2, g3, g4, g5, g6, g7, g8, g9, g10, g11⟩ := g
      clear hx hc1 hc2 hb1 hb2
      go_wp2_with fail
      go_quiet (fail)
      have hBq : Below wr.heap.size wr (wr.drewN nq) := ⟨rfl, rfl, rfl, Nat.le_refl _, fun _ _ => rfl⟩
      have HJ2 := Lib.hid (hI.out.trans (hBq.mono hI.out.size))
      clear f0 f1 f2 f3 f4 f5 f6 f7 f8 f9 f10 f11 g0 g1 g2 g3 g4 g5 g6 g7 g8 g9 g10 g11 l1 l2
      generalize wr.drewN nq = wz at HJ2 hBq ⊢
      clear hBq
      go_wp2_with fail
      exact ⟨⟨k + 1, by omega, by go_num, Lib.hid HJ2.out⟩, by simp [intOf]; omega⟩
    · obtain rfl : k = n := by omega
      have HBW := Lib.hid (HB3.out.trans (hI.out.mono HB3.out.size))
      go_wp2_with fail
      refine (config_any s _ hs).mono ?_
      intro e w4 hq
      obtain ⟨hb4, nv1, qv1, rfl, hN1, hQ1⟩ := hq.uni
      have HB4 := Lib.hid (HBW.out.trans (hb4.mono HBW.out.size))
      have hl := cfgU_len s
      obtain ⟨c, hc⟩ : ∃ c, cfgU s = c := ⟨_, rfl⟩
      obtain ⟨lf, hlf⟩ : ∃ l, leftU s = l := ⟨_, rfl⟩
      obtain ⟨er, her⟩ : ∃ l, errU s = l := ⟨_, rfl⟩
      rw [hc] at hN1 hQ1 hl
      have HL := Lib.hid hl
      obtain ⟨wk, hwk⟩ : ∃ x, c.wk = x := ⟨_, rfl⟩
      obtain ⟨tm, htm⟩ : ∃ x, c.tm = x := ⟨_, rfl⟩
      obtain ⟨rt, hrt⟩ : ∃ x, c.rt = x := ⟨_, rfl⟩
      obtain ⟨ag, hag⟩ : ∃ x, c.ag = x := ⟨_, rfl⟩
      rw [hc, hlf, her, hwk, htm, hrt, hag]
      obtain ⟨na1, nc1, rfl⟩ := hN1.form
      obtain ⟨qa1, qc1, rfl⟩ := hQ1.form
      obtain ⟨nl, hnl⟩ : ∃ x, c.ns.length = x := ⟨_, rfl⟩
      obtain ⟨ql, hql⟩ : ∃ x, c.qs.length = x := ⟨_, rfl⟩
      rw [hnl] at hN1 ⊢
      rw [hql] at hQ1 ⊢
      have HNL := Lib.hid hnl; have HQL := Lib.hid hql
      have HN1 := Lib.hid hN1; have HQ1 := Lib.hid hQ1; have HC := Lib.hid hc; have HLF := Lib.hid hlf; have HER := Lib.hid her
      have HWK := Lib.hid hwk; have HTM := Lib.hid htm; have HRT := Lib.hid hrt; have HAG := Lib.hid hag
      clear hq hb4 hN1 hQ1 hl hc hnl hql hlf her hwk htm hrt hag
      go_wp2_with fail
      have kA := World.alloc_heap_new w4 (.cells #[.slice na1 nl nc1, .slice qa1 ql qc1, .int .i64 wk, .int .i64 tm, .int .i64 rt, .int .i64 ag] 43)
      have hb5 := (Below.refl w4.heap.size w4).alloc (Nat.le_refl _) (.cells #[.slice na1 nl nc1, .slice qa1 ql qc1, .int .i64 wk, .int .i64 tm, .int .i64 rt, .int .i64 ag] 43)
      generalize w4.alloc (.cells #[.slice na1 nl nc1, .slice qa1 ql qc1, .int .i64 wk, .int .i64 tm, .int .i64 rt, .int .i64 ag] 43) = w5 at kA hb5 ⊢
      obtain ⟨A, hA⟩ : ∃ A, w4.heap.size = A := ⟨_, rfl⟩
      have HN5 := Lib.hid (HN1.out.later hb5); have HQ5 := Lib.hid (HQ1.out.later hb5)
      have HB5 := Lib.hid (HB4.out.trans (hb5.mono HB4.out.size))
      rw [hA] at kA ⊢
      have HA := Lib.hid kA
      clear HN1 HQ1 hA kA hb5
      refine (rconfig_any s _ hs).mono ?_
      intro e w6 hq
      obtain ⟨hb6, nv2, qv2, rfl, hN2, hQ2⟩ := hq.uni
      rw [HC.out] at hN2 hQ2
      rw [HC.out, HLF.out, HER.out, HWK.out, HTM.out, HRT.out, HAG.out]
      obtain ⟨na2, nc2, rfl⟩ := hN2.form
      obtain ⟨qa2, qc2, rfl⟩ := hQ2.form
      rw [HNL.out] at hN2 ⊢
      rw [HQL.out] at hQ2 ⊢
      have kA := (hb6.block _ (lt_of_block HA.out)).trans HA.out
      have HB6 := Lib.hid (HB5.out.trans (hb6.mono HB5.out.size))
      have HN6 := Lib.hid (HN5.out.later hb6); have HQ6 := Lib.hid (HQ5.out.later hb6); have HN2 := Lib.hid hN2; have HQ2 := Lib.hid hQ2
      have HA := Lib.hid kA
      clear hq hb6 hN2 hQ2 HN5 HQ5
      have a0 := cell_of_block kA 0; have a1 := cell_of_block kA 1; have a2 := cell_of_block kA 2; have a3 := cell_of_block kA 3; have a4 := cell_of_block kA 4; have a5 := cell_of_block kA 5; have lA := lt_of_block kA
      clear kA
      go_wp2_with fail
      have hb7 := (Below.refl w6.heap.size w6).alloc (Nat.le_refl _) (.cells #[.slice na2 nl nc2, .slice qa2 ql qc2, .int .i64 wk, .int .i64 tm, .int .i64 rt, .int .i64 ag] 43)
      refine (same_any (.slice na1 nl nc1) (.slice qa1 ql qc1) (.slice na2 nl nc2) (.slice qa2 ql qc2) c.ns c.qs wk tm rt ag _ (HN6.out.later hb7) (HQ6.out.later hb7) (HN2.out.later hb7) (HQ2.out.later hb7) HL.out.1 HL.out.2.1 HL.out.2.2).mono ?_
      rintro e w8 ⟨rfl, hb8⟩
      have HF := Lib.hid (HB6.out.trans ((hb7.trans (hb8.mono hb7.size)).mono HB6.out.size))
      clear hb7 hb8 a0 a1 a2 a3 a4 a5 lA
      go_wp2_with fail
      go_ret
      exact ⟨rfl, HF.out⟩
end Go.Proofs.Ytghfdiaaonjofaa
