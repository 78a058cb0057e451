/-
  The law TimerPlays.
-/
import Derived.Test.YtnfdobmjfchegaaRefTimer4
import Derived.Test.YtnfdobmjfchegaaFlatAct07
set_option linter.unusedVariables false
set_option linter.unusedSimpArgs false
namespace Go.Proofs.Ytnfdobmjfchegaa
open Go.RowKit Go.Maps

theorem outE_len (s : List En) (id : Int) : (outE s id).length ≤ s.length := List.length_filter_le _ _
theorem insE_len (x : En) (s : List En) : (insE x s).length = s.length + 1 := by rw [(insE_perm x s).length_eq]; rfl
theorem dropE_len (s : List En) (id : Int) : (dropE s id).2.length ≤ s.length := by
  unfold dropE
  split
  · exact Nat.le_refl _
  · exact outE_len s id
theorem setE_len (s : List En) (id t : Int) : (setE s id t).2.length ≤ s.length + 1 := by
  have := outE_len s id
  unfold setE
  split
  · simp
  · split
    · split
      · simp
      · simp only [insE_len]; omega
    · split
      · simp
      · simp only [insE_len]; omega
theorem dueE_len (s : List En) (b : Int) : (dueE s b).length ≤ s.length ∧ (restE s b).length ≤ s.length := by
  have h : (dueE s b).length + (restE s b).length = s.length := by
    unfold dueE restE
    rw [← List.length_append, List.takeWhile_append_dropWhile]
  omega
theorem acts_ok {xs : List Act07} (h : ∀ x ∈ xs, x.wf) {k : Nat} (hk : k < xs.length) {x : Act07} (hx : xs[k] = x) : okInt x.id := by
  have h1 := h x (hx ▸ List.getElem_mem hk)
  unfold Act07.wf at h1
  exact h1.2.1
theorem IntRow.fr {w w' : World} {B : Nat} {F : Nat → Prop} {v : Value} {xs : List Int} (h : IntRow w v xs) (hf : Fr B F w w') (hB : ∀ q, v.ownBlock = some q → q < B ∧ ¬ F q) : IntRow w' v xs := by
  obtain ⟨a, cap, rfl, hc⟩ := h
  refine ⟨a, cap, rfl, fun i x hx => ?_⟩
  obtain ⟨b, o, rfl, h2, h3⟩ := hc i x hx
  have hb := hB b rfl
  have hq := hf.block b hb.1 hb.2
  exact ⟨b, o, rfl, (World.cell?_of_block (a := ⟨b, o + i, none⟩) hq).trans h2, Nat.lt_of_lt_of_le h3 hf.size⟩
theorem IntRow.own {w : World} {B : Nat} {v : Value} {l : List En} (h : w.ownsRow B 3 1 v l.length (idsV l)) : IntRow w v (idsL l) := by
  have e1 : l.length = (idsL l).length := by simp [idsL]
  have e2 : idsV l = (idsL l).map (Value.int .i64) := by simp [idsV, idsL]
  rw [e1, e2] at h
  obtain ⟨h1, ⟨rfl, h0⟩ | ⟨g, cap, cur, rfl, hg, hh, hnc, hm, hsz, ht⟩⟩ := h
  · exact ⟨none, 0, by rw [h0], fun i x hx => by have := (List.getElem?_eq_some_iff.1 hx).1; omega⟩
  · refine ⟨_, cap, rfl, fun i x hx => ⟨g, 0, rfl, ?_, lt_of_block hh⟩⟩
    have hi := (List.getElem?_eq_some_iff.1 hx).1
    rw [cell_of_block hh, Nat.zero_add, ← Array.getElem?_toList]
    have h2 : ((idsL l).map (Value.int .i64))[i]? = some (.int .i64 x) := by rw [List.getElem?_map, hx]; rfl
    rw [← ht, List.getElem?_take, if_pos (by omega)] at h2
    exact h2

/-- the timer and the document's, side by side -/
structure TR (W w : World) (p N : Nat) (s : List En) (pm : Nat) (s2 : List En) : Prop where
  ex : ∃ base M v vr, TmAt w base p M v N s ∧ RefAt w pm vr s2 ∧ (∀ q, TF p M v q → W.heap.size ≤ q ∧ q ≠ pm ∧ vr.ownBlock ≠ some q) ∧ (∀ q, vr.ownBlock = some q → q < w.heap.size)
  far : W.heap.size ≤ pm
  below : Below W.heap.size W w
variable {W w w' : World} {p N pm : Nat} {s s2 : List En}
theorem TR.later (h : TR W w p N s pm s2) (hb : Below w.heap.size w w') : TR W w' p N s pm s2 := by
  obtain ⟨base, M, v, vr, h1, h2, h3, h4⟩ := h.ex
  exact ⟨⟨base, M, v, vr, h1.later hb, h2.later hb, h3, fun q hq => Nat.lt_of_lt_of_le (h4 q hq) hb.size⟩, h.far, h.below.trans (hb.mono h.below.size)⟩
theorem TR.more (h : TR W w p N s pm s2) {N' : Nat} (hN : N ≤ N') : TR W w p N' s pm s2 := by
  obtain ⟨base, M, v, vr, h1, h2, h3, h4⟩ := h.ex
  exact ⟨⟨base, M, v, vr, h1.more hN, h2, h3, h4⟩, h.far, h.below⟩
theorem TR.lt (h : TR W w p N s pm s2) : pm < w.heap.size := by
  obtain ⟨base, M, v, vr, h1, h2, h3, h4⟩ := h.ex
  exact lt_of_block h2.head
theorem TR.tm {base M N' : Nat} {v vr v' : Value} {s' : List En} (h1 : TmAt w base p M v N s) (h2 : RefAt w pm vr s2) (h3 : ∀ q, TF p M v q → W.heap.size ≤ q ∧ q ≠ pm ∧ vr.ownBlock ≠ some q) (h4 : ∀ q, vr.ownBlock = some q → q < w.heap.size) (hf : W.heap.size ≤ pm) (hb : Below W.heap.size W w)
    (hT : TmAt w' base p M v' N' s') (hfr : Fr w.heap.size (TF p M v) w w') (hn : ∀ q, TF p M v' q → TF p M v q ∨ w.heap.size ≤ q) : TR W w' p N' s' pm s2 := by
  have hpm := lt_of_block h2.head
  refine ⟨⟨base, M, v', vr, hT, h2.frame (fun q hq => ?_) hfr.size, fun q hq => ?_, fun q hq => Nat.lt_of_lt_of_le (h4 q hq) hfr.size⟩, hf, ?_⟩
  · rcases hq with rfl | hq
    · exact hfr.block _ hpm (fun h => (h3 _ h).2.1 rfl)
    · exact hfr.block q (h4 q hq) (fun h => (h3 q h).2.2 hq)
  · rcases hn q hq with h | h
    · exact h3 q h
    · have := hb.size
      exact ⟨by omega, by omega, fun e => by have := h4 q e; omega⟩
  · exact hb.trans ((hfr.mono hb.size fun _ _ e => e).below (Nat.le_refl _) fun q hq => (h3 q hq).1)
theorem TR.rf {base M : Nat} {v vr v' : Value} {s' : List En} (h1 : TmAt w base p M v N s) (h2 : RefAt w pm vr s2) (h3 : ∀ q, TF p M v q → W.heap.size ≤ q ∧ q ≠ pm ∧ vr.ownBlock ≠ some q) (h4 : ∀ q, vr.ownBlock = some q → q < w.heap.size) (hf : W.heap.size ≤ pm) (hb : Below W.heap.size W w)
    (hR : RefAt w' pm v' s') (hfr : Fr w.heap.size (fun q => q = pm) w w') (hn : ∀ q, v'.ownBlock = some q → vr.ownBlock = some q ∨ (w.heap.size ≤ q ∧ q < w'.heap.size)) : TR W w' p N s pm s' := by
  refine ⟨⟨base, M, v, v', h1.frame (fun q hq => hfr.block q (h1.lt hq) (h3 q hq).2.1) hfr.size, hR, fun q hq => ⟨(h3 q hq).1, (h3 q hq).2.1, fun e => ?_⟩, fun q hq => ?_⟩, hf, ?_⟩
  · rcases hn q e with h | h
    · exact (h3 q hq).2.2 h
    · have := h1.lt hq; omega
  · rcases hn q hq with h | h
    · exact Nat.lt_of_lt_of_le (h4 q h) hfr.size
    · exact h.2
  · exact hb.trans ((hfr.mono hb.size fun _ _ e => e).below (Nat.le_refl _) fun q hq => by omega)
theorem TR.set (h : TR W w p N s pm s2) (id tick : Int) (hid : okInt id) (hN : N < 1000000) :
    Calls Try.prog 9 #[.pointer (some ⟨p, 0, none⟩), .int .i64 id, .int .i64 tick] w fun e w' => e = .returned (.int .i64 (setE s id tick).1) ∧ TR W w' p (N + 1) (setE s id tick).2 pm s2 := by
  obtain ⟨base, M, v, vr, h1, h2, h3, h4⟩ := h.ex
  exact (set_any h1 id tick hid hN).mono fun e w' ⟨he, v', hT, hf, hn⟩ => ⟨he, TR.tm h1 h2 h3 h4 h.far h.below hT hf hn⟩
theorem TR.drop (h : TR W w p N s pm s2) (id : Int) (hid : okInt id) :
    Calls Try.prog 12 #[.pointer (some ⟨p, 0, none⟩), .int .i64 id] w fun e w' => e = .returned (.int .i64 (dropE s id).1) ∧ TR W w' p N (dropE s id).2 pm s2 := by
  obtain ⟨base, M, v, vr, h1, h2, h3, h4⟩ := h.ex
  exact (drop_any h1 id hid).mono fun e w' ⟨he, v', hT, hf, hn⟩ => ⟨he, TR.tm h1 h2 h3 h4 h.far h.below hT hf hn⟩
theorem TR.next (h : TR W w p N s pm s2) (hN : N < 1000000) : Calls Try.prog 13 #[.pointer (some ⟨p, 0, none⟩)] w fun e w' => e = .returned (.tuple #[.int .i64 (headE s).tick, .bool (!s.isEmpty)]) ∧ TR W w' p N s pm s2 := by
  obtain ⟨base, M, v, vr, h1, h2, h3, h4⟩ := h.ex
  exact (next_any h1 hN).mono fun e w' ⟨he, v', hT, hf, hn⟩ => ⟨he, TR.tm h1 h2 h3 h4 h.far h.below hT hf hn⟩
theorem len_same {base M : Nat} {v : Value} (h : TmAt w base p M v N s) : Calls Try.prog 10 #[.pointer (some ⟨p, 0, none⟩)] w fun e w' => e = .returned (.int .i64 s.length) ∧ w' = w := by
  have lp := h.lt (.inl rfl)
  have q0 := cell_of_block h.head 1
  obtain ⟨es, c, m, m1, m2, m3⟩ := h.map
  have hl : es.size = s.length := by rw [m2.len, m3.length_eq]; simp
  have hrun := len_run m1 3
  rw [hl] at hrun
  clear h m2 m3 hl
  go_enter Try.func10, Try.ntmps10
  go_wp2_with fail
  go_ret
  exact ⟨rfl, rfl⟩
theorem TR.lenN (h : TR W w p N s pm s2) (m : Nat) : Calls Try.prog 10 #[.pointer (some ⟨p, 0, none⟩)] (w.drewN m) fun e w' => e = .returned (.int .i64 s.length) ∧ w' = w.drewN m := by
  obtain ⟨base, M, v, vr, h1, h2, h3, h4⟩ := h.ex
  exact len_same (h1.later (w' := w.drewN m) ⟨rfl, rfl, rfl, Nat.le_refl _, fun _ _ => rfl⟩)
theorem TR.len (h : TR W w p N s pm s2) : Calls Try.prog 10 #[.pointer (some ⟨p, 0, none⟩)] w fun e w' => e = .returned (.int .i64 s.length) ∧ Below w.heap.size w w' := by
  obtain ⟨base, M, v, vr, h1, h2, h3, h4⟩ := h.ex
  exact len_any h1
theorem TR.at (h : TR W w p N s pm s2) (id : Int) (hid : okInt id) : Calls Try.prog 18 #[.pointer (some ⟨p, 0, none⟩), .int .i64 id] w fun e w' => e = .returned (.tuple #[.int .i64 (match lookE s id with | some e => e.tick | none => 0), .int .i64 (match lookE s id with | some _ => 0 | none => 3)]) ∧ Below w.heap.size w w' := by
  obtain ⟨base, M, v, vr, h1, h2, h3, h4⟩ := h.ex
  exact at_any h1 id hid
theorem TR.rAt (h : TR W w p N s pm s2) (id : Int) (hl : s2.length ≤ 1000000) : Calls Try.prog 19 #[.pointer (some ⟨pm, 0, none⟩), .int .i64 id] w fun e w' => e = .returned (.tuple #[.int .i64 (match lookE s2 id with | some e => e.tick | none => 0), .int .i64 (match lookE s2 id with | some _ => 0 | none => 3)]) ∧ Below w.heap.size w w' := by
  obtain ⟨base, M, v, vr, h1, h2, h3, h4⟩ := h.ex
  exact refAt_any h2 id hl
theorem TR.due (h : TR W w p N s pm s2) (now : Int) (hN : N < 1000000) : Calls Try.prog 11 #[.pointer (some ⟨p, 0, none⟩), .int .i64 now] w fun e w' => ∃ vo, e = .returned vo ∧ TR W w' p N (restE s now) pm s2 ∧ IntRow w' vo (idsL (dueE s now)) ∧ ∀ q, vo.ownBlock = some q → q < w'.heap.size ∧ ¬ q = pm := by
  obtain ⟨base, M, v, vr, h1, h2, h3, h4⟩ := h.ex
  refine (due_any h1 now hN).mono fun e w' ⟨vo, he, ho, v', hT, hf, hn, _⟩ => ⟨vo, he, TR.tm h1 h2 h3 h4 h.far h.below hT hf hn, IntRow.own ho, fun q hq => ?_⟩
  have := ho.lt q hq
  have := lt_of_block h2.head
  omega
theorem TR.rDue (h : TR W w p N s pm s2) (now : Int) (hl : s2.length ≤ 1000000) : Calls Try.prog 17 #[.pointer (some ⟨pm, 0, none⟩), .int .i64 now] w fun e w' => ∃ vo, e = .returned vo ∧ TR W w' p N s pm (restE s2 now) ∧ IntRow w' vo (idsL (dueE s2 now)) ∧ Fr w.heap.size (fun q => q = pm) w w' := by
  obtain ⟨base, M, v, vr, h1, h2, h3, h4⟩ := h.ex
  exact (refDue_any h2 now hl).mono fun e w' ⟨vo, he, ho, v', hR, hf, hn⟩ => ⟨vo, he, TR.rf h1 h2 h3 h4 h.far h.below hR hf (fun q hq => .inl (hn q hq)), IntRow.own ho, hf⟩
theorem TR.rSet (h : TR W w p N s pm s2) (hr : Row s2) (id tick : Int) (hl : s2.length ≤ 1000000) : Calls Try.prog 15 #[.pointer (some ⟨pm, 0, none⟩), .int .i64 id, .int .i64 tick] w fun e w' => e = .returned (.int .i64 (setE s2 id tick).1) ∧ TR W w' p N s pm (setE s2 id tick).2 := by
  obtain ⟨base, M, v, vr, h1, h2, h3, h4⟩ := h.ex
  exact (refSet_any h2 hr id tick hl).mono fun e w' ⟨he, v', hR, hf, hn⟩ => ⟨he, TR.rf (v := v) h1 h2 h3 h4 h.far h.below hR hf hn⟩
theorem TR.rDrop (h : TR W w p N s pm s2) (hr : Row s2) (id : Int) (hl : s2.length ≤ 1000000) : Calls Try.prog 16 #[.pointer (some ⟨pm, 0, none⟩), .int .i64 id] w fun e w' => e = .returned (.int .i64 (dropE s2 id).1) ∧ TR W w' p N s pm (dropE s2 id).2 := by
  obtain ⟨base, M, v, vr, h1, h2, h3, h4⟩ := h.ex
  exact (refDrop_any h2 hr id hl).mono fun e w' ⟨he, v', hR, hf, hn⟩ => ⟨he, TR.rf (v := v) h1 h2 h3 h4 h.far h.below hR hf hn⟩
theorem TR.row (h : TR W w p N s pm s2) : Row s := by
  obtain ⟨base, M, v, vr, h1, h2, h3, h4⟩ := h.ex
  exact h1.row
theorem TR.start {L : List (Nat × Array Value × TypeId)} (h : TK W w p N [] L) : TR W (w.alloc (.cells #[.slice none 0 0] 43)) p N [] w.heap.size [] := by
  obtain ⟨base, M, v, hT, hF⟩ := h.ex
  have hb := (Below.refl w.heap.size w).alloc (Nat.le_refl _) (.cells #[.slice none 0 0] 43)
  have hh := World.alloc_heap_new w (.cells #[.slice none 0 0] 43)
  refine ⟨⟨base, M, v, .slice none 0 0, hT.later hb, ⟨hh, ⟨none, 0, rfl, Nat.le_refl _, by unfold maxLen; omega, fun k x hx => by simp at hx⟩, fun n cap e => by cases e; exact ⟨rfl, rfl⟩, fun ad n cap e => by cases e⟩, fun q hq => ⟨(hF q hq).1, ?_, by simp [Value.ownBlock]⟩, fun q hq => by simp [Value.ownBlock] at hq⟩, h.below.size, h.below.trans (hb.mono h.below.size)⟩
  have := hT.lt hq
  omega
theorem TR.refs (h : TR W w p N s pm s2) : ∃ a cap, w.cell? ⟨pm, 0, none⟩ = some (.slice a s2.length cap) ∧ (∀ x r, s2 = x :: r → ∃ b o, a = some ⟨b, o, none⟩ ∧ w.cell? ⟨b, o, none⟩ = some (.int .i64 x.tick)) := by
  obtain ⟨base, M, v, vr, h1, h2, h3, h4⟩ := h.ex
  have hh := h2.head
  obtain ⟨a, cap, rfl, _, _, hc⟩ := h2.row
  refine ⟨a, cap, cell_of_block hh 0, fun x r e => ?_⟩
  subst e
  obtain ⟨b, o, rfl, hb, _, c0, _⟩ := hc 0 x rfl
  simp only [Nat.zero_mul, Nat.add_zero] at c0
  exact ⟨b, o, rfl, c0⟩

set_option maxRecDepth 100000 in
set_option maxHeartbeats 8000000 in
theorem timerPlays_walk (v : Value) (xs : List Act07) (W : World) (sl : Rd.SliceOf W v 3 Act07.cells xs) (hwf : ∀ x ∈ xs, x.wf) (qid : Int) (wq : (Lit.int .i64 qid).wf = true) :
    Calls Try.prog 5 #[v, .int .i64 qid] W fun e w' => e = .returned (.bool true) ∧ Below W.heap.size W w' := by
  obtain ⟨a0, cap0, hv0⟩ := sl.form
  obtain ⟨n, hn⟩ : ∃ n, xs.length = n := ⟨_, rfl⟩
  have HS := Lib.hid sl; have HN := Lib.hid hn; have HW := Lib.hid hwf
  rw [hn] at hv0
  subst hv0
  clear sl hn hwf
  by_cases h0 : (200 : Int) < n
  · go_enter Try.func5, Try.ntmps5
    go_wp2_with fail
    refine (awake_any _).mono ?_
    rintro e w1 ⟨rfl, hb1⟩
    go_wp2
    go_ret
    exact ⟨rfl, hb1⟩
  have hn200 : n ≤ 200 := by omega
  go_enter Try.func5, Try.ntmps5
  go_wp2_with fail
  refine (awake_any _).mono ?_
  rintro e w1 ⟨rfl, hb1⟩
  have K1 := Lib.hid ((Kept.start W).later hb1)
  clear hb1
  go_wp2_with fail
  refine (TK.start K1.out).mono ?_
  rintro e w2 ⟨p, rfl, G2⟩
  have HG2 := Lib.hid (TR.start G2)
  clear G2 K1
  go_wp2_with fail
  go_loopw [7] (fun i wr => ∃ (k : Nat) (s : List En), k ≤ n ∧ i = .int .i64 k ∧ Hid (TR W wr p k s w2.heap.size s ∧ s.length ≤ k)) (fun i _ => n - (intOf i).toNat)
  case atStart => exact ⟨0, [], Nat.zero_le _, rfl, Lib.hid ⟨HG2.out, Nat.le_refl _⟩⟩
  case round =>
    obtain ⟨k, s, hk, rfl, HG⟩ := hrel
    obtain ⟨pm, hpm⟩ : ∃ pm, w2.heap.size = pm := ⟨_, rfl⟩
    rw [hpm] at HG ⊢
    by_cases hlt : k < n
    · have hlq : k < xs.length := by rw [HN.out]; exact hlt
      obtain ⟨x, hx⟩ : ∃ x, xs[k] = x := ⟨_, rfl⟩
      have HID := Lib.hid (acts_ok HW.out hlq hx)
      obtain ⟨bb, off, cap3, hv, _, _, hb, hcell⟩ := Act07.at HS.out hlq hx
      simp only [Value.slice.injEq] at hv
      obtain ⟨rfl, -, rfl⟩ := hv
      have HCELL := Lib.hid hcell
      have HBW := Lib.hid HG.out.1.below
      obtain ⟨c0, c1, c2⟩ := HCELL.out wr HBW.out
      have lb := Nat.lt_of_lt_of_le hb HBW.out.size
      clear hcell hx
      by_cases hk0' : x.kind = 0
      · as_aux_lemma =>
          have hk0 : (x.kind == 0) = true := by simpa using hk0'
          clear hk0'
          go_wp2_with fail
          clear c0 c1 c2 lb
          have f1 : ∀ y : Later W, y.wd.cell? ⟨bb, off + k * 3 + 1, none⟩ = some (.int .i64 x.id) := fun y => (HCELL.out y.wd y.bel).2.1
          have f2 : ∀ y : Later W, y.wd.cell? ⟨bb, off + k * 3 + 2, none⟩ = some (.int .i64 x.tick) := fun y => (HCELL.out y.wd y.bel).2.2
          refine Rg.wp_region_pick (by kernel_rfl) [0, 1, 2, 3, 4, 5, 6, 7, 8, 9, 10, 12, 13, 14, 15, 16, 17, 18, 19, 20, 21, 22] [11, 23, 24] 25 (by kernel_rfl) (by kernel_rfl) (by kernel_rfl) (fun w' => ∃ y : Later W, w' = y.wd) (fun c a a' w hd h => ⟨hd.symm.trans h.1, h.2⟩) ⟨⟨_, HBW.out.drew⟩, rfl⟩ ?_
          simp only [Rg.picks, List.getElem?_cons_succ, List.getElem?_cons_zero, Option.toList, List.cons_append, List.nil_append]
          repeat (quiet_step (fail))
          refine wpQuiet_nil ?_
          clear f1 f2
          simp only [Rg.pickn, List.getElem?_cons_succ, List.getElem?_cons_zero, Option.toList, List.map_cons, List.map_nil, List.cons_append, List.nil_append]
          refine Rg.wpN_step (fun K hK => ?_) ⟨⟨_, HBW.out.drew⟩, rfl⟩
          go_simp
          refine ((TR.later HG.out.1 ((Below.refl _ _).drew)).set x.id x.tick HID.out (by omega)).mono ?_
          rintro e w3 ⟨rfl, G3⟩
          have HG3 := Lib.hid G3
          clear G3
          refine hK _ _ (fun _ => ⟨⟨_, HG3.out.below⟩, rfl⟩) ?_
          clear hK K
          refine Rg.wpN_step (fun K hK => ?_) ⟨⟨_, HG3.out.below⟩, rfl⟩
          go_simp
          refine (HG3.out.rSet HG.out.1.row x.id x.tick (Nat.le_trans HG.out.2 (by omega))).mono ?_
          rintro e w4 ⟨rfl, G4⟩
          have HG4 := Lib.hid G4
          clear G4
          refine hK _ _ (fun _ => ⟨⟨_, HG4.out.below⟩, rfl⟩) ?_
          clear hK K
          obtain ⟨s', hs'⟩ : ∃ s', (setE s x.id x.tick).2 = s' := ⟨_, rfl⟩
          obtain ⟨ec, hec⟩ : ∃ ec, (setE s x.id x.tick).1 = ec := ⟨_, rfl⟩
          have HSL := Lib.hid (show s'.length ≤ k + 1 by rw [← hs']; exact Nat.le_trans (setE_len s x.id x.tick) (Nat.succ_le_succ HG.out.2))
          rw [hs'] at HG4
          rw [hec]
          have HG5 := HG4
          have hee := bne_self_false ec
          clear hs' hec HG4
          refine Rg.wpN_step (fun K hK => ?_) ⟨⟨_, HG5.out.below⟩, rfl⟩
          go_simp
          refine hK _ _ (fun _ => ⟨⟨_, HG5.out.below⟩, rfl⟩) ?_
          clear hK K
          refine Rg.wpN_list (by simp) ?_
          simp only [List.map_nil]

          go_wp2_with fail
          refine (HG5.out.next (by omega)).mono ?_
          rintro e w6 ⟨rfl, G6⟩
          obtain ⟨a, cap, q0, qh⟩ := G6.refs
          have HLEN := Lib.hid G6.lenN
          have HG6 := Lib.hid G6
          have HSM := Lib.hid (show s'.length ≤ 1000000 from Nat.le_trans HSL.out (by omega))
          clear G6
          cases s' with
          | nil =>
            as_aux_lemma =>
              rw [show headE [] = ⟨0, 0⟩ from rfl, show (!([] : List En).isEmpty) = false from rfl]
              rw [show ([] : List En).length = 0 from rfl] at q0 HLEN
              clear qh
              go_wp2_with fail
              go_quiet ((go_at_call 10; exact Calls.quiet_of_same (HLEN.out _)))
              have hb7 : Below w6.heap.size w6 (w6.drewN nq) := ⟨rfl, rfl, rfl, Nat.le_refl _, fun _ _ => rfl⟩
              generalize w6.drewN nq = w7 at hb7 ⊢
              clear q0
              have HG7 := Lib.hid (HG6.out.later hb7)
              clear hb7
              go_wp2_with fail
              refine (HG7.out.at qid wq).mono ?_
              rintro e w8 ⟨rfl, hb8⟩
              have HG8 := Lib.hid (HG7.out.later hb8)
              clear hb8
              obtain ⟨ta, hta⟩ : ∃ ta : Int, (match lookE [] qid with | some e => e.tick | none => 0) = ta := ⟨_, rfl⟩
              obtain ⟨tb, htb⟩ : ∃ tb : Int, (match lookE [] qid with | some _ => 0 | none => 3) = tb := ⟨_, rfl⟩
              have HRA := Lib.hid (HG8.out.rAt qid HSM.out)
              rw [hta, htb] at HRA ⊢
              have haa := bne_self_false ta; have hbb := bne_self_false tb
              clear hta htb
              go_wp2_with fail
              refine HRA.out.mono ?_
              rintro e w9 ⟨rfl, hb9⟩
              have HG9 := Lib.hid (HG8.out.later hb9)
              clear hb9
              go_wp2_with fail
              exact ⟨⟨k + 1, [], by omega, by go_num, Lib.hid ⟨HG9.out, HSL.out⟩⟩, by simp [intOf]; omega⟩
          | cons x1 r1 =>
            as_aux_lemma =>
              rw [show headE (x1 :: r1) = x1 from rfl, show (!(x1 :: r1).isEmpty) = true from rfl]
              obtain ⟨b1, o1, rfl, qh0⟩ := qh x1 r1 rfl
              obtain ⟨m1, hm1⟩ : ∃ m1, (x1 :: r1).length = m1 + 1 := ⟨r1.length, rfl⟩
              rw [hm1] at q0 HLEN
              have hxx := bne_self_false x1.tick
              have hmm := bne_self_false ((m1 : Int) + 1)
              clear qh hm1
              go_wp2_with fail
              go_quiet ((go_at_call 10; exact Calls.quiet_of_same (HLEN.out _)))
              have hb7 : Below w6.heap.size w6 (w6.drewN nq) := ⟨rfl, rfl, rfl, Nat.le_refl _, fun _ _ => rfl⟩
              generalize w6.drewN nq = w7 at hb7 ⊢
              clear q0 qh0 hxx hmm
              have HG7 := Lib.hid (HG6.out.later hb7)
              clear hb7
              go_wp2_with fail
              refine (HG7.out.at qid wq).mono ?_
              rintro e w8 ⟨rfl, hb8⟩
              have HG8 := Lib.hid (HG7.out.later hb8)
              clear hb8
              obtain ⟨ta, hta⟩ : ∃ ta : Int, (match lookE (x1 :: r1) qid with | some e => e.tick | none => 0) = ta := ⟨_, rfl⟩
              obtain ⟨tb, htb⟩ : ∃ tb : Int, (match lookE (x1 :: r1) qid with | some _ => 0 | none => 3) = tb := ⟨_, rfl⟩
              have HRA := Lib.hid (HG8.out.rAt qid HSM.out)
              rw [hta, htb] at HRA ⊢
              have haa := bne_self_false ta; have hbb := bne_self_false tb
              clear hta htb
              go_wp2_with fail
              refine HRA.out.mono ?_
              rintro e w9 ⟨rfl, hb9⟩
              have HG9 := Lib.hid (HG8.out.later hb9)
              clear hb9
              go_wp2_with fail
              exact ⟨⟨k + 1, (x1 :: r1), by omega, by go_num, Lib.hid ⟨HG9.out, HSL.out⟩⟩, by simp [intOf]; omega⟩
      · by_cases hk1' : x.kind = 1
        · as_aux_lemma =>
            have hk0 : (x.kind == 0) = false := by simpa using hk0'
            have hk1 : (x.kind == 1) = true := by simpa using hk1'
            clear hk0' hk1'
            go_wp2_with fail
            clear c0 c1 c2 lb
            have f1 : ∀ y : Later W, y.wd.cell? ⟨bb, off + k * 3 + 1, none⟩ = some (.int .i64 x.id) := fun y => (HCELL.out y.wd y.bel).2.1
            have f2 : ∀ y : Later W, y.wd.cell? ⟨bb, off + k * 3 + 2, none⟩ = some (.int .i64 x.tick) := fun y => (HCELL.out y.wd y.bel).2.2
            refine Rg.wp_region_pick (by kernel_rfl) [0, 1, 2, 3, 4, 5, 7, 8, 9, 10, 11, 12] [6, 13, 14] 15 (by kernel_rfl) (by kernel_rfl) (by kernel_rfl) (fun w' => ∃ y : Later W, w' = y.wd) (fun c a a' w hd h => ⟨hd.symm.trans h.1, h.2⟩) ⟨⟨_, HBW.out.drew⟩, rfl⟩ ?_
            simp only [Rg.picks, List.getElem?_cons_succ, List.getElem?_cons_zero, Option.toList, List.cons_append, List.nil_append]
            repeat (quiet_step (fail))
            refine wpQuiet_nil ?_
            clear f1 f2
            simp only [Rg.pickn, List.getElem?_cons_succ, List.getElem?_cons_zero, Option.toList, List.map_cons, List.map_nil, List.cons_append, List.nil_append]
            refine Rg.wpN_step (fun K hK => ?_) ⟨⟨_, HBW.out.drew⟩, rfl⟩
            go_simp
            refine ((TR.later HG.out.1 ((Below.refl _ _).drew)).drop x.id HID.out).mono ?_
            rintro e w3 ⟨rfl, G3⟩
            have HG3 := Lib.hid G3
            clear G3
            refine hK _ _ (fun _ => ⟨⟨_, HG3.out.below⟩, rfl⟩) ?_
            clear hK K
            refine Rg.wpN_step (fun K hK => ?_) ⟨⟨_, HG3.out.below⟩, rfl⟩
            go_simp
            refine (HG3.out.rDrop HG.out.1.row x.id (Nat.le_trans HG.out.2 (by omega))).mono ?_
            rintro e w4 ⟨rfl, G4⟩
            have HG4 := Lib.hid (G4.more (Nat.le_succ k))
            clear G4
            refine hK _ _ (fun _ => ⟨⟨_, HG4.out.below⟩, rfl⟩) ?_
            clear hK K
            obtain ⟨s', hs'⟩ : ∃ s', (dropE s x.id).2 = s' := ⟨_, rfl⟩
            obtain ⟨ec, hec⟩ : ∃ ec, (dropE s x.id).1 = ec := ⟨_, rfl⟩
            have HSL := Lib.hid (show s'.length ≤ k + 1 by rw [← hs']; exact Nat.le_succ_of_le (Nat.le_trans (dropE_len s x.id) HG.out.2))
            rw [hs'] at HG4
            rw [hec]
            have HG5 := HG4
            have hee := bne_self_false ec
            clear hs' hec HG4
            refine Rg.wpN_step (fun K hK => ?_) ⟨⟨_, HG5.out.below⟩, rfl⟩
            go_simp
            refine hK _ _ (fun _ => ⟨⟨_, HG5.out.below⟩, rfl⟩) ?_
            clear hK K
            refine Rg.wpN_list (by simp) ?_
            simp only [List.map_nil]

            go_wp2_with fail
            refine (HG5.out.next (by omega)).mono ?_
            rintro e w6 ⟨rfl, G6⟩
            obtain ⟨a, cap, q0, qh⟩ := G6.refs
            have HLEN := Lib.hid G6.lenN
            have HG6 := Lib.hid G6
            have HSM := Lib.hid (show s'.length ≤ 1000000 from Nat.le_trans HSL.out (by omega))
            clear G6
            cases s' with
            | nil =>
              as_aux_lemma =>
                rw [show headE [] = ⟨0, 0⟩ from rfl, show (!([] : List En).isEmpty) = false from rfl]
                rw [show ([] : List En).length = 0 from rfl] at q0 HLEN
                clear qh
                go_wp2_with fail
                go_quiet ((go_at_call 10; exact Calls.quiet_of_same (HLEN.out _)))
                have hb7 : Below w6.heap.size w6 (w6.drewN nq) := ⟨rfl, rfl, rfl, Nat.le_refl _, fun _ _ => rfl⟩
                generalize w6.drewN nq = w7 at hb7 ⊢
                clear q0
                have HG7 := Lib.hid (HG6.out.later hb7)
                clear hb7
                go_wp2_with fail
                refine (HG7.out.at qid wq).mono ?_
                rintro e w8 ⟨rfl, hb8⟩
                have HG8 := Lib.hid (HG7.out.later hb8)
                clear hb8
                obtain ⟨ta, hta⟩ : ∃ ta : Int, (match lookE [] qid with | some e => e.tick | none => 0) = ta := ⟨_, rfl⟩
                obtain ⟨tb, htb⟩ : ∃ tb : Int, (match lookE [] qid with | some _ => 0 | none => 3) = tb := ⟨_, rfl⟩
                have HRA := Lib.hid (HG8.out.rAt qid HSM.out)
                rw [hta, htb] at HRA ⊢
                have haa := bne_self_false ta; have hbb := bne_self_false tb
                clear hta htb
                go_wp2_with fail
                refine HRA.out.mono ?_
                rintro e w9 ⟨rfl, hb9⟩
                have HG9 := Lib.hid (HG8.out.later hb9)
                clear hb9
                go_wp2_with fail
                exact ⟨⟨k + 1, [], by omega, by go_num, Lib.hid ⟨HG9.out, HSL.out⟩⟩, by simp [intOf]; omega⟩
            | cons x1 r1 =>
              as_aux_lemma =>
                rw [show headE (x1 :: r1) = x1 from rfl, show (!(x1 :: r1).isEmpty) = true from rfl]
                obtain ⟨b1, o1, rfl, qh0⟩ := qh x1 r1 rfl
                obtain ⟨m1, hm1⟩ : ∃ m1, (x1 :: r1).length = m1 + 1 := ⟨r1.length, rfl⟩
                rw [hm1] at q0 HLEN
                have hxx := bne_self_false x1.tick
                have hmm := bne_self_false ((m1 : Int) + 1)
                clear qh hm1
                go_wp2_with fail
                go_quiet ((go_at_call 10; exact Calls.quiet_of_same (HLEN.out _)))
                have hb7 : Below w6.heap.size w6 (w6.drewN nq) := ⟨rfl, rfl, rfl, Nat.le_refl _, fun _ _ => rfl⟩
                generalize w6.drewN nq = w7 at hb7 ⊢
                clear q0 qh0 hxx hmm
                have HG7 := Lib.hid (HG6.out.later hb7)
                clear hb7
                go_wp2_with fail
                refine (HG7.out.at qid wq).mono ?_
                rintro e w8 ⟨rfl, hb8⟩
                have HG8 := Lib.hid (HG7.out.later hb8)
                clear hb8
                obtain ⟨ta, hta⟩ : ∃ ta : Int, (match lookE (x1 :: r1) qid with | some e => e.tick | none => 0) = ta := ⟨_, rfl⟩
                obtain ⟨tb, htb⟩ : ∃ tb : Int, (match lookE (x1 :: r1) qid with | some _ => 0 | none => 3) = tb := ⟨_, rfl⟩
                have HRA := Lib.hid (HG8.out.rAt qid HSM.out)
                rw [hta, htb] at HRA ⊢
                have haa := bne_self_false ta; have hbb := bne_self_false tb
                clear hta htb
                go_wp2_with fail
                refine HRA.out.mono ?_
                rintro e w9 ⟨rfl, hb9⟩
                have HG9 := Lib.hid (HG8.out.later hb9)
                clear hb9
                go_wp2_with fail
                exact ⟨⟨k + 1, (x1 :: r1), by omega, by go_num, Lib.hid ⟨HG9.out, HSL.out⟩⟩, by simp [intOf]; omega⟩
        · as_aux_lemma =>
            have hk0 : (x.kind == 0) = false := by simpa using hk0'
            have hk1 : (x.kind == 1) = false := by simpa using hk1'
            clear hk0' hk1'
            go_wp2_with fail
            clear c0 c1 c2 lb
            have f1 : ∀ y : Later W, y.wd.cell? ⟨bb, off + k * 3 + 1, none⟩ = some (.int .i64 x.id) := fun y => (HCELL.out y.wd y.bel).2.1
            have f2 : ∀ y : Later W, y.wd.cell? ⟨bb, off + k * 3 + 2, none⟩ = some (.int .i64 x.tick) := fun y => (HCELL.out y.wd y.bel).2.2
            refine Rg.wp_region_pick (by kernel_rfl) [0, 1, 2, 3, 4, 5, 7, 8, 9, 10, 11, 12] [6, 13, 14, 15] 16 (by kernel_rfl) (by kernel_rfl) (by kernel_rfl) (fun w' => ∃ y : Later W, w' = y.wd) (fun c a a' w hd h => ⟨hd.symm.trans h.1, h.2⟩) ⟨⟨_, HBW.out.drew⟩, rfl⟩ ?_
            simp only [Rg.picks, List.getElem?_cons_succ, List.getElem?_cons_zero, Option.toList, List.cons_append, List.nil_append]
            repeat (quiet_step (fail))
            refine wpQuiet_nil ?_
            clear f1 f2
            simp only [Rg.pickn, List.getElem?_cons_succ, List.getElem?_cons_zero, Option.toList, List.map_cons, List.map_nil, List.cons_append, List.nil_append]
            refine Rg.wpN_step (fun K hK => ?_) ⟨⟨_, HBW.out.drew⟩, rfl⟩
            go_simp
            refine ((TR.later HG.out.1 ((Below.refl _ _).drew)).due x.tick (by omega)).mono ?_
            rintro e w3 ⟨vo, rfl, G3, hr3, ho3⟩
            have HG3 := Lib.hid G3; have HR3 := Lib.hid hr3; have HO3 := Lib.hid ho3
            clear G3 hr3 ho3
            refine hK _ _ (fun _ => ⟨⟨_, HG3.out.below⟩, rfl⟩) ?_
            clear hK K
            refine Rg.wpN_step (fun K hK => ?_) ⟨⟨_, HG3.out.below⟩, rfl⟩
            go_simp
            refine (HG3.out.rDue x.tick (Nat.le_trans HG.out.2 (by omega))).mono ?_
            rintro e w4 ⟨vo2, rfl, G4, hr4, hf4⟩
            have HI := Lib.hid (ints_any vo vo2 _ _ w4 (HR3.out.fr hf4 HO3.out) hr4 (by have := (dueE_len s x.tick).1; have := HG.out.2; simp [idsL]; omega))
            have HG4 := Lib.hid (G4.more (Nat.le_succ k))
            clear G4 hr4 hf4
            refine hK _ _ (fun _ => ⟨⟨_, HG4.out.below⟩, rfl⟩) ?_
            clear hK K
            obtain ⟨s', hs'⟩ : ∃ s', restE s x.tick = s' := ⟨_, rfl⟩
            have HSL := Lib.hid (show s'.length ≤ k + 1 by rw [← hs']; exact Nat.le_succ_of_le (Nat.le_trans (dueE_len s x.tick).2 HG.out.2))
            rw [hs'] at HG4
            clear hs'
            refine Rg.wpN_step (fun K hK => ?_) ⟨⟨_, HG4.out.below⟩, rfl⟩
            go_simp
            refine HI.out.mono ?_
            rintro e w5 ⟨rfl, hb5⟩
            simp only [decide_true]
            have HG5 := Lib.hid (HG4.out.later hb5)
            clear hb5
            refine hK _ _ (fun _ => ⟨⟨_, HG5.out.below⟩, rfl⟩) ?_
            clear hK K HG4
            refine Rg.wpN_step (fun K hK => ?_) ⟨⟨_, HG5.out.below⟩, rfl⟩
            go_simp
            refine hK _ _ (fun _ => ⟨⟨_, HG5.out.below⟩, rfl⟩) ?_
            clear hK K
            refine Rg.wpN_list (by simp) ?_
            simp only [List.map_nil]

            go_wp2_with fail
            refine (HG5.out.next (by omega)).mono ?_
            rintro e w6 ⟨rfl, G6⟩
            obtain ⟨a, cap, q0, qh⟩ := G6.refs
            have HLEN := Lib.hid G6.lenN
            have HG6 := Lib.hid G6
            have HSM := Lib.hid (show s'.length ≤ 1000000 from Nat.le_trans HSL.out (by omega))
            clear G6
            cases s' with
            | nil =>
              as_aux_lemma =>
                rw [show headE [] = ⟨0, 0⟩ from rfl, show (!([] : List En).isEmpty) = false from rfl]
                rw [show ([] : List En).length = 0 from rfl] at q0 HLEN
                clear qh
                go_wp2_with fail
                go_quiet ((go_at_call 10; exact Calls.quiet_of_same (HLEN.out _)))
                have hb7 : Below w6.heap.size w6 (w6.drewN nq) := ⟨rfl, rfl, rfl, Nat.le_refl _, fun _ _ => rfl⟩
                generalize w6.drewN nq = w7 at hb7 ⊢
                clear q0
                have HG7 := Lib.hid (HG6.out.later hb7)
                clear hb7
                go_wp2_with fail
                refine (HG7.out.at qid wq).mono ?_
                rintro e w8 ⟨rfl, hb8⟩
                have HG8 := Lib.hid (HG7.out.later hb8)
                clear hb8
                obtain ⟨ta, hta⟩ : ∃ ta : Int, (match lookE [] qid with | some e => e.tick | none => 0) = ta := ⟨_, rfl⟩
                obtain ⟨tb, htb⟩ : ∃ tb : Int, (match lookE [] qid with | some _ => 0 | none => 3) = tb := ⟨_, rfl⟩
                have HRA := Lib.hid (HG8.out.rAt qid HSM.out)
                rw [hta, htb] at HRA ⊢
                have haa := bne_self_false ta; have hbb := bne_self_false tb
                clear hta htb
                go_wp2_with fail
                refine HRA.out.mono ?_
                rintro e w9 ⟨rfl, hb9⟩
                have HG9 := Lib.hid (HG8.out.later hb9)
                clear hb9
                go_wp2_with fail
                exact ⟨⟨k + 1, [], by omega, by go_num, Lib.hid ⟨HG9.out, HSL.out⟩⟩, by simp [intOf]; omega⟩
            | cons x1 r1 =>
              as_aux_lemma =>
                rw [show headE (x1 :: r1) = x1 from rfl, show (!(x1 :: r1).isEmpty) = true from rfl]
                obtain ⟨b1, o1, rfl, qh0⟩ := qh x1 r1 rfl
                obtain ⟨m1, hm1⟩ : ∃ m1, (x1 :: r1).length = m1 + 1 := ⟨r1.length, rfl⟩
                rw [hm1] at q0 HLEN
                have hxx := bne_self_false x1.tick
                have hmm := bne_self_false ((m1 : Int) + 1)
                clear qh hm1
                go_wp2_with fail
                go_quiet ((go_at_call 10; exact Calls.quiet_of_same (HLEN.out _)))
                have hb7 : Below w6.heap.size w6 (w6.drewN nq) := ⟨rfl, rfl, rfl, Nat.le_refl _, fun _ _ => rfl⟩
                generalize w6.drewN nq = w7 at hb7 ⊢
                clear q0 qh0 hxx hmm
                have HG7 := Lib.hid (HG6.out.later hb7)
                clear hb7
                go_wp2_with fail
                refine (HG7.out.at qid wq).mono ?_
                rintro e w8 ⟨rfl, hb8⟩
                have HG8 := Lib.hid (HG7.out.later hb8)
                clear hb8
                obtain ⟨ta, hta⟩ : ∃ ta : Int, (match lookE (x1 :: r1) qid with | some e => e.tick | none => 0) = ta := ⟨_, rfl⟩
                obtain ⟨tb, htb⟩ : ∃ tb : Int, (match lookE (x1 :: r1) qid with | some _ => 0 | none => 3) = tb := ⟨_, rfl⟩
                have HRA := Lib.hid (HG8.out.rAt qid HSM.out)
                rw [hta, htb] at HRA ⊢
                have haa := bne_self_false ta; have hbb := bne_self_false tb
                clear hta htb
                go_wp2_with fail
                refine HRA.out.mono ?_
                rintro e w9 ⟨rfl, hb9⟩
                have HG9 := Lib.hid (HG8.out.later hb9)
                clear hb9
                go_wp2_with fail
                exact ⟨⟨k + 1, (x1 :: r1), by omega, by go_num, Lib.hid ⟨HG9.out, HSL.out⟩⟩, by simp [intOf]; omega⟩
    · obtain rfl : k = n := by omega
      have HB := Lib.hid HG.out.1.below
      clear hlt hk
      go_wp2
      go_ret
      exact ⟨rfl, HB.out⟩
end Go.Proofs.Ytnfdobmjfchegaa
