/-
  Two pools of one cluster, side by side.
-/
import Derived.Test.YtdmbjjladkdphaaPoolLaw2
set_option linter.unusedVariables false
set_option linter.unusedSimpArgs false
namespace Go.Proofs.Ytdmbjjladkdphaa
open Go.RowKit Go.Maps
variable {W w w' : World} {p p2 nn : Nat} {A fr fr2 : List Fe} {dr dr2 : List Int} {L : List (Nat × Array Value × TypeId)}

structure P2 (W w : World) (p p2 nn : Nat) (A fr fr2 : List Fe) (dr dr2 : List Int) (L : List (Nat × Array Value × TypeId)) : Prop where
  ex : ∃ T R c M F D T' R' c' M' F' D', PoolAt w p T R c M nn A F D fr dr ∧ PoolAt w p2 T' R' c' M' nn A F' D' fr2 dr2 ∧ (∀ q, PF p T R M F D q → (W.heap.size ≤ q ∧ ∀ x ∈ L, x.1 ≠ q) ∧ ¬ PF p2 T' R' M' F' D' q) ∧ ∀ q, PF p2 T' R' M' F' D' q → W.heap.size ≤ q ∧ ∀ x ∈ L, x.1 ≠ q
  kept : Kept W w L
theorem P2.swap (h : P2 W w p p2 nn A fr fr2 dr dr2 L) : P2 W w p2 p nn A fr2 fr dr2 dr L := by
  obtain ⟨T, R, c, M, F, D, T', R', c', M', F', D', h1, h2, h3, h4⟩ := h.ex
  exact ⟨⟨T', R', c', M', F', D', T, R, c, M, F, D, h2, h1, fun q hq => ⟨h4 q hq, fun e => (h3 q e).2 hq⟩, fun q hq => (h3 q hq).1⟩, h.kept⟩
theorem P2.later (h : P2 W w p p2 nn A fr fr2 dr dr2 L) (hb : Below w.heap.size w w') : P2 W w' p p2 nn A fr fr2 dr dr2 L := by
  obtain ⟨T, R, c, M, F, D, T', R', c', M', F', D', h1, h2, h3, h4⟩ := h.ex
  exact ⟨⟨T, R, c, M, F, D, T', R', c', M', F', D', h1.later hb, h2.later hb, h3, h4⟩, h.kept.later hb⟩
theorem P2.below (h : P2 W w p p2 nn A fr fr2 dr dr2 L) : Below W.heap.size W w := h.kept.below
theorem P2.len (h : P2 W w p p2 nn A fr fr2 dr dr2 L) : fr.length = A.length := by
  obtain ⟨T, R, c, M, F, D, T', R', c', M', F', D', h1, h2, h3, h4⟩ := h.ex
  exact h1.len
theorem P2.sub (h : P2 W w p p2 nn A fr fr2 dr dr2 L) {L' : List (Nat × Array Value × TypeId)} (hL : ∀ x ∈ L', x ∈ L) : P2 W w p p2 nn A fr fr2 dr dr2 L' := by
  obtain ⟨T, R, c, M, F, D, T', R', c', M', F', D', h1, h2, h3, h4⟩ := h.ex
  exact ⟨⟨T, R, c, M, F, D, T', R', c', M', F', D', h1, h2, fun q hq => ⟨⟨(h3 q hq).1.1, fun x hx => (h3 q hq).1.2 x (hL x hx)⟩, (h3 q hq).2⟩, fun q hq => ⟨(h4 q hq).1, fun x hx => (h4 q hq).2 x (hL x hx)⟩⟩, h.kept.weaken hL⟩
theorem P2.add (h : P2 W w p p2 nn A fr fr2 dr dr2 L) {w' : World} (hb : Below w.heap.size w w') {b : Nat} {cs : Array Value} {t : TypeId} (hk : w'.heap[b]? = some (.cells cs t (0, 0))) (hge : w.heap.size ≤ b) : P2 W w' p p2 nn A fr fr2 dr dr2 ((b, cs, t) :: L) := by
  obtain ⟨T, R, c, M, F, D, T', R', c', M', F', D', h1, h2, h3, h4⟩ := h.ex
  refine ⟨⟨T, R, c, M, F, D, T', R', c', M', F', D', h1.later hb, h2.later hb, fun q hq => ⟨⟨(h3 q hq).1.1, fun x hx => ?_⟩, (h3 q hq).2⟩, fun q hq => ⟨(h4 q hq).1, fun x hx => ?_⟩⟩, (h.kept.later hb).below, fun x hx => ?_⟩
  · rcases List.mem_cons.1 hx with rfl | hx
    · have := h1.lt hq; simp only; omega
    · exact (h3 q hq).1.2 x hx
  · rcases List.mem_cons.1 hx with rfl | hx
    · have := h2.lt hq; simp only; omega
    · exact (h4 q hq).2 x hx
  · rcases List.mem_cons.1 hx with rfl | hx
    · exact hk
    · exact (h.kept.later hb).blk x hx
theorem P2.new (h : P2 W w p p2 nn A fr fr2 dr dr2 L) (cs : Array Value) (t : TypeId) : P2 W (w.alloc (.cells cs t)) p p2 nn A fr fr2 dr dr2 ((w.heap.size, cs, t) :: L) :=
  h.add ((Below.refl _ _).alloc (Nat.le_refl _) _) (World.alloc_heap_new _ _) (Nat.le_refl _)
theorem P2.start (h : PK W w p nn A fr dr L) (h2 : PK w w' p2 nn A fr2 dr2 []) : P2 W w' p p2 nn A fr fr2 dr dr2 L := by
  obtain ⟨T, R, c, M, F, D, h1, h3⟩ := h.ex
  obtain ⟨T', R', c', M', F', D', g1, g3⟩ := h2.ex
  have hs := h.kept.size
  refine ⟨⟨T, R, c, M, F, D, T', R', c', M', F', D', h1.later h2.below, g1, fun q hq => ⟨h3 q hq, fun e => ?_⟩, fun q hq => ⟨Nat.le_trans hs (g3 q hq).1, fun x hx e => ?_⟩⟩, h.kept.later h2.below⟩
  · have := h1.lt hq; have := (g3 q e).1; omega
  · have := lt_of_block (h.kept.blk x hx); have := (g3 q hq).1; omega
theorem P2.chg {T R c M F D T' R' c' M' F' D' F0 D0 : Nat} {fr0 : List Fe} {dr0 : List Int} {G : Nat → Prop} (h : P2 W w p p2 nn A fr fr2 dr dr2 L) (h1 : PoolAt w p T R c M nn A F D fr dr) (h2 : PoolAt w p2 T' R' c' M' nn A F' D' fr2 dr2)
    (h3 : ∀ q, PF p T R M F D q → (W.heap.size ≤ q ∧ ∀ x ∈ L, x.1 ≠ q) ∧ ¬ PF p2 T' R' M' F' D' q) (h4 : ∀ q, PF p2 T' R' M' F' D' q → W.heap.size ≤ q ∧ ∀ x ∈ L, x.1 ≠ q)
    (hf : Fr w.heap.size G w w') (hG : ∀ q, G q → PF p T R M F D q) (h5 : PoolAt w' p T R c M nn A F0 D0 fr0 dr0) (hn : ∀ q, PF p T R M F0 D0 q → PF p T R M F D q ∨ w.heap.size ≤ q) : P2 W w' p p2 nn A fr0 fr2 dr0 dr2 L := by
  have hs := h.kept.size
  refine ⟨⟨T, R, c, M, F0, D0, T', R', c', M', F', D', h5, h2.frame fun q hq => hf.block q (h2.lt hq) fun e => (h3 q (hG q e)).2 hq, fun q hq => ?_, h4⟩, h.kept.chg hf fun q hq => (h3 q (hG q hq)).1⟩
  rcases hn q hq with e | e
  · exact h3 q e
  · exact ⟨⟨by omega, fun x hx => by have := lt_of_block (h.kept.blk x hx); omega⟩, fun e2 => by have := h2.lt e2; omega⟩
theorem P2.each {r : Int × List Fe} {T R c M F D T' R' c' M' F' D' : Nat} {e : Ending} (h : P2 W w p p2 nn A fr fr2 dr dr2 L) (h1 : PoolAt w p T R c M nn A F D fr dr) (h2 : PoolAt w p2 T' R' c' M' nn A F' D' fr2 dr2)
    (h3 : ∀ q, PF p T R M F D q → (W.heap.size ≤ q ∧ ∀ x ∈ L, x.1 ≠ q) ∧ ¬ PF p2 T' R' M' F' D' q) (h4 : ∀ q, PF p2 T' R' M' F' D' q → W.heap.size ≤ q ∧ ∀ x ∈ L, x.1 ≠ q) (hp : EachPost p T R c M nn A F D dr r w e w') :
    e = .returned (.int .i64 r.1) ∧ P2 W w' p p2 nn A r.2 fr2 dr dr2 L := by
  obtain ⟨he, F0, h5, hf, hF0⟩ := hp
  refine ⟨he, h.chg h1 h2 h3 h4 hf (fun q hq => hq.elim (fun e => .inl (.inl e)) fun e => .inl (.inr (.inl e))) h5 fun q hq => ?_⟩
  rcases hq with (hq | hq | hq) | hq
  · exact .inl (.inl (.inl hq))
  · rcases hF0 with e | e
    · exact .inl (.inl (.inr (.inl (hq.trans e))))
    · exact .inr (by omega)
  · exact .inl (.inl (.inr (.inr hq)))
  · exact .inl (.inr hq)
theorem P2.own {v : Value} {xs : List Sl} (hb : ∀ q, v.ownBlock = some q → xs ≠ [] → (q < W.heap.size) ∨ ∃ x ∈ L, x.1 = q) {T R M F D : Nat} (h : P2 W w p p2 nn A fr fr2 dr dr2 L) (h2 : ∀ q, PF p T R M F D q → W.heap.size ≤ q ∧ ∀ x ∈ L, x.1 ≠ q) : ∀ q, v.ownBlock = some q → xs ≠ [] → q < w.heap.size ∧ ¬ q = F := fun q hq hn => by
  have hF := h2 F (.inl (.inr (.inl rfl)))
  rcases hb q hq hn with e | ⟨x, hx, rfl⟩
  · have := h.kept.size
    exact ⟨by omega, by omega⟩
  · exact ⟨lt_of_block (h.kept.blk x hx), hF.2 x hx⟩
theorem P2.take (h : P2 W w p p2 nn A fr fr2 dr dr2 L) {v : Value} {xs : List Sl} (hs : SlRow w v xs) (hv : ∀ q, v.ownBlock = some q → xs ≠ [] → (q < W.heap.size) ∨ ∃ x ∈ L, x.1 = q) (hok : ∀ s ∈ xs, SlOk s) (hl : A.length ≤ 1000000) :
    Calls Try.prog 14 #[.pointer (some ⟨p, 0, none⟩), v] w fun e w' => e = .returned (.int .i64 (eachF (opT dr) A fr xs).1) ∧ P2 W w' p p2 nn A (eachF (opT dr) A fr xs).2 fr2 dr dr2 L := by
  obtain ⟨T, R, c, M, F, D, T', R', c', M', F', D', h1, h2, h3, h4⟩ := h.ex
  exact (take_any h1 v xs hs (P2.own (xs := xs) hv h fun q hq => (h3 q hq).1) hok (by rw [h.len]; exact hl)).mono fun e w' hp => h.each h1 h2 h3 h4 hp
theorem P2.give (h : P2 W w p p2 nn A fr fr2 dr dr2 L) {v : Value} {xs : List Sl} (hs : SlRow w v xs) (hv : ∀ q, v.ownBlock = some q → xs ≠ [] → (q < W.heap.size) ∨ ∃ x ∈ L, x.1 = q) (hok : ∀ s ∈ xs, SlOk s) (hl : A.length ≤ 1000000) :
    Calls Try.prog 21 #[.pointer (some ⟨p, 0, none⟩), v] w fun e w' => e = .returned (.int .i64 (eachF (opG A) A fr xs).1) ∧ P2 W w' p p2 nn A (eachF (opG A) A fr xs).2 fr2 dr dr2 L := by
  obtain ⟨T, R, c, M, F, D, T', R', c', M', F', D', h1, h2, h3, h4⟩ := h.ex
  exact (give_any h1 v xs hs (P2.own (xs := xs) hv h fun q hq => (h3 q hq).1) hok (by rw [h.len]; exact hl)).mono fun e w' hp => h.each h1 h2 h3 h4 hp
theorem P2.drain (h : P2 W w p p2 nn A fr fr2 dr dr2 L) (n : Int) (hn : okInt n) : Calls Try.prog 19 #[.pointer (some ⟨p, 0, none⟩), .int .i64 n] w fun e w' => e = .returned (.int .i64 (drainF nn dr n).1) ∧ P2 W w' p p2 nn A fr fr2 (drainF nn dr n).2 dr2 L := by
  obtain ⟨T, R, c, M, F, D, T', R', c', M', F', D', h1, h2, h3, h4⟩ := h.ex
  exact (drain_any h1 n hn).mono fun e w' hp => ⟨hp.1, h.chg h1 h2 h3 h4 hp.2.2 (fun q hq => .inl (.inr (.inr hq))) hp.2.1 fun q hq => .inl hq⟩
theorem P2.undrain (h : P2 W w p p2 nn A fr fr2 dr dr2 L) (n : Int) (hn : okInt n) : Calls Try.prog 17 #[.pointer (some ⟨p, 0, none⟩), .int .i64 n] w fun e w' => e = .returned (.int .i64 (undrainF nn dr n).1) ∧ P2 W w' p p2 nn A fr fr2 (undrainF nn dr n).2 dr2 L := by
  obtain ⟨T, R, c, M, F, D, T', R', c', M', F', D', h1, h2, h3, h4⟩ := h.ex
  exact (undrain_any h1 n hn).mono fun e w' hp => ⟨hp.1, h.chg h1 h2 h3 h4 hp.2.2 (fun q hq => .inl (.inr (.inr hq))) hp.2.1 fun q hq => .inl hq⟩
theorem P2.free (h : P2 W w p p2 nn A fr fr2 dr dr2 L) (hl : A.length ≤ 1000000) :
    Calls Try.prog 15 #[.pointer (some ⟨p, 0, none⟩)] w fun e w' => e = .returned (.slice (some ⟨w.heap.size, 0, none⟩) A.length A.length) ∧ P2 W w' p p2 nn A fr fr2 dr dr2 ((w.heap.size, (fr.flatMap Fe.cells).toArray, 45) :: L) ∧ Below w.heap.size w w' := by
  obtain ⟨T, R, c, M, F, D, T', R', c', M', F', D', h1, h2, h3, h4⟩ := h.ex
  have e := h.len
  refine (free_any h1 (by rw [e]; exact hl)).mono fun e' w' ⟨he, hk, hb⟩ => ⟨by rw [he, e], h.add hb hk (Nat.le_refl _), hb⟩
theorem P2.takeOne (h : P2 W w p p2 nn A fr fr2 dr dr2 L) (s : Sl) (hs : SlOk s) {b : Nat} {t : TypeId} (hb : (b, #[.int .i64 s.spot.node, .int .i64 s.spot.domain, .int .u64 s.mask, .int .i64 s.cpus], t) ∈ L) (hl : A.length ≤ 1000000) :
    Calls Try.prog 14 #[.pointer (some ⟨p, 0, none⟩), .slice (some ⟨b, 0, none⟩) 1 1] w fun e w' => e = .returned (.int .i64 (eachF (opT dr) A fr [s]).1) ∧ P2 W w' p p2 nn A (eachF (opT dr) A fr [s]).2 fr2 dr dr2 L :=
  h.take (slRow_one (h.kept.blk _ hb)) (fun q hq _ => .inr ⟨_, hb, by simpa [Value.ownBlock] using hq⟩) (by simpa using hs) hl
set_option maxHeartbeats 1000000 in
theorem P2.do (h : P2 W w p p2 nn A fr fr2 dr dr2 L) (a : Ac3) (hw : a.wf) (u : Value) (s : Rd.SliceOf W u 4 Sl.cells a.slots) (hl : A.length ≤ 1000000) :
    Calls Try.prog 13 #[.pointer (some ⟨p, 0, none⟩), .agg #[.int .i64 a.kind, .int .i64 a.node, u]] w (fun e w' => e = .returned (.int .i64 (doP nn A (fr, dr) a).1) ∧ P2 W w' p p2 nn A (doP nn A (fr, dr) a).2.1 fr2 (doP nn A (fr, dr) a).2.2 dr2 L) := by
  have h1 := h.new #[.int .i64 a.kind, .int .i64 a.node, u] 36
  have hok : ∀ s ∈ a.slots, SlOk s := fun s hs => Sl.ok (hw.2 s hs)
  have hnd := hw.1
  have hs1 := SlRow.of (s.later h1.below)
  have HT := Lib.hid (h1.take hs1 (slots_own s) hok hl)
  have HG := Lib.hid (h1.give hs1 (slots_own s) hok hl)
  have HDR := Lib.hid (h1.drain a.node hnd)
  have HUN := Lib.hid (h1.undrain a.node hnd)
  obtain ⟨au, capu, rfl⟩ := s.form
  obtain ⟨m, hm⟩ : ∃ m, a.slots.length = m := ⟨_, rfl⟩
  rw [hm] at HT HG HDR HUN ⊢
  clear h h1 hok hnd hs1 s hw hm
  by_cases h0 : a.kind = 0
  · have HD := Lib.hid (show doP nn A (fr, dr) a = ((eachF (opT dr) A fr a.slots).1, (eachF (opT dr) A fr a.slots).2, dr) by unfold doP; rw [if_pos h0])
    rw [HD.out]
    have hk0 : (a.kind == 0) = true := by simpa using h0
    clear h0
    go_enter Try.func13, Try.ntmps13
    go_wp2_with fail
    refine HT.out.mono ?_
    rintro e w1 ⟨rfl, hp⟩
    have HP := Lib.hid hp
    clear hp
    go_wp2
    go_ret
    exact ⟨rfl, HP.out.sub fun x hx => List.mem_cons_of_mem _ hx⟩
  by_cases h1 : a.kind = 1
  · have HD := Lib.hid (show doP nn A (fr, dr) a = ((eachF (opG A) A fr a.slots).1, (eachF (opG A) A fr a.slots).2, dr) by unfold doP; rw [if_neg h0, if_pos h1])
    rw [HD.out]
    have hk0 : (a.kind == 0) = false := by simpa using h0
    have hk1 : (a.kind == 1) = true := by simpa using h1
    clear h0 h1
    go_enter Try.func13, Try.ntmps13
    go_wp2_with fail
    refine HG.out.mono ?_
    rintro e w1 ⟨rfl, hp⟩
    have HP := Lib.hid hp
    clear hp
    go_wp2
    go_ret
    exact ⟨rfl, HP.out.sub fun x hx => List.mem_cons_of_mem _ hx⟩
  by_cases h2 : a.kind = 2
  · have HD := Lib.hid (show doP nn A (fr, dr) a = ((drainF nn dr a.node).1, fr, (drainF nn dr a.node).2) by unfold doP; rw [if_neg h0, if_neg h1, if_pos h2])
    rw [HD.out]
    have hk0 : (a.kind == 0) = false := by simpa using h0
    have hk1 : (a.kind == 1) = false := by simpa using h1
    have hk2 : (a.kind == 2) = true := by simpa using h2
    clear h0 h1 h2
    go_enter Try.func13, Try.ntmps13
    go_wp2_with fail
    refine HDR.out.mono ?_
    rintro e w1 ⟨rfl, hp⟩
    have HP := Lib.hid hp
    clear hp
    go_wp2
    go_ret
    exact ⟨rfl, HP.out.sub fun x hx => List.mem_cons_of_mem _ hx⟩
  · have HD := Lib.hid (show doP nn A (fr, dr) a = ((undrainF nn dr a.node).1, fr, (undrainF nn dr a.node).2) by unfold doP; rw [if_neg h0, if_neg h1, if_neg h2])
    rw [HD.out]
    have hk0 : (a.kind == 0) = false := by simpa using h0
    have hk1 : (a.kind == 1) = false := by simpa using h1
    have hk2 : (a.kind == 2) = false := by simpa using h2
    clear h0 h1 h2
    go_enter Try.func13, Try.ntmps13
    go_wp2_with fail
    refine HUN.out.mono ?_
    rintro e w1 ⟨rfl, hp⟩
    have HP := Lib.hid hp
    clear hp
    go_wp2
    go_ret
    exact ⟨rfl, HP.out.sub fun x hx => List.mem_cons_of_mem _ hx⟩

theorem eachGo_stop {op : Nat → Fe → Sl → Int × Fe} {A fr nx : List Fe} {s : Sl} {r : List Sl} {g : Int} (h : oneF op A fr s = (g, nx)) (hg : g ≠ 0) : eachGo op A fr (s :: r) = (g, nx) := by
  unfold eachGo; rw [h]; simp [hg]
theorem eachF_stop {op : Nat → Fe → Sl → Int × Fe} {A fr nx : List Fe} {s : Sl} {r : List Sl} {g : Int} (h : oneF op A fr s = (g, nx)) (hg : g ≠ 0) : eachF op A fr (s :: r) = (g, fr) := by
  unfold eachF; rw [eachGo_stop h hg]; simp [hg]
/-- one slot taken: what it leaves, spot by spot -/
theorem one_spot {A fr fr1 : List Fe} {dr : List Int} {s : Sl} (h : PInv A fr) (ht : oneF (opT dr) A fr s = (0, fr1)) {k : Nat} {f g : Fe} (hf : fr[k]? = some f) (hg : fr1[k]? = some g) : g.spot = s.spot ∨ g = f := by
  obtain ⟨hc, j, f0, f', hj, hf0, hop, rfl⟩ := oneF_ok ht
  by_cases e : j = k
  · subst e
    rw [hf0] at hf; cases hf
    have hlt := (List.getElem?_eq_some_iff.1 hf0).1
    rw [List.getElem?_set_self hlt] at hg
    cases hg
    obtain ⟨_, _, _, rfl⟩ := takeF_ok hop
    obtain ⟨hk, hs⟩ := posF_some hj
    exact .inl (((h.at_ j A[j] _ (List.getElem?_eq_getElem hk) hf0).spot).trans hs)
  · rw [List.getElem?_set_ne e, hf] at hg
    cases hg
    exact .inr rfl
end Go.Proofs.Ytdmbjjladkdphaa
