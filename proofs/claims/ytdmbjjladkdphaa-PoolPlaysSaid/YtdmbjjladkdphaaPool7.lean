/-
  The pool's New; a pool and the blocks of a law, kept together: the calls restated.
-/
import Derived.Test.YtdmbjjladkdphaaPool6
import Derived.Test.YtdmbjjladkdphaaPoolRead
import Derived.Test.YtdmbjjladkdphaaTopoRef2
set_option linter.unusedVariables false
set_option linter.unusedSimpArgs false
namespace Go.Proofs.Ytdmbjjladkdphaa
open Go.RowKit Go.Maps

set_option maxHeartbeats 1000000 in
theorem allX_any (p R cap M nn : Nat) (L : List Fe) (w : World) (h : TopoAt w p R cap M nn L) (hl : L.length ≤ 1000000) :
    Calls Try.prog 30 #[.pointer (some ⟨p, 0, none⟩)] w fun e w' => e = .returned (.slice (some ⟨w.heap.size, 0, none⟩) L.length L.length) ∧ w'.heap[w.heap.size]? = some (.cells (L.flatMap Fe.cells).toArray 45 (0, 0)) ∧ Below w.heap.size w w' := by
  have c0 : w.cell? ⟨p, 0, none⟩ = some (.slice (some ⟨R, 0, none⟩) L.length cap) := cell_of_block h.head 0
  obtain ⟨n, hn⟩ : ∃ n, L.length = n := ⟨_, rfl⟩
  have HN := Lib.hid hn; have H := Lib.hid h
  have lp := h.lt.1
  rw [hn] at c0 hl
  have hmk := fun w : World => run_make_zero (w := w) n hl
  have hsrc : ∀ (j : Nat) (u : Value), (L.flatMap Fe.cells)[j]? = some u → (w.alloc (.cells (madeCells #[.int .i64 0, .int .i64 0, .int .u64 0, .int .i64 0] (n * 4)) 45)).cell? ((⟨R, 0, none⟩ : Addr).add j) = some u := fun j u hu => by
    obtain ⟨cs, h1, h2, h3, h4⟩ := (H.out.later ((Below.refl w.heap.size w).alloc (Nat.le_refl _) (.cells (madeCells #[.int .i64 0, .int .i64 0, .int .u64 0, .int .i64 0] (n * 4)) 45))).row
    have hadd : (⟨R, 0, none⟩ : Addr).add j = ⟨R, j, none⟩ := by
      unfold Addr.add
      split
      · rename_i e'; rw [e']
      · simp
    rw [hadd, cell_of_block h1]
    have hj : j < L.length * 4 := by have := (List.getElem?_eq_some_iff.1 hu).1; rwa [flat_len] at this
    rw [← h4, List.getElem?_take, if_pos hj, Array.getElem?_toList] at hu
    exact hu
  have HR := Lib.hid (run_copy_all (P := Try.prog) (w.alloc (.cells (madeCells #[.int .i64 0, .int .i64 0, .int .u64 0, .int .i64 0] (n * 4)) 45)) 38 3 45 4 w.heap.size n ⟨R, 0, none⟩ cap _ 45 (L.flatMap Fe.cells) Try.underlying38 (by kernel_rfl) (World.alloc_heap_new w _)
    (by rw [flat_len, hn]) (by rw [flat_len, hn, size_madeCells]) hsrc (fe_one L))
  clear h hn hsrc
  go_enter Try.func30, Try.ntmps30
  go_wp2_with (refine Lib.wpList_copy_run _ rfl _ _ 38 38 rfl (.slice (some ⟨w.heap.size, 0, none⟩) n n) (.slice (some ⟨R, 0, none⟩) n cap) rfl rfl HR.out ?_)
  go_wp2
  go_ret
  exact ⟨by rw [HN.out]; rfl, setRow_block (cs := (L.flatMap Fe.cells).toArray) (World.alloc_heap_new w (.cells (madeCells #[.int .i64 0, .int .i64 0, .int .u64 0, .int .i64 0] (n * 4)) 45)), bw_setRow (bw_alloc (Below.refl _ _)) (Nat.le_refl _)⟩

/-- The pool p, with all its blocks, apart from a law's blocks L. -/
structure PK (W w : World) (p nn : Nat) (A fr : List Fe) (dr : List Int) (L : List (Nat × Array Value × TypeId)) : Prop where
  ex : ∃ T R cap M F D, PoolAt w p T R cap M nn A F D fr dr ∧ ∀ q, PF p T R M F D q → W.heap.size ≤ q ∧ ∀ x ∈ L, x.1 ≠ q
  kept : Kept W w L
variable {W w w' : World} {p nn : Nat} {A fr : List Fe} {dr : List Int} {L : List (Nat × Array Value × TypeId)}
theorem PK.later (h : PK W w p nn A fr dr L) (hb : Below w.heap.size w w') : PK W w' p nn A fr dr L := by
  obtain ⟨T, R, cap, M, F, D, h1, h2⟩ := h.ex
  exact ⟨⟨T, R, cap, M, F, D, h1.later hb, h2⟩, h.kept.later hb⟩
theorem PK.drew (h : PK W w p nn A fr dr L) : PK W w.drew p nn A fr dr L := h.later (Below.refl _ _).drew
theorem PK.below (h : PK W w p nn A fr dr L) : Below W.heap.size W w := h.kept.below
theorem PK.len (h : PK W w p nn A fr dr L) : fr.length = A.length := by obtain ⟨T, R, cap, M, F, D, h1, h2⟩ := h.ex; exact h1.len
theorem PK.lt (h : PK W w p nn A fr dr L) : p < w.heap.size := by obtain ⟨T, R, cap, M, F, D, h1, h2⟩ := h.ex; exact h1.lt (.inl (.inl rfl))
theorem PK.sub (h : PK W w p nn A fr dr L) {L' : List (Nat × Array Value × TypeId)} (hL : ∀ x ∈ L', x ∈ L) : PK W w p nn A fr dr L' := by
  obtain ⟨T, R, cap, M, F, D, h1, h2⟩ := h.ex
  exact ⟨⟨T, R, cap, M, F, D, h1, fun q hq => ⟨(h2 q hq).1, fun x hx => (h2 q hq).2 x (hL x hx)⟩⟩, h.kept.weaken hL⟩
theorem PK.add (h : PK W w p nn A fr dr L) {w' : World} (hb : Below w.heap.size w w') {b : Nat} {cs : Array Value} {t : TypeId} (hk : w'.heap[b]? = some (.cells cs t (0, 0))) (hge : w.heap.size ≤ b) : PK W w' p nn A fr dr ((b, cs, t) :: L) := by
  obtain ⟨T, R, cap, M, F, D, h1, h2⟩ := h.ex
  refine ⟨⟨T, R, cap, M, F, D, h1.later hb, fun q hq => ⟨(h2 q hq).1, fun x hx => ?_⟩⟩, (h.kept.later hb).below, fun x hx => ?_⟩
  · rcases List.mem_cons.1 hx with rfl | hx
    · have := h1.lt hq; simp only; omega
    · exact (h2 q hq).2 x hx
  · rcases List.mem_cons.1 hx with rfl | hx
    · exact hk
    · exact (h.kept.later hb).blk x hx
theorem PK.new (h : PK W w p nn A fr dr L) (cs : Array Value) (t : TypeId) : PK W (w.alloc (.cells cs t)) p nn A fr dr ((w.heap.size, cs, t) :: L) :=
  h.add ((Below.refl _ _).alloc (Nat.le_refl _) _) (World.alloc_heap_new _ _) (Nat.le_refl _)
theorem PK.over {b : Nat} {cs cs' : Array Value} {t : TypeId} (h : PK W w p nn A fr dr ((b, cs, t) :: L)) (hf : Fr w.heap.size (fun q => q = b) w w') (hb' : w'.heap[b]? = some (.cells cs' t (0, 0))) (hb : W.heap.size ≤ b) (hn : ∀ x ∈ L, x.1 ≠ b) : PK W w' p nn A fr dr ((b, cs', t) :: L) := by
  obtain ⟨T, R, cap, M, F, D, h1, h2⟩ := h.ex
  refine ⟨⟨T, R, cap, M, F, D, h1.frame fun q hq => hf.block q (h1.lt hq) (fun e => (h2 q hq).2 _ (List.mem_cons_self ..) e.symm), fun q hq => ⟨(h2 q hq).1, fun x hx => ?_⟩⟩, ?_, fun x hx => ?_⟩
  · rcases List.mem_cons.1 hx with rfl | hx
    · have h3 := (h2 q hq).2 (b, cs, t) (List.mem_cons_self ..)
      exact h3
    · exact (h2 q hq).2 x (List.mem_cons_of_mem _ hx)
  · exact h.below.trans ((hf.mono h.below.size fun _ _ e => e).below (Nat.le_refl _) fun q hq => by omega)
  · rcases List.mem_cons.1 hx with rfl | hx
    · exact hb'
    · have := h.kept.blk x (List.mem_cons_of_mem _ hx)
      exact (hf.block _ (lt_of_block this) (hn x hx)).trans this
/-- where two worlds agree but for some of the pool's blocks -/
theorem Kept.chg {w0 w w1 : World} {L : List (Nat × Array Value × TypeId)} {F : Nat → Prop} (h : Kept w0 w L) (hf : Fr w.heap.size F w w1) (hF : ∀ q, F q → w0.heap.size ≤ q ∧ ∀ x ∈ L, x.1 ≠ q) : Kept w0 w1 L :=
  ⟨h.below.trans ((hf.mono h.size fun _ _ e => e).below (Nat.le_refl _) fun q hq => (hF q hq).1), fun x hx => (hf.block _ (lt_of_block (h.blk x hx)) fun e => (hF _ e).2 x hx rfl).trans (h.blk x hx)⟩
theorem PK.each {dr' : List Int} {r : Int × List Fe} {T R cap M F D : Nat} {e : Ending} (h : PK W w p nn A fr dr L) (h1 : PoolAt w p T R cap M nn A F D fr dr) (h2 : ∀ q, PF p T R M F D q → W.heap.size ≤ q ∧ ∀ x ∈ L, x.1 ≠ q) (hp : EachPost p T R cap M nn A F D dr r w e w') :
    e = .returned (.int .i64 r.1) ∧ PK W w' p nn A r.2 dr L := by
  obtain ⟨he, F', h3, hf, hF'⟩ := hp
  have hs := h.kept.size
  refine ⟨he, ⟨T, R, cap, M, F', D, h3, fun q hq => ?_⟩, h.kept.chg hf fun q hq => h2 q (hq.elim (fun e => .inl (.inl e)) fun e => .inl (.inr (.inl e)))⟩
  have new : w.heap.size ≤ q → W.heap.size ≤ q ∧ ∀ x ∈ L, x.1 ≠ q := fun hq => ⟨by omega, fun x hx => by have := lt_of_block (h.kept.blk x hx); omega⟩
  rcases hq with (hq | hq | hq) | hq
  · exact h2 q (.inl (.inl hq))
  · rcases hF' with e | e
    · exact h2 q (.inl (.inr (.inl (hq.trans e))))
    · exact new (by omega)
  · exact h2 q (.inl (.inr (.inr hq)))
  · exact h2 q (.inr hq)
theorem SlRow.owner {v : Value} {xs : List Sl} (hb : ∀ q, v.ownBlock = some q → xs ≠ [] → (q < W.heap.size) ∨ ∃ x ∈ L, x.1 = q) {T R M F D : Nat} (h : PK W w p nn A fr dr L) (h2 : ∀ q, PF p T R M F D q → W.heap.size ≤ q ∧ ∀ x ∈ L, x.1 ≠ q) : ∀ q, v.ownBlock = some q → xs ≠ [] → q < w.heap.size ∧ ¬ q = F := fun q hq hn => by
  have hF := h2 F (.inl (.inr (.inl rfl)))
  rcases hb q hq hn with e | ⟨x, hx, rfl⟩
  · have := h.kept.size
    exact ⟨by omega, by omega⟩
  · exact ⟨lt_of_block (h.kept.blk x hx), hF.2 x hx⟩
theorem PK.take (h : PK W w p nn A fr dr L) {v : Value} {xs : List Sl} (hs : SlRow w v xs) (hv : ∀ q, v.ownBlock = some q → xs ≠ [] → (q < W.heap.size) ∨ ∃ x ∈ L, x.1 = q) (hok : ∀ s ∈ xs, SlOk s) (hl : A.length ≤ 1000000) :
    Calls Try.prog 14 #[.pointer (some ⟨p, 0, none⟩), v] w fun e w' => e = .returned (.int .i64 (eachF (opT dr) A fr xs).1) ∧ PK W w' p nn A (eachF (opT dr) A fr xs).2 dr L := by
  obtain ⟨T, R, cap, M, F, D, h1, h2⟩ := h.ex
  exact (take_any h1 v xs hs (SlRow.owner (xs := xs) hv h h2) hok (by rw [h.len]; exact hl)).mono fun e w' hp => h.each (dr' := dr) h1 h2 hp
theorem PK.give (h : PK W w p nn A fr dr L) {v : Value} {xs : List Sl} (hs : SlRow w v xs) (hv : ∀ q, v.ownBlock = some q → xs ≠ [] → (q < W.heap.size) ∨ ∃ x ∈ L, x.1 = q) (hok : ∀ s ∈ xs, SlOk s) (hl : A.length ≤ 1000000) : Calls Try.prog 21 #[.pointer (some ⟨p, 0, none⟩), v] w fun e w' => e = .returned (.int .i64 (eachF (opG A) A fr xs).1) ∧ PK W w' p nn A (eachF (opG A) A fr xs).2 dr L := by
  obtain ⟨T, R, cap, M, F, D, h1, h2⟩ := h.ex
  exact (give_any h1 v xs hs (SlRow.owner (xs := xs) hv h h2) hok (by rw [h.len]; exact hl)).mono fun e w' hp => h.each (dr' := dr) h1 h2 hp
theorem PK.turn {r : Int × List Int} {T R cap M F D : Nat} {e : Ending} (h : PK W w p nn A fr dr L) (h2 : ∀ q, PF p T R M F D q → W.heap.size ≤ q ∧ ∀ x ∈ L, x.1 ≠ q) (hp : TurnPost p T R cap M nn A F D fr r w e w') :
    e = .returned (.int .i64 r.1) ∧ PK W w' p nn A fr r.2 L :=
  ⟨hp.1, ⟨T, R, cap, M, F, D, hp.2.1, h2⟩, h.kept.chg hp.2.2 fun q hq => h2 q (.inl (.inr (.inr hq)))⟩
theorem PK.drain (h : PK W w p nn A fr dr L) (n : Int) (hn : okInt n) : Calls Try.prog 19 #[.pointer (some ⟨p, 0, none⟩), .int .i64 n] w fun e w' => e = .returned (.int .i64 (drainF nn dr n).1) ∧ PK W w' p nn A fr (drainF nn dr n).2 L := by
  obtain ⟨T, R, cap, M, F, D, h1, h2⟩ := h.ex
  exact (drain_any h1 n hn).mono fun e w' hp => h.turn h2 hp
theorem PK.undrain (h : PK W w p nn A fr dr L) (n : Int) (hn : okInt n) : Calls Try.prog 17 #[.pointer (some ⟨p, 0, none⟩), .int .i64 n] w fun e w' => e = .returned (.int .i64 (undrainF nn dr n).1) ∧ PK W w' p nn A fr (undrainF nn dr n).2 L := by
  obtain ⟨T, R, cap, M, F, D, h1, h2⟩ := h.ex
  exact (undrain_any h1 n hn).mono fun e w' hp => h.turn h2 hp
theorem PK.drained (h : PK W w p nn A fr dr L) (n : Int) (hn : okInt n) : Calls Try.prog 20 #[.pointer (some ⟨p, 0, none⟩), .int .i64 n] w fun e w' => e = .returned (.bool (decide (n ∈ dr))) ∧ w' = w := by
  obtain ⟨T, R, cap, M, F, D, h1, h2⟩ := h.ex
  exact drained_any h1 n hn
theorem PK.free (h : PK W w p nn A fr dr L) (hl : A.length ≤ 1000000) :
    Calls Try.prog 15 #[.pointer (some ⟨p, 0, none⟩)] w fun e w' => e = .returned (.slice (some ⟨w.heap.size, 0, none⟩) A.length A.length) ∧ PK W w' p nn A fr dr ((w.heap.size, (fr.flatMap Fe.cells).toArray, 45) :: L) ∧ Below w.heap.size w w' := by
  obtain ⟨T, R, cap, M, F, D, h1, h2⟩ := h.ex
  have e := h.len
  refine (free_any h1 (by rw [e]; exact hl)).mono fun e' w' ⟨he, hk, hb⟩ => ⟨by rw [he, e], h.add hb hk (Nat.le_refl _), hb⟩
theorem PK.view (h : PK W w p nn A fr dr L) (hl : A.length ≤ 1000000) (hsp : ∀ f ∈ fr, SpOk f.spot) :
    Calls Try.prog 18 #[.pointer (some ⟨p, 0, none⟩)] w fun e w' => ∃ v, e = .returned v ∧ Made w w' v 4 Fe.cells (viewF fr dr) ∧ Below w.heap.size w w' := by
  obtain ⟨T, R, cap, M, F, D, h1, h2⟩ := h.ex
  exact view_any h1 (by rw [h.len]; exact hl) hsp
theorem PK.out (h : PK W w p nn A fr dr L) (hl : A.length ≤ 1000) (hokA : ∀ f ∈ A, FeOk f) (hok : ∀ f ∈ fr, FeOk f) :
    Calls Try.prog 22 #[.pointer (some ⟨p, 0, none⟩)] w fun e w' => e = .returned (.agg #[.int .i64 (gsum A - gsum fr), .int .i64 (csum A - csum fr)]) ∧ Below w.heap.size w w' := by
  obtain ⟨T, R, cap, M, F, D, h1, h2⟩ := h.ex
  exact out_any h1 hl hokA hok

def PNew (W : World) (L : List (Nat × Array Value × TypeId)) (ns : List (List Dm)) (e : Ending) (w' : World) : Prop :=
  (nodesOk ns = false ∧ e = .returned (.tuple #[.pointer none, .int .i64 1]) ∧ Kept W w' L) ∨
  (nodesOk ns = true ∧ ∃ p, e = .returned (.tuple #[.pointer (some ⟨p, 0, none⟩), .int .i64 0]) ∧ PK W w' p ns.length (allG 0 ns) (allG 0 ns) [] L)
set_option maxHeartbeats 1000000 in
theorem pnew_any (v : Value) (ns : List (List Dm)) (w : World) (s : NodesOf w v ns) (hK : Kept W w L) (hl : (allG 0 ns).length ≤ 1000000) : Calls Try.prog 12 #[.agg #[v]] w (PNew W L ns) := by
  have hmm := @run_makeMap Try.prog
  have b0 := (Below.refl w.heap.size w).alloc (Nat.le_refl _) (.cells #[v] 24)
  have hT := topoNew_any v ns _ (s.later b0)
  obtain ⟨a, cap, rfl⟩ := s.form
  have HT := Lib.hid hT; have HB := Lib.hid b0; have HK := Lib.hid hK
  clear s hT b0 hK
  go_enter Try.func12, Try.ntmps12
  go_wp2_with fail
  refine HT.out.mono ?_
  rintro e w1 hp
  unfold NewPost at hp
  obtain ⟨hok, rfl, hb1⟩ | ⟨hok, T, R, cp, M, rfl, hTA, h1, h2, h3, hb1⟩ := hp
  · have HB1 := Lib.hid (HB.out.trans (hb1.mono HB.out.size))
    have HOK := Lib.hid hok
    clear hb1 hok
    go_wp2
    refine bodyPost_ret (results_tmp2 rfl _ _ _) rfl ?_
    exact .inl ⟨HOK.out, rfl, HK.out.later HB1.out⟩
  · have HB1 := Lib.hid (HB.out.trans (hb1.mono HB.out.size))
    have hsz := HB.out.size
    have HTA := Lib.hid hTA; have HOK := Lib.hid hok
    have H1 := Lib.hid (Nat.le_trans hsz h1); have H2 := Lib.hid (Nat.le_trans hsz h2); have H3 := Lib.hid (Nat.le_trans hsz h3)
    clear hb1 hok hTA hsz h1 h2 h3
    go_wp2_with fail
    refine (allX_any T R cp M ns.length _ w1 HTA.out hl).mono ?_
    rintro e w2 ⟨rfl, hk2, hb2⟩
    have HB2 := Lib.hid (HB1.out.trans (hb2.mono HB1.out.size))
    have HTA2 := Lib.hid (HTA.out.later hb2)
    have HK2 := Lib.hid hk2
    have hF := lt_of_block hk2
    clear hb2 hk2
    go_wp2_with fail
    refine bodyPost_ret (results_tmp2 rfl _ _ _) rfl ?_
    have hb3 := (Below.refl w2.heap.size w2).alloc (Nat.le_refl _) (.map #[] 0)
    have hb4 := hb3.alloc hb3.size (.cells #[.pointer (some ⟨T, 0, none⟩), .slice (some ⟨w1.heap.size, 0, none⟩) (allG 0 ns).length (allG 0 ns).length, .map (some w2.heap.size)] 75)
    have lt := HTA.out.lt
    have hs1 := HB1.out.size
    have hsW := HK.out.size
    have g1 := H1.out; have g2 := H2.out; have g3 := H3.out
    have hkl := fun x hx => lt_of_block (HK.out.blk x hx)
    have hs2 := HB2.out.size
    refine .inr ⟨HOK.out, w2.heap.size + 1, by simp, ⟨T, R, cp, M, w1.heap.size, w2.heap.size, ⟨alloc2_new _ _ _, HTA2.out.later hb4, (hb4.block _ hF).trans HK2.out, ⟨#[], 0, alloc_other (World.alloc_heap_new _ _), Mp.Ents.nil⟩, ⟨⟨by omega, by omega, by omega⟩, ⟨by omega, by omega, by omega⟩, ⟨by omega, by omega, by omega⟩, by omega, by omega, by omega⟩, rfl⟩, fun q hq => ?_⟩, HK.out.later (HB2.out.trans (hb4.mono HB2.out.size))⟩
    have hge : w.heap.size ≤ q := by
      rcases hq with (rfl | rfl | rfl) | rfl | rfl | rfl <;> omega
    exact ⟨by omega, fun x hx => by have := hkl x hx; omega⟩
end Go.Proofs.Ytdmbjjladkdphaa
