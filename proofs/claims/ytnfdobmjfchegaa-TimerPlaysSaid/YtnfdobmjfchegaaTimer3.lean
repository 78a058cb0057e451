/-
  timer: push and pop.
-/
import Derived.Test.YtnfdobmjfchegaaTimer2
set_option linter.unusedVariables false
set_option linter.unusedSimpArgs false
namespace Go.Proofs.Ytnfdobmjfchegaa
open Go.RowKit Go.Maps

theorem own_form {w : World} {base : Nat} {e : TypeId} {sz : Nat} {v : Value} {n : Nat} {xs : List Value} (h : w.ownsRow base e sz v n xs) : ∃ a cap, v = .slice a n cap := by
  obtain ⟨_, ⟨rfl, rfl⟩ | ⟨g, cap, _, rfl, _⟩⟩ := h
  · exact ⟨none, 0, rfl⟩
  · exact ⟨_, cap, rfl⟩
theorem infoEn : (Try.prog.info? 62).map (fun i => (i.zero, i.size, i.bytes)) = some (some (.agg #[.int .i64 0, .int .i64 0]), 2, 16) := by kernel_rfl
theorem ownsRow_setCell_other {w : World} {base : Nat} {e : TypeId} {size : Nat} {v : Value} {n : Nat} {xs : List Value} (h : w.ownsRow base e size v n xs) {a : Addr} (ha : v.ownBlock ≠ some a.block) (u : Value) : (w.setCell a u).ownsRow base e size v n xs := by
  obtain ⟨h1, h2 | ⟨g, cap, cur, rfl, hg, hh, hr⟩⟩ := h
  · exact ⟨h1, .inl h2⟩
  · refine ⟨h1, .inr ⟨g, cap, cur, rfl, hg, ?_, hr⟩⟩
    rw [setCell_other _ (by intro e; apply ha; simp [Value.ownBlock, e])]
    exact hh

def PushPost (base p : Nat) (u v : Value) (l : List En) (x : En) (w : World) (e : Ending) (w' : World) : Prop :=
  e = .returned (.tuple #[]) ∧ ∃ v' l', HpAt w' base p u v' l' ∧ l'.length = l.length + 1 ∧ Hp.Heap ltE l' ∧ (∀ z, z ∈ l' ↔ z ∈ l ∨ z = x) ∧ Fr w.heap.size (fun q => q = p ∨ v.ownBlock = some q) w w' ∧ ∀ q, v'.ownBlock = some q → v.ownBlock = some q ∨ w.heap.size ≤ q

set_option maxHeartbeats 2000000 in
theorem push_any (base p : Nat) (u v : Value) (l : List En) (x : En) (w : World) (h : HpAt w base p u v l) (hh : Hp.Heap ltE l) (hl : l.length < 1000000) :
    Calls Try.prog 20 #[.pointer (some ⟨p, 0, none⟩), .agg #[.int .i64 x.tick, .int .i64 x.id]] w (PushPost base p u v l x w) := by
  have lp := lt_of_block h.head
  obtain ⟨a, cap, rfl⟩ := own_form h.own
  obtain ⟨n, hn⟩ : ∃ n, l.length = n := ⟨_, rfl⟩
  have HN := Lib.hid hn; have H := Lib.hid h; have HH := Lib.hid hh
  have hown := h.own
  have hp := h.head
  have far := h.far
  rw [hn] at hl hown hp
  have hlo := hown.lt
  have av1 : (Value.slice a n cap).ownBlock ≠ some p := fun e => by have := (hlo _ e).1; omega
  clear hn h hh
  go_enter Try.func20, Try.ntmps20
  go_wp2_with fail
  have hbx := (Below.refl w.heap.size w).alloc (Nat.le_refl _) (.cells #[.int .i64 x.tick, .int .i64 x.id] 62)
  have hsz : (w.alloc (.cells #[.int .i64 x.tick, .int .i64 x.id] 62)).heap.size = w.heap.size + 1 := World.size_alloc _ _
  have k0 := World.alloc_heap_new w (.cells #[.int .i64 x.tick, .int .i64 x.id] 62)
  generalize w.alloc (.cells #[.int .i64 x.tick, .int .i64 x.id] 62) = w3 at hbx hsz k0 ⊢
  have l1 : p < w3.heap.size := by omega
  have hp3 := (hbx.block _ lp).trans hp
  have hown3 := ownsRow_below hown hbx
  have av2 : (Value.slice a n cap).ownBlock ≠ some w.heap.size := fun e => by have := (hlo _ e).2; omega
  have dp : ∀ y : LaterF w3 (fun q => (Value.slice a n cap).ownBlock = some q), y.wd.cell? ⟨p, 0, none⟩ = some (.slice a n cap) := fun y => (y.cell l1 av1).trans (cell_of_block hp3 0)
  have dx0 : ∀ y : LaterF w3 (fun q => (Value.slice a n cap).ownBlock = some q), y.wd.cell? ⟨w.heap.size, 0, none⟩ = some (.int .i64 x.tick) := fun y => (y.cell (lt_of_block k0) av2).trans (cell_of_block k0 0)
  have dx1 : ∀ y : LaterF w3 (fun q => (Value.slice a n cap).ownBlock = some q), y.wd.cell? ⟨w.heap.size, 1, none⟩ = some (.int .i64 x.id) := fun y => (y.cell (lt_of_block k0) av2).trans (cell_of_block k0 1)
  have fx0 := (Fr.refl w3.heap.size (fun q => (Value.slice a n cap).ownBlock = some q) w3).drew
  obtain ⟨i0, hi0, hz0, hz1, hz2⟩ := info_parts infoEn
  have HP3 := Lib.hid hp3; have HO3 := Lib.hid hown3; have HBX := Lib.hid hbx; have HSZ := Lib.hid hsz
  clear hp3 hown3 hbx hp hown hlo k0 hsz
  refine Rg.wp_region_pick (by kernel_rfl) [0, 1, 2, 3, 4, 5] [6, 7, 8, 9, 10] 8 (by kernel_rfl) (by kernel_rfl) (by kernel_rfl) (fun w' => ∃ y : LaterF w3 (fun q => (Value.slice a n cap).ownBlock = some q), w' = y.wd) (fun c a a' w hd h => ⟨hd.symm.trans h.1, h.2⟩) ⟨⟨_, fx0⟩, rfl⟩ ?_
  simp only [Rg.picks, List.getElem?_cons_succ, List.getElem?_cons_zero, Option.toList, List.cons_append, List.nil_append]
  repeat (quiet_step (fail))
  refine wpQuiet_nil ?_
  clear dp dx0 dx1
  simp only [Rg.pickn, List.getElem?_cons_succ, List.getElem?_cons_zero, Option.toList, List.map_cons, List.map_nil, List.cons_append, List.nil_append]
  refine Rg.wpN_step (fun K hK => ?_) ⟨⟨_, fx0⟩, rfl⟩
  go_simp
  have hrow := World.alloc_heap_new w3 (.cells #[.int .i64 x.tick, .int .i64 x.id] 62)
  have hown7 := ownsRow_below HO3.out ((Below.refl w3.heap.size w3).alloc (Nat.le_refl _) (.cells #[.int .i64 x.tick, .int .i64 x.id] 62))
  have fx1 := (Fr.refl w3.heap.size (fun q => (Value.slice a n cap).ownBlock = some q) w3).alloc (Nat.le_refl _) (.cells #[.int .i64 x.tick, .int .i64 x.id] 62)
  have hsz7 : (w3.alloc (.cells #[.int .i64 x.tick, .int .i64 x.id] 62)).heap.size = w3.heap.size + 1 := World.size_alloc _ _
  have hbase3 : base ≤ w3.heap.size := by have := HSZ.out; omega
  refine hK _ _ (fun _ => ⟨⟨_, fx1.drew⟩, rfl⟩) ?_
  clear hK K
  refine Rg.wpN_step (fun K hK => ?_) ⟨⟨_, fx1.drew⟩, rfl⟩
  refine step_append_lies _ (by rfl) _ _ _ (by rfl) base 62 i0 _ 2 16 Try.underlying55 hi0 hz0 hz1 hz2 rfl (by omega) (.slice a n cap) n _ (by rfl) hown7.drew
    ⟨w3.heap.size, 0, none⟩ 1 1 (En.cells x) (by rfl) (by rfl) (World.news_of_block (cs := #[.int .i64 x.tick, .int .i64 x.id]) (t := 62) (fr := (0, 0)) hrow) (by simp [En.cells, Value.oneCell'])
    (by omega) (by unfold maxLen; omega) (by omega) (by simp; omega) (w3.heap.size + 1) (by simp) ?_
  intro gg cap' w8 hown2 hgrow hat hlt2
  have fx3 := fx1.drew.grown hgrow (by simp) (fun q e => .inr e)
  refine hK _ _ (fun _ => ⟨⟨_, fx3⟩, rfl⟩) ?_
  clear hK K
  refine Rg.wpN_list (by decide) ?_
  simp only [List.map_cons, List.map_nil]
  have e0 := (fx3.cell (p := ⟨p, 0, none⟩) l1 av1).trans (cell_of_block HP3.out 0)
  have e1 := (fx3.frozen (p := ⟨p, 0, none⟩) l1 av1).trans (frozen_of_block HP3.out 0)
  have hgB : base ≤ gg := (hown2.lt gg rfl).1
  have hl8 : p < w8.heap.size := Nat.lt_of_lt_of_le l1 fx3.size
  have hBk : HpAt (w8.setCell ⟨p, 0, none⟩ (.slice (some ⟨gg, 0, none⟩) (n + 1) cap')) base p u (.slice (some ⟨gg, 0, none⟩) (n + 1) cap') (l ++ [x]) := by
    have hlen1 : (l ++ [x]).length = n + 1 := by simp [HN.out]
    refine ⟨?_, ?_, far.1, ?_⟩
    · exact setCell_block ((fx3.block _ l1 av1).trans HP3.out) 0 _
    · rw [hlen1, List.flatMap_append, show List.flatMap En.cells [x] = En.cells x by simp]
      exact ownsRow_setCell_other hown2 (a := ⟨p, 0, none⟩) (by intro e; simp [Value.ownBlock] at e; omega) _
    · simp [World.setCell]; have := fx3.size; omega
  have hFr9 : Fr w.heap.size (fun q => q = p ∨ (Value.slice a l.length cap).ownBlock = some q) w (w8.setCell ⟨p, 0, none⟩ (.slice (some ⟨gg, 0, none⟩) (n + 1) cap')) := by
    refine Fr.setCell (p := ⟨p, 0, none⟩) ?_ (.inr (.inl rfl)) _
    exact (Fr.of_below HBX.out _).trans (fx3.mono HBX.out.size fun q _ e => .inr (by rw [HN.out]; exact e))
  have HAT := Lib.hid (show (Value.slice a l.length cap).ownBlock = some gg ∨ w.heap.size ≤ gg by rw [HN.out]; exact hat.imp id fun e => by have := HBX.out.size; omega)
  have HBk := Lib.hid hBk; have HFr9 := Lib.hid hFr9
  clear hBk hFr9 hown2 hgrow hat hlt2 fx3 fx1 hown7 hrow hsz7 fx0 av1 av2 hi0 hz0 hz1 hz2
  go_wp2_with fail
  have hbk := HBk.out
  have hfr9 := HFr9.out
  clear HBk HFr9 e0 e1
  generalize w8.setCell ⟨p, 0, none⟩ (.slice (some ⟨gg, 0, none⟩) (n + 1) cap') = W9 at hbk hfr9 ⊢
  have c0 := cell_of_block hbk.head 0
  have lp9 := lt_of_block hbk.head
  have HBK := Lib.hid hbk; have HF9 := Lib.hid hfr9
  clear hbk hfr9
  go_wp2_with fail
  have hri : Hp.Rising ltE (l ++ [x]) n := by have := HH.out.push x; rw [HN.out] at this; exact this
  refine (up_any base p u _ (l ++ [x]) n W9 HBK.out (by simp [HN.out]) hri (by simp [HN.out]; omega)).mono ?_
  rintro e w10 ⟨rfl, l', hH', hlen', hhp, hmem, hfr⟩
  have Q : PushPost base p u (.slice a l.length cap) l x w (.returned (.tuple #[])) w10 := by
    refine ⟨rfl, _, l', hH', by rw [hlen']; simp, hhp, fun z => (hmem z).trans (by simp), HF9.out.trans (hfr.mono HF9.out.size fun q hq e => ?_), fun q hq => ?_⟩
    · simp [Value.ownBlock] at e
      subst e
      exact HAT.out.elim (fun e => .inr e) (fun e => by omega)
    · simp [Value.ownBlock] at hq
      subst hq
      exact HAT.out
  go_wp2
  go_end0
  exact Q

theorem flatE_take : ∀ (l : List En) (n : Nat), (l.take n).flatMap En.cells = (l.flatMap En.cells).take (n * 2)
  | [], n => by simp
  | x :: r, 0 => by simp
  | x :: r, n + 1 => by
    rw [List.take_succ_cons, List.flatMap_cons, flatE_take r n, List.flatMap_cons, List.take_append]
    have e : (n + 1) * 2 - (En.cells x).length = n * 2 := by simp [En.cells]; omega
    rw [e, List.take_of_length_le (l := En.cells x) (by simp [En.cells]; omega)]
theorem HpAt.cut {w : World} {base p R n cap : Nat} {u : Value} {l : List En} (h : HpAt w base p u (.slice (some ⟨R, 0, none⟩) (n + 1) cap) l) (hn : l.length = n + 1) :
    HpAt (w.setCell ⟨p, 0, none⟩ (.slice (some ⟨R, 0, none⟩) n cap)) base p u (.slice (some ⟨R, 0, none⟩) n cap) (l.take n) := by
  obtain ⟨h1, ⟨hv, h0⟩ | ⟨g, cap', cur, hv, hg, hh, hnc, hm, hsz, ht⟩⟩ := h.own
  · cases hv
  · simp only [Value.slice.injEq, Option.some.injEq, Addr.mk.injEq, and_true, true_and] at hv
    obtain ⟨rfl, -, rfl⟩ := hv
    have hp : R ≠ p := by have := h.far.1; omega
    have hlt : (l.take n).length = n := by rw [List.length_take, hn]; omega
    refine ⟨setCell_block h.head 0 _, ?_, h.far.1, by simpa [World.setCell] using h.far.2⟩
    refine ⟨by rw [flatE_len], .inr ⟨R, cap, cur, by rw [hlt], hg, by rw [setCell_other _ (by exact hp)]; exact hh, by omega, hm, hsz, ?_⟩⟩
    rw [hlt, flatE_take, ← ht, List.take_take, hn, Nat.min_eq_left (by omega)]

def PopPost (base p : Nat) (u : Value) (R n cap : Nat) (l : List En) (w : World) (e : Ending) (w' : World) : Prop :=
  e = .returned (.tuple #[]) ∧ ∃ l', HpAt w' base p u (.slice (some ⟨R, 0, none⟩) n cap) l' ∧ l'.length = n ∧ Hp.Heap ltE l' ∧ (∀ z, z ∈ l' ↔ z ∈ Hp.popped l) ∧ Fr w.heap.size (fun q => q = p ∨ q = R) w w'

set_option maxHeartbeats 2000000 in
theorem pop_any (base p : Nat) (u : Value) (R n cap : Nat) (l : List En) (w : World) (h : HpAt w base p u (.slice (some ⟨R, 0, none⟩) (n + 1) cap) l) (hn : l.length = n + 1) (hh : Hp.Heap ltE l) (hl : n < 1000000) :
    Calls Try.prog 22 #[.pointer (some ⟨p, 0, none⟩)] w (PopPost base p u R n cap l w) := by
  have lp := lt_of_block h.head
  have far := h.far
  have hR : base ≤ R := (h.own.lt R rfl).1
  obtain ⟨x, hx⟩ : ∃ x, l[n]? = some x := ⟨_, List.getElem?_eq_getElem (by omega)⟩
  have hvv : (Value.slice (some ⟨R, 0, none⟩) (n + 1) cap) = .slice (some ⟨R, 0, none⟩) l.length cap := by rw [hn]
  obtain ⟨z, hz⟩ : ∃ z, l[0]? = some z := ⟨_, List.getElem?_eq_getElem (by omega)⟩
  obtain ⟨d0, d1, g0, g1, lR⟩ := h.cellsOf hvv hz
  obtain ⟨c0, c1, f0, f1, _⟩ := h.cellsOf hvv hx
  have q0 := cell_of_block h.head 0
  have z0 := frozen_of_block h.head 0
  have HN := Lib.hid hn; have H := Lib.hid h; have HH := Lib.hid hh; have HX := Lib.hid hx
  simp only [Nat.zero_mul, Nat.zero_add] at d0 d1 g0 g1
  have hcap : n + 1 ≤ cap := by
    obtain ⟨_, ⟨hv, _⟩ | ⟨g, cap', cs, hv, _, _, hnc, _⟩⟩ := h.own
    · cases hv
    · simp only [Value.slice.injEq, Option.some.injEq] at hv
      omega
  clear hn h hh hx hz hvv
  go_enter Try.func22, Try.ntmps22
  go_wp2_with fail
  go_region
  go_wp2_with fail
  have hcut := (((H.out.put HN.out (i := 0) (by omega) x).cut (by simp [HN.out])).drew)
  have hpo : Hp.popped l = (l.set 0 x).take n := by
    have := HN.out
    unfold Hp.popped
    rw [List.getLast?_eq_getElem?, this, Nat.add_sub_cancel, HX.out]
  rw [← hpo] at hcut
  have hf : Fr w.heap.size (fun q => q = p ∨ q = R) w (((w.setCell ⟨R, 0, none⟩ (.int .i64 x.tick)).setCell ⟨R, 1, none⟩ (.int .i64 x.id)).setCell ⟨p, 0, none⟩ (.slice (some ⟨R, 0, none⟩) n cap)).drew := by
    refine Fr.drew ?_
    refine Fr.setCell (F := fun q => q = p ∨ q = R) ?_ (.inr (.inl rfl)) _
    refine Fr.setCell (F := fun q => q = p ∨ q = R) ?_ (.inr (.inr rfl)) _
    refine Fr.setCell (F := fun q => q = p ∨ q = R) ?_ (.inr (.inr rfl)) _
    exact Fr.refl _ _ _
  have hlen : (Hp.popped l).length = n := by rw [Hp.popped_len, HN.out]; rfl
  refine (down_any base p u R n cap (Hp.popped l) _ hcut hlen (HH.out.pop (by rw [HN.out]; exact HX.out)) (by omega)).mono ?_
  rintro e w3 ⟨rfl, l', hH', hlen', hhp, hmem, hfr⟩
  have Q : PopPost base p u R n cap l w (.returned (.tuple #[])) w3 :=
    ⟨rfl, l', hH', hlen', hhp, hmem, hf.trans (hfr.mono hf.size fun q _ e => .inr e)⟩
  clear hcut hf hfr hH'
  go_wp2
  go_end0
  exact Q
end Go.Proofs.Ytnfdobmjfchegaa
