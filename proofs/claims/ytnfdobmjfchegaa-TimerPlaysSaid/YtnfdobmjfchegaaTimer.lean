/-
  timer: the heap in memory; ahead, up, down.
-/
import Derived.Test.YtnfdobmjfchegaaHeapLaw
import Derived.Test.YtnfdobmjfchegaaProg
import Derived.Test.YtnfdobmjfchegaaTypes
import Derived.Test.YtnfdobmjfchegaaMaps
import Derived.Test.YtnfdobmjfchegaaKeep
import Derived.Test.YtnfdobmjfchegaaAppAny
import Derived.Test.YtnfdobmjfchegaaRegions2
import Derived.Deep.QuietTactic
import Derived.BigQuiet
import Derived.BigRegion
import Derived.StillTailTactics
import Derived.Lib.Hide
import Derived.Handy
import Derived.Deep.AppendLies
set_option linter.unusedVariables false
set_option linter.unusedSimpArgs false
namespace Go.Proofs.Ytnfdobmjfchegaa
open Go.RowKit Go.Maps

theorem wrap_eq (n : Int) : IntKind.i64.wrap n = wrap64 n := by first | rfl | (rw [IntKind.wrap_i64]; done) | (rw [IntKind.wrap_i64]; rfl) | (rw [IntKind.wrap_i64]; unfold wrap64; omega)
/-- who is due ahead of another one -/
def ltE (a b : En) : Bool := if a.tick = b.tick then decide (a.id < b.id) else decide (a.tick < b.tick)
theorem ltE_tot : Hp.Tot ltE := by
  constructor
  · intro a b h
    unfold ltE at *
    split at h <;> split <;> simp_all <;> omega
  · intro a b c h1 h2
    unfold ltE at *
    split at h1 <;> split at h2 <;> split <;> simp_all <;> omega

theorem ahead_any (a b : En) (w : World) : Calls Try.prog 41 #[.agg #[.int .i64 a.tick, .int .i64 a.id], .agg #[.int .i64 b.tick, .int .i64 b.id]] w fun e w' => e = .returned (.bool (ltE a b)) ∧ Below w.heap.size w w' := by
  by_cases h : a.tick = b.tick
  · have h1 : (a.tick != b.tick) = false := by simp [h]
    have HL := Lib.hid (show ltE a b = decide (a.id < b.id) by unfold ltE; rw [if_pos h])
    clear h
    go_enter Try.func41, Try.ntmps41
    go_wp2
    go_ret
    exact ⟨by rw [HL.out]; rfl, ((Below.refl _ _).alloc (Nat.le_refl _) _).alloc (by simp) _⟩
  · have h1 : (a.tick != b.tick) = true := by simp [h]
    have HL := Lib.hid (show ltE a b = decide (a.tick < b.tick) by unfold ltE; rw [if_neg h])
    clear h
    go_enter Try.func41, Try.ntmps41
    go_wp2
    go_ret
    exact ⟨by rw [HL.out]; rfl, ((Below.refl _ _).alloc (Nat.le_refl _) _).alloc (by simp) _⟩

theorem flatE_get : ∀ (l : List En) (i j : Nat) (hi : i < l.length) (hj : j < 2), (l.flatMap En.cells)[i * 2 + j]? = (En.cells l[i])[j]?
  | [], i, j, hi, _ => by simp at hi
  | x :: r, 0, j, hi, hj => by
    rw [List.flatMap_cons, List.getElem?_append_left (by simp [En.cells]; omega)]; simp
  | x :: r, i + 1, j, hi, hj => by
    have := flatE_get r i j (by simpa using hi) hj
    rw [List.flatMap_cons, List.getElem?_append_right (by simp [En.cells]; omega)]
    have e : (i + 1) * 2 + j - (En.cells x).length = i * 2 + j := by simp [En.cells]; omega
    rw [e]
    simpa using this
theorem flatE_len : ∀ (l : List En), (l.flatMap En.cells).length = l.length * 2
  | [] => rfl
  | x :: r => by simp [flatE_len r, En.cells, Nat.add_mul]

/-- The heap of the entries l lies at p, 0, of the object there; its second cell is u. -/
structure HpAt (w : World) (base p : Nat) (u v : Value) (l : List En) : Prop where
  head : w.heap[p]? = some (.cells #[v, u] 59 (0, 0))
  own : w.ownsRow base 62 2 v l.length (l.flatMap En.cells)
  far : p < base ∧ base ≤ w.heap.size

theorem HpAt.row {w : World} {base p : Nat} {u v : Value} {l : List En} (h : HpAt w base p u v l) {k : Nat} (hk : k < l.length) :
    ∃ R cap cs, v = .slice (some ⟨R, 0, none⟩) l.length cap ∧ base ≤ R ∧ l.length ≤ cap ∧ cap ≤ maxLen ∧ w.heap[R]? = some (.cells cs 62 (0, 0)) ∧ cs.size = cap * 2 ∧ cs.toList.take (l.length * 2) = l.flatMap En.cells := by
  obtain ⟨h1, ⟨_, h0⟩ | ⟨g, cap, cur, hv, hg, hh, hn, hm, hsz, ht⟩⟩ := h.own
  · omega
  · exact ⟨g, cap, cur, hv, hg, hn, hm, hh, hsz, ht⟩

theorem HpAt.later {w w' : World} {base p : Nat} {u v : Value} {l : List En} (h : HpAt w base p u v l) (hb : Below w.heap.size w w') : HpAt w' base p u v l :=
  ⟨(hb.block _ (lt_of_block h.head)).trans h.head, ownsRow_below h.own hb, h.far.1, Nat.le_trans h.far.2 hb.size⟩
/-- an entry's cells, in all worlds in which the heap's blocks lie as they did -/
theorem HpAt.cellsOf {w : World} {base p : Nat} {u v : Value} {l : List En} (h : HpAt w base p u v l) {R cap : Nat} (hv : v = .slice (some ⟨R, 0, none⟩) l.length cap) {k : Nat} {x : En} (hx : l[k]? = some x) :
    w.cell? ⟨R, k * 2, none⟩ = some (.int .i64 x.tick) ∧ w.cell? ⟨R, k * 2 + 1, none⟩ = some (.int .i64 x.id) ∧ w.frozen? ⟨R, k * 2, none⟩ = false ∧ w.frozen? ⟨R, k * 2 + 1, none⟩ = false ∧ R < w.heap.size := by
  obtain ⟨hk, rfl⟩ := List.getElem?_eq_some_iff.1 hx
  obtain ⟨R', cap', cs, hv', _, _, _, hh, _, ht⟩ := h.row hk
  rw [hv] at hv'
  simp only [Value.slice.injEq, Option.some.injEq, Addr.mk.injEq, and_true, true_and] at hv'
  obtain ⟨rfl, rfl⟩ := hv'
  have hat : ∀ j, j < 2 → w.cell? ⟨R, k * 2 + j, none⟩ = (En.cells l[k])[j]? := fun j hj => by
    rw [cell_of_block hh, ← Array.getElem?_toList, ← flatE_get l k j hk hj, ← ht, List.getElem?_take, if_pos (by omega)]
  exact ⟨hat 0 (by omega), hat 1 (by omega), frozen_of_block hh _, frozen_of_block hh _, lt_of_block hh⟩

theorem take_put {cs : Array Value} {l : List En} {i : Nat} {x : En} (ht : cs.toList.take (l.length * 2) = l.flatMap En.cells) (hs : l.length * 2 ≤ cs.size) (hi : i < l.length) :
    ((cs.setIfInBounds (i * 2) (.int .i64 x.tick)).setIfInBounds (i * 2 + 1) (.int .i64 x.id)).toList.take ((l.set i x).length * 2) = (l.set i x).flatMap En.cells := by
  refine List.ext_getElem? fun t => ?_
  rw [List.length_set]
  by_cases htl : t < l.length * 2
  · obtain ⟨q, r, hr, rfl⟩ : ∃ q r, r < 2 ∧ t = q * 2 + r := ⟨t / 2, t % 2, by omega, by omega⟩
    have hq : q < l.length := by omega
    rw [flatE_get _ q r (by simpa using hq) hr, List.getElem?_take, if_pos htl, Array.getElem?_toList]
    have hold : cs[q * 2 + r]? = (En.cells l[q])[r]? := by
      rw [← flatE_get l q r hq hr, ← ht, List.getElem?_take, if_pos htl, Array.getElem?_toList]
    by_cases e : q = i
    · subst e
      simp only [List.getElem_set_self]
      obtain rfl | rfl : r = 0 ∨ r = 1 := by omega
      · rw [Array.getElem?_setIfInBounds_ne (by omega), Nat.add_zero, Array.getElem?_setIfInBounds_self_of_lt (by omega)]; rfl
      · rw [Array.getElem?_setIfInBounds_self_of_lt (by simp; omega)]; rfl
    · rw [List.getElem_set_ne (Ne.symm e), Array.getElem?_setIfInBounds_ne (by omega), Array.getElem?_setIfInBounds_ne (by omega)]; exact hold
  · rw [List.getElem?_eq_none (by simp; omega), List.getElem?_eq_none (by rw [flatE_len, List.length_set]; omega)]
theorem HpAt.put {w : World} {base p R n cap : Nat} {u : Value} {l : List En} (h : HpAt w base p u (.slice (some ⟨R, 0, none⟩) n cap) l) (hn : l.length = n) {i : Nat} (hi : i < n) (x : En) :
    HpAt ((w.setCell ⟨R, i * 2, none⟩ (.int .i64 x.tick)).setCell ⟨R, i * 2 + 1, none⟩ (.int .i64 x.id)) base p u (.slice (some ⟨R, 0, none⟩) n cap) (l.set i x) := by
  obtain ⟨h1, ⟨hv, h0⟩ | ⟨g, cap', cur, hv, hg, hh, hnc, hm, hsz, ht⟩⟩ := h.own
  · cases hv
  · simp only [Value.slice.injEq, Option.some.injEq, Addr.mk.injEq, and_true] at hv
    obtain ⟨rfl, -, rfl⟩ := hv
    have hp : p ≠ R := by have := h.far.1; omega
    refine ⟨?_, ?_, h.far.1, by simpa [World.setCell] using h.far.2⟩
    · rw [setCell_other _ (by exact hp), setCell_other _ (by exact hp)]; exact h.head
    · refine ⟨by rw [flatE_len], .inr ⟨R, cap, _, by rw [List.length_set, hn], hg, setCell_block (setCell_block hh _ _) _ _, by simpa using hnc, hm, by simpa using hsz, ?_⟩⟩
      exact take_put ht (by omega) (by omega)
theorem HpAt.drew {w : World} {base p : Nat} {u v : Value} {l : List En} (h : HpAt w base p u v l) : HpAt w.drew base p u v l := h.later ((Below.refl _ _).drew)
theorem fr4 (w : World) (R a b c d : Nat) (v1 v2 v3 v4 : Value) : Fr w.heap.size (fun q => q = R) w ((((w.setCell ⟨R, a, none⟩ v1).setCell ⟨R, b, none⟩ v2).setCell ⟨R, c, none⟩ v3).setCell ⟨R, d, none⟩ v4).drew := by
  refine Fr.drew ?_
  refine Fr.setCell (F := fun q => q = R) ?_ (.inr rfl) _
  refine Fr.setCell (F := fun q => q = R) ?_ (.inr rfl) _
  refine Fr.setCell (F := fun q => q = R) ?_ (.inr rfl) _
  refine Fr.setCell (F := fun q => q = R) ?_ (.inr rfl) _
  exact Fr.refl _ _ _
theorem HpAt.swap {w : World} {base p R n cap : Nat} {u : Value} {l : List En} (h : HpAt w base p u (.slice (some ⟨R, 0, none⟩) n cap) l) (hn : l.length = n) {i j : Nat} {x y : En} (hx : l[i]? = some x) (hy : l[j]? = some y) :
    HpAt ((((w.setCell ⟨R, i * 2, none⟩ (.int .i64 y.tick)).setCell ⟨R, i * 2 + 1, none⟩ (.int .i64 y.id)).setCell ⟨R, j * 2, none⟩ (.int .i64 x.tick)).setCell ⟨R, j * 2 + 1, none⟩ (.int .i64 x.id)).drew base p u (.slice (some ⟨R, 0, none⟩) n cap) (Hp.swap l i j) ∧
    Fr w.heap.size (fun q => q = R) w ((((w.setCell ⟨R, i * 2, none⟩ (.int .i64 y.tick)).setCell ⟨R, i * 2 + 1, none⟩ (.int .i64 y.id)).setCell ⟨R, j * 2, none⟩ (.int .i64 x.tick)).setCell ⟨R, j * 2 + 1, none⟩ (.int .i64 x.id)).drew := by
  have h1 := (List.getElem?_eq_some_iff.1 hx).1
  have h2 := (List.getElem?_eq_some_iff.1 hy).1
  refine ⟨?_, fr4 w R _ _ _ _ _ _ _ _⟩
  unfold Hp.swap
  rw [hx, hy]
  exact ((h.put hn (by omega) y).put (by rw [List.length_set]; exact hn) (by omega) x).drew

set_option maxHeartbeats 2000000 in
theorem up_any (base p : Nat) (u v : Value) (l : List En) (k : Nat) (w : World) (h : HpAt w base p u v l) (hk : k < l.length) (hr : Hp.Rising ltE l k) (hl : l.length ≤ 1000000) :
    Calls Try.prog 24 #[.pointer (some ⟨p, 0, none⟩), .int .i64 k] w fun e w' => e = .returned (.tuple #[]) ∧ ∃ l', HpAt w' base p u v l' ∧ l'.length = l.length ∧ Hp.Heap ltE l' ∧ (∀ z, z ∈ l' ↔ z ∈ l) ∧ Fr w.heap.size (fun q => v.ownBlock = some q) w w' := by
  obtain ⟨R, cap, _, rfl, hR, hlc, hcm, _⟩ := h.row hk
  obtain ⟨n, hn⟩ : ∃ n, l.length = n := ⟨_, rfl⟩
  have HN := Lib.hid hn; have H := Lib.hid h; have HR := Lib.hid hr
  rw [hn] at hk hl hlc ⊢
  clear h hr hn
  go_enter Try.func24, Try.ntmps24
  go_wp2_with fail
  go_loopw [1] (fun i wr => ∃ (k : Nat) (l' : List En), k < n ∧ i = .int .i64 k ∧ HpAt wr base p u (.slice (some ⟨R, 0, none⟩) n cap) l' ∧ Hid (l'.length = n ∧ Hp.Rising ltE l' k ∧ (∀ z, z ∈ l' ↔ z ∈ l) ∧ Fr w.heap.size (fun q => (Value.slice (some ⟨R, 0, none⟩) n cap).ownBlock = some q) w wr)) (fun i _ => (intOf i).toNat)
  case atStart => exact ⟨k, l, hk, rfl, HN.out ▸ H.out, Lib.hid ⟨HN.out, HR.out, fun _ => Iff.rfl, Fr.refl _ _ _⟩⟩
  case round =>
    obtain ⟨k, l', hk, rfl, hH, hI⟩ := hrel
    obtain ⟨hlen, hri, hmem, hfr⟩ := hI.out
    cases k with
    | zero =>
      have HH := Lib.hid hH
      clear hH hlen hri hmem hfr
      go_wp2_with fail
      go_quiet (fail)
      go_wp2
      go_end0
      exact ⟨rfl, l', HpAt.later HH.out ⟨rfl, rfl, rfl, Nat.le_refl _, fun _ _ => rfl⟩, hI.out.1, hI.out.2.1.heap0, hI.out.2.2.1, hI.out.2.2.2.trans ⟨rfl, rfl, rfl, Nat.le_refl _, fun _ _ _ => rfl⟩⟩
    | succ k =>
      have hk0 : k / 2 < n := by omega
      obtain ⟨x, hx⟩ : ∃ x, l'[k / 2]? = some x := ⟨_, List.getElem?_eq_getElem (by omega)⟩
      obtain ⟨y, hy⟩ : ∃ y, l'[k + 1]? = some y := ⟨_, List.getElem?_eq_getElem (by omega)⟩
      have hvv : (Value.slice (some ⟨R, 0, none⟩) n cap) = .slice (some ⟨R, 0, none⟩) l'.length cap := by rw [hlen]
      obtain ⟨c0, c1, f0, f1, lR⟩ := hH.cellsOf hvv hx
      obtain ⟨d0, d1, g0, g1, _⟩ := hH.cellsOf hvv hy
      have lp := lt_of_block hH.head
      have q0 : ∀ y : Later wr, y.wd.cell? ⟨p, 0, none⟩ = some (.slice (some ⟨R, 0, none⟩) n cap) := fun y => (y.cell lp).trans (cell_of_block hH.head 0)
      have e0 : ∀ y : Later wr, y.wd.cell? ⟨R, k / 2 * 2, none⟩ = some (.int .i64 x.tick) := fun y => (y.cell lR).trans c0
      have e1 : ∀ y : Later wr, y.wd.cell? ⟨R, k / 2 * 2 + 1, none⟩ = some (.int .i64 x.id) := fun y => (y.cell lR).trans c1
      have e2 : ∀ z : Later wr, z.wd.cell? ⟨R, (k + 1) * 2, none⟩ = some (.int .i64 y.tick) := fun z => (z.cell lR).trans d0
      have e3 : ∀ z : Later wr, z.wd.cell? ⟨R, (k + 1) * 2 + 1, none⟩ = some (.int .i64 y.id) := fun z => (z.cell lR).trans d1
      have hmeth : ∀ (a b : Value) (w' : World), (method 184 62 (.agg #[a, b]) "ensemble/timer.ahead").run Try.prog w' = .ok (41, .agg #[a, b]) w' := fun a b w' => by kernel_rfl
      have hw1 : IntKind.i64.wrap (k : Int) = k := by rw [wrap_eq]; unfold wrap64; omega
      have hw2 : IntKind.i64.wrap ((k : Int) / 2) = (k : Int) / 2 := by rw [wrap_eq]; unfold wrap64; omega
      have hw3 : (k : Int).tdiv 2 = (k : Int) / 2 := Int.tdiv_eq_ediv_of_nonneg (by omega)
      have i4 : (0 : Int) ≤ (k : Int) / 2 := by omega
      have i5 : ((k : Int) / 2).toNat = k / 2 := by omega
      have i1 : (k : Int) + 1 < n := by omega
      have i2 : (k : Int) / 2 < n := by omega
      have i3 : (0 : Int) ≤ (k : Int) + 1 := by omega
      have HH := Lib.hid hH
      have HX := Lib.hid hx; have HY := Lib.hid hy
      clear hH hlen hri hmem hfr hx hy hvv c0 c1 d0 d1
      go_wp2_with fail
      refine wp_region_later (by kernel_rfl) (by kernel_rfl) ?_
      repeat (quiet_step (exact Calls.later (ahead_any y x _)))
      refine wpQuiet_nil ?_
      rintro w2 ⟨⟨_, hb2⟩, rfl⟩
      have H2 := Lib.hid (HpAt.later HH.out hb2)
      obtain ⟨b0, hb0⟩ : ∃ b0, ltE y x = b0 := ⟨_, rfl⟩
      rw [hb0]
      have HB0 := Lib.hid hb0
      clear hb0
      cases b0 with
      | false =>
        clear e0 e1 e2 e3 q0
        go_wp2_with fail
        go_end0
        obtain ⟨hlen, hri, hmem, hfr⟩ := hI.out
        exact ⟨rfl, l', H2.out, hlen, hri.heap HX.out HY.out HB0.out, hmem, hfr.trans (Fr.of_below (hb2.mono hfr.size) _)⟩
      | true =>
        have q0 : w2.cell? ⟨p, 0, none⟩ = some (.slice (some ⟨R, 0, none⟩) n cap) := cell_of_block H2.out.head 0
        have hvv : (Value.slice (some ⟨R, 0, none⟩) n cap) = .slice (some ⟨R, 0, none⟩) l'.length cap := by rw [hI.out.1]
        obtain ⟨c0, c1, f0, f1, lR⟩ := H2.out.cellsOf hvv HX.out
        obtain ⟨d0, d1, g0, g1, _⟩ := H2.out.cellsOf hvv HY.out
        have lp := lt_of_block H2.out.head
        have hne : (⟨R, k / 2 * 2, none⟩ : Addr) ≠ ⟨R, (k + 1) * 2, none⟩ := by simp <;> omega
        clear e0 e1 e2 e3 hvv hmeth
        go_wp2_with fail
        go_region
        go_wp2_with fail
        obtain ⟨hlen, hri, hmem, hfr⟩ := hI.out
        obtain ⟨hs, hf⟩ := H2.out.swap hlen HY.out HX.out
        refine ⟨⟨k / 2, Hp.swap l' (k + 1) (k / 2), by omega, by simp, hs, Lib.hid ⟨by rw [Hp.swap_len, hlen], ?_, fun z => (Hp.swap_mem HY.out HX.out (by omega) z).trans (hmem z), (hfr.trans (Fr.of_below (hb2.mono hfr.size) _)).trans (hf.mono (Nat.le_trans hfr.size hb2.size) fun q _ e => by rw [e]; rfl)⟩⟩, by simp [intOf]; omega⟩
        exact hri.step ltE_tot (by omega) HX.out HY.out HB0.out
end Go.Proofs.Ytnfdobmjfchegaa
