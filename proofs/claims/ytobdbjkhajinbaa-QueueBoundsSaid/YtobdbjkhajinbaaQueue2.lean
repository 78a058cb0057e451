/-
  queue: bounded queues in memory; there, Len, Room, find.
-/
import Derived.Test.YtobdbjkhajinbaaQueue1
import Derived.Test.YtobdbjkhajinbaaFlatWt
set_option linter.unusedVariables false
set_option linter.unusedSimpArgs false
namespace Go.Proofs.Ytobdbjkhajinbaa
open Go.RowKit
/-- queues in memory: the object p, the rows' array R, the rooms' array M, the rows' values vs -/
structure QAt (w : World) (base p R M : Nat) (vs : List Value) (rows : List (List Wt)) (rooms : List Int) : Prop where
  head : ∃ cm, w.heap[p]? = some (.cells #[.slice (some ⟨R, 0, none⟩) rooms.length rooms.length, .slice (some ⟨M, 0, none⟩) rooms.length cm] 66 (0, 0))
  vlen : vs.length = rooms.length
  rlen : rows.length = rooms.length
  few : rooms.length ≤ 8
  rowb : w.heap[R]? = some (.cells vs.toArray 39 (0, 0))
  roomb : ∃ cs, w.heap[M]? = some (.cells cs 3 (0, 0)) ∧ ∀ (i : Nat) (h : i < rooms.length), cs[i]? = some (.int .i64 rooms[i])
  row : ∀ (i : Nat) (h : i < rows.length), ∃ a c, vs[i]? = some (.slice a rows[i].length c) ∧ w.ownsRow base 35 10 (.slice a rows[i].length c) rows[i].length (rows[i].flatMap Wt.cells)
  apart : ∀ (i j : Nat) (v u : Value) (g : Nat), i ≠ j → vs[i]? = some v → vs[j]? = some u → v.ownBlock = some g → u.ownBlock ≠ some g
  ord : base ≤ p ∧ base ≤ R ∧ base ≤ M ∧ p ≠ R ∧ p ≠ M ∧ R ≠ M
  far : ∀ (i : Nat) (v : Value) (g : Nat), vs[i]? = some v → v.ownBlock = some g → g ≠ p ∧ g ≠ R ∧ g ≠ M
/-- the blocks of the queues -/
def QF (p R M : Nat) (vs : List Value) (g : Nat) : Prop := g = p ∨ g = R ∨ g = M ∨ ∃ (i : Nat) (v : Value), vs[i]? = some v ∧ v.ownBlock = some g
section
variable {w w' : World} {base p R M : Nat} {vs : List Value} {rows : List (List Wt)} {rooms : List Int}
theorem QAt.vrow (h : QAt w base p R M vs rows rooms) {i : Nat} {v : Value} (hv : vs[i]? = some v) : ∃ hi : i < rows.length, ∃ a c, v = .slice a rows[i].length c ∧ w.ownsRow base 35 10 (.slice a rows[i].length c) rows[i].length (rows[i].flatMap Wt.cells) := by
  have hi : i < rows.length := by
    have := (List.getElem?_eq_some_iff.1 hv).1
    rw [h.rlen, ← h.vlen]; exact this
  obtain ⟨a, c, h1, h2⟩ := h.row i hi
  rw [hv] at h1
  exact ⟨hi, a, c, Option.some.inj h1, h2⟩
theorem QAt.lt (h : QAt w base p R M vs rows rooms) {g : Nat} (hg : QF p R M vs g) : base ≤ g ∧ g < w.heap.size := by
  obtain ⟨cm, hh⟩ := h.head
  obtain ⟨cs, hm, _⟩ := h.roomb
  rcases hg with rfl | rfl | rfl | ⟨i, v, hv, hg⟩
  · exact ⟨h.ord.1, lt_of_block hh⟩
  · exact ⟨h.ord.2.1, lt_of_block h.rowb⟩
  · exact ⟨h.ord.2.2.1, lt_of_block hm⟩
  · obtain ⟨hi, a, c, rfl, ho⟩ := h.vrow hv
    exact ho.lt g hg
theorem QAt.fr {F : Nat → Prop} (h : QAt w base p R M vs rows rooms) (hf : Fr w.heap.size F w w') (hF : ∀ g, QF p R M vs g → ¬ F g) : QAt w' base p R M vs rows rooms := by
  have blk : ∀ g, QF p R M vs g → w'.heap[g]? = w.heap[g]? := fun g hg => hf.block g (h.lt hg).2 (hF g hg)
  obtain ⟨cm, hh⟩ := h.head
  obtain ⟨cs, hm, hc⟩ := h.roomb
  refine ⟨⟨cm, (blk p (.inl rfl)).trans hh⟩, h.vlen, h.rlen, h.few, (blk R (.inr (.inl rfl))).trans h.rowb, ⟨cs, (blk M (.inr (.inr (.inl rfl)))).trans hm, hc⟩, fun i hi => ?_, h.apart, h.ord, h.far⟩
  obtain ⟨a, c, h1, h2⟩ := h.row i hi
  exact ⟨a, c, h1, ownsRow_fr h2 hf (fun g hg => ⟨(h2.lt g hg).2, hF g (.inr (.inr (.inr ⟨i, _, h1, hg⟩)))⟩)⟩
theorem QAt.later (h : QAt w base p R M vs rows rooms) (hb : Below w.heap.size w w') : QAt w' base p R M vs rows rooms := h.fr (Fr.of_below hb (fun _ => False)) (fun _ _ e => e)
theorem QAt.cells (h : QAt w base p R M vs rows rooms) : (∃ cm, w.cell? ⟨p, 0, none⟩ = some (.slice (some ⟨R, 0, none⟩) rooms.length rooms.length) ∧ w.cell? ⟨p, 1, none⟩ = some (.slice (some ⟨M, 0, none⟩) rooms.length cm)) ∧ p < w.heap.size ∧ R < w.heap.size ∧ M < w.heap.size := by
  obtain ⟨cm, hh⟩ := h.head
  obtain ⟨cs, hm, hc⟩ := h.roomb
  exact ⟨⟨cm, cell_of_block hh 0, cell_of_block hh 1⟩, lt_of_block hh, lt_of_block h.rowb, lt_of_block hm⟩
/-- a row's value, and the waits that lie in it -/
theorem QAt.at (h : QAt w base p R M vs rows rooms) {i : Nat} (hi : i < rows.length) : ∃ a c, w.cell? ⟨R, i, none⟩ = some (.slice a rows[i].length c) ∧ Rd.SliceOf w (.slice a rows[i].length c) 10 Wt.cells rows[i] ∧ rows[i].length ≤ maxLen := by
  obtain ⟨a, c, h1, h2⟩ := h.row i hi
  refine ⟨a, c, ?_, (sliceOf_own (cells := Wt.cells) (fun _ => rfl) (by decide) h2).1, ?_⟩
  · rw [cell_of_block h.rowb, List.getElem?_toArray]; exact h1
  · obtain ⟨_, ⟨_, h0⟩ | ⟨g, cap, cur, _, _, _, hn, hm, _⟩⟩ := h2
    · rw [h0]; exact Nat.zero_le _
    · exact Nat.le_trans hn hm
theorem there_any (h : QAt w base p R M vs rows rooms) (q : Int) (b : Bool) (hb : decide (0 ≤ q ∧ q < rooms.length) = b) :
    Calls Try.prog 29 #[.pointer (some ⟨p, 0, none⟩), .int .i64 q] w fun e w' => e = .returned (.bool b) ∧ w' = w := by
  obtain ⟨⟨cm, c0, c1⟩, lp, _⟩ := h.cells
  obtain ⟨n, hn⟩ : ∃ n, rooms.length = n := ⟨_, rfl⟩
  rw [hn] at c0 hb
  clear h c1 hn
  by_cases h1 : 0 ≤ q
  · have d1 : decide (0 ≤ q) = true := by simp; omega
    have hr : decide (q < (n : Int)) = b := by rw [← hb]; simp [h1]
    have HR := Lib.hid hr
    clear hb h1 hr
    go_enter Try.func29, Try.ntmps29
    go_wp2_with fail
    go_ret
    exact ⟨by rw [← HR.out]; rfl, rfl⟩
  · have d1 : decide (0 ≤ q) = false := by simp; omega
    have hr : b = false := by rw [← hb]; simp; omega
    subst hr
    clear hb h1
    go_enter Try.func29, Try.ntmps29
    go_wp2_with fail
    go_ret
    exact ⟨rfl, rfl⟩
def lenQ (rows : List (List Wt)) (q : Int) : Int := if 0 ≤ q then (((rows[q.toNat]?).getD []).length : Int) else 0
def roomQ (rows : List (List Wt)) (rooms : List Int) (q : Int) : Int := if 0 ≤ q ∧ q < rooms.length then (rooms[q.toNat]?).getD 0 - lenQ rows q else 0
theorem len_any (h : QAt w base p R M vs rows rooms) (q : Int) :
    Calls Try.prog 13 #[.pointer (some ⟨p, 0, none⟩), .int .i64 q] w fun e w' => e = .returned (.int .i64 (lenQ rows q)) ∧ w' = w := by
  by_cases h1 : 0 ≤ q ∧ q < rooms.length
  · obtain ⟨k, rfl⟩ : ∃ k : Nat, q = k := ⟨q.toNat, by omega⟩
    have hk : k < rows.length := by rw [h.rlen]; omega
    obtain ⟨a, c, hc, hs, hlm⟩ := h.at hk
    obtain ⟨m, hm⟩ : ∃ m, rows[k].length = m := ⟨_, rfl⟩
    have hres : lenQ rows (k : Int) = (m : Int) := by
      unfold lenQ
      rw [if_pos (by omega), Int.toNat_natCast, List.getElem?_eq_getElem hk, ← hm]; rfl
    rw [hres]
    rw [hm] at hc
    have HT := Lib.hid (there_any h k true (by simp; omega))
    obtain ⟨⟨cm, c0, c1⟩, lp, lR, _⟩ := h.cells
    have hkn : k < rooms.length := by omega
    obtain ⟨n, hn⟩ : ∃ n, rooms.length = n := ⟨_, rfl⟩
    rw [hn] at c0 hkn
    clear h hs hlm hres hm h1 c1 hn hk
    go_enter Try.func13, Try.ntmps13
    go_wp2_with fail
    refine HT.out.mono ?_
    rintro e z ⟨rfl, hz⟩
    replace hz := hz.symm
    subst hz
    go_wp2_with fail
    go_ret
    exact ⟨rfl, rfl⟩
  · have hres : lenQ rows q = 0 := by
      unfold lenQ
      split
      · rw [List.getElem?_eq_none (by rw [h.rlen]; omega)]; rfl
      · rfl
    rw [hres]
    have HT := Lib.hid (there_any h q false (by simp; omega))
    clear h hres h1
    go_enter Try.func13, Try.ntmps13
    go_wp2_with fail
    refine HT.out.mono ?_
    rintro e z ⟨rfl, hz⟩
    replace hz := hz.symm
    subst hz
    go_wp2_with fail
    go_ret
    exact ⟨rfl, rfl⟩
theorem room_any (h : QAt w base p R M vs rows rooms) (q : Int) (hrw : ∀ r ∈ rooms, 0 ≤ r ∧ r ≤ 16) :
    Calls Try.prog 12 #[.pointer (some ⟨p, 0, none⟩), .int .i64 q] w fun e w' => e = .returned (.int .i64 (roomQ rows rooms q)) ∧ Below w.heap.size w w' := by
  by_cases h1 : 0 ≤ q ∧ q < rooms.length
  · obtain ⟨k, rfl⟩ : ∃ k : Nat, q = k := ⟨q.toNat, by omega⟩
    have hk : k < rows.length := by rw [h.rlen]; omega
    have hkn : k < rooms.length := by omega
    obtain ⟨a, c, hc, hs, hlm⟩ := h.at hk
    obtain ⟨m, hm⟩ : ∃ m, rows[k].length = m := ⟨_, rfl⟩
    obtain ⟨r, hr⟩ : ∃ r, rooms[k] = r := ⟨_, rfl⟩
    have hrb := hrw r (hr ▸ List.getElem_mem hkn)
    have hres : roomQ rows rooms (k : Int) = r - m := by
      unfold roomQ lenQ
      rw [if_pos h1, if_pos (by omega), Int.toNat_natCast, List.getElem?_eq_getElem hk, List.getElem?_eq_getElem hkn, ← hm, ← hr]; rfl
    rw [hres]
    rw [hm] at hc hlm
    have hlm63 : m ≤ 9223372036854775807 := hlm
    have HT := Lib.hid (there_any h k true (by simp; omega))
    obtain ⟨⟨cm, c0, c1⟩, lp, lR, lM⟩ := h.cells
    obtain ⟨cs, hcs, hroom⟩ := h.roomb
    have hc2 : w.cell? ⟨M, k, none⟩ = some (.int .i64 r) := by rw [cell_of_block hcs, hroom k hkn, hr]
    obtain ⟨n, hn⟩ : ∃ n, rooms.length = n := ⟨_, rfl⟩
    rw [hn] at c0 c1 hkn
    have hwr : IntKind.i64.wrap (r - (m : Int)) = r - m := by rw [wrap_eq]; unfold wrap64; omega
    clear h hs hlm hres hm h1 hn hk hcs hroom hr
    go_enter Try.func12, Try.ntmps12
    go_wp2_with fail
    refine HT.out.mono ?_
    rintro e z ⟨rfl, hz⟩
    replace hz := hz.symm
    subst hz
    go_wp2_with fail
    go_quiet (fail)
    have hBq : Below w.heap.size w (w.drewN nq) := ⟨rfl, rfl, rfl, Nat.le_refl _, fun _ _ => rfl⟩
    generalize w.drewN nq = wq at hBq ⊢
    go_wp2_with fail
    go_ret
    exact ⟨by first | rfl | (rw [hwr]; rfl), hBq⟩
  · have hres : roomQ rows rooms q = 0 := by unfold roomQ; rw [if_neg h1]
    rw [hres]
    have HT := Lib.hid (there_any h q false (by simp; omega))
    clear h hres h1
    go_enter Try.func12, Try.ntmps12
    go_wp2_with fail
    refine HT.out.mono ?_
    rintro e z ⟨rfl, hz⟩
    replace hz := hz.symm
    subst hz
    go_wp2_with fail
    go_ret
    exact ⟨rfl, Below.refl _ _⟩
end
end Go.Proofs.Ytobdbjkhajinbaa
