/-
  Topo's functions: contracts.
-/
import Derived.Test.YtdmbjjladkdphaaTopoNew
import Derived.Test.YtdmbjjladkdphaaCopyN
import Derived.Laws.MakeOwn
set_option linter.unusedVariables false
set_option linter.unusedSimpArgs false
namespace Go.Proofs.Ytdmbjjladkdphaa
open Go.RowKit Go.Maps

theorem TopoAt.later {w w' : World} {p R cap M nn : Nat} {L : List Fe} (h : TopoAt w p R cap M nn L) (hb : Below w.heap.size w w') : TopoAt w' p R cap M nn L := by
  obtain ⟨cs, h1, h2, h3, h4⟩ := h.row
  obtain ⟨es, c, m1, m2⟩ := h.map
  exact ⟨(hb.block _ (lt_of_block h.head)).trans h.head, ⟨cs, (hb.block _ (lt_of_block h1)).trans h1, h2, h3, h4⟩, ⟨es, c, (hb.block _ (lt_of_block m1)).trans m1, m2⟩⟩
theorem TopoAt.frame {w w' : World} {p R cap M nn : Nat} {L : List Fe} (h : TopoAt w p R cap M nn L) (hp : w'.heap[p]? = w.heap[p]?) (hR : w'.heap[R]? = w.heap[R]?) (hM : w'.heap[M]? = w.heap[M]?) : TopoAt w' p R cap M nn L := by
  obtain ⟨cs, h1, h2, h3, h4⟩ := h.row
  obtain ⟨es, c, m1, m2⟩ := h.map
  exact ⟨hp.trans h.head, ⟨cs, hR.trans h1, h2, h3, h4⟩, ⟨es, c, hM.trans m1, m2⟩⟩
theorem TopoAt.lt {w : World} {p R cap M nn : Nat} {L : List Fe} (h : TopoAt w p R cap M nn L) : p < w.heap.size ∧ R < w.heap.size ∧ M < w.heap.size := by
  obtain ⟨cs, h1, h2, h3, h4⟩ := h.row
  obtain ⟨es, c, m1, m2⟩ := h.map
  exact ⟨lt_of_block h.head, lt_of_block h1, lt_of_block m1⟩

theorem flatMap_get {α : Type} {sz : Nat} {cells : α → List Value} (hsz : ∀ x, (cells x).length = sz) : ∀ (l : List α) (i j : Nat) (hi : i < l.length) (hj : j < sz), (l.flatMap cells)[i * sz + j]? = (cells l[i])[j]?
  | [], i, j, hi, _ => by simp at hi
  | x :: r, 0, j, hi, hj => by
    rw [List.flatMap_cons, List.getElem?_append_left (by rw [hsz]; omega)]; simp
  | x :: r, i + 1, j, hi, hj => by
    have := flatMap_get hsz r i j (by simpa using hi) hj
    rw [List.flatMap_cons, List.getElem?_append_right (by rw [hsz, Nat.add_mul]; omega), hsz]
    have e : (i + 1) * sz + j - sz = i * sz + j := by rw [Nat.add_mul]; omega
    rw [e]
    simpa using this
theorem flatMap_len {α : Type} {sz : Nat} {cells : α → List Value} (hsz : ∀ x, (cells x).length = sz) : ∀ (l : List α), (l.flatMap cells).length = l.length * sz
  | [] => by simp
  | x :: r => by simp [hsz, flatMap_len hsz r, Nat.add_mul]; omega

/-- a cell of a row -/
theorem TopoAt.cell {w : World} {p R cap M nn : Nat} {L : List Fe} (h : TopoAt w p R cap M nn L) {i j : Nat} (hi : i < L.length) (hj : j < 4) : w.cell? ⟨R, i * 4 + j, none⟩ = (Fe.cells L[i])[j]? := by
  obtain ⟨cs, h1, h2, h3, h4⟩ := h.row
  rw [cell_of_block h1, ← flatMap_get (sz := 4) (cells := Fe.cells) (fun x => rfl) L i j hi hj, ← h4, List.getElem?_take, if_pos (by omega), Array.getElem?_toList]
theorem TopoAt.cellsOf {w : World} {p R cap M nn : Nat} {L : List Fe} (h : TopoAt w p R cap M nn L) {i : Nat} (hi : i < L.length) {f : Fe} (hf : L[i] = f) :
    w.cell? ⟨R, i * 4, none⟩ = some (.int .i64 f.spot.node) ∧ w.cell? ⟨R, i * 4 + 1, none⟩ = some (.int .i64 f.spot.domain) ∧ w.cell? ⟨R, i * 4 + 2, none⟩ = some (.int .u64 f.mask) ∧ w.cell? ⟨R, i * 4 + 3, none⟩ = some (.int .i64 f.cpus) := by
  subst hf
  exact ⟨h.cell hi (by omega) (j := 0), h.cell hi (by omega) (j := 1), h.cell hi (by omega) (j := 2), h.cell hi (by omega) (j := 3)⟩

theorem nodes_fn (p R cap M nn : Nat) (L : List Fe) (w : World) (h : TopoAt w p R cap M nn L) :
    Calls Try.prog 44 #[.pointer (some ⟨p, 0, none⟩)] w fun e w' => e = .returned (.int .i64 nn) ∧ w = w' := by
  have c2 : w.cell? ⟨p, 2, none⟩ = some (.int .i64 nn) := cell_of_block h.head 2
  clear h
  go_enter Try.func44, Try.ntmps44
  go_wp2
  go_ret
  exact ⟨rfl, rfl⟩

set_option maxHeartbeats 1000000 in
theorem index_some (p R cap M nn : Nat) (L : List Fe) (s : Sp) (hs : SpOk s) (k : Nat) (hk : posF L s = some k) (w : World) (h : TopoAt w p R cap M nn L) :
    Calls Try.prog 43 #[.pointer (some ⟨p, 0, none⟩), .agg #[.int .i64 s.node, .int .i64 s.domain]] w fun e w' => e = .returned (.tuple #[.int .i64 k, .bool true]) ∧ Below w.heap.size w w' := by
  obtain ⟨hkl, hks⟩ := posF_some hk
  have hB0 := (Below.refl w.heap.size w).alloc (Nat.le_refl _) (.cells #[.int .i64 s.node, .int .i64 s.domain] 41)
  have H1 := h.later hB0
  obtain ⟨es, c, m1, m2⟩ := H1.map
  have hl := look_idx s L 0
  rw [hk] at hl
  simp only [Option.map_some, Nat.zero_add] at hl
  have hlk : ∀ x : Later (w.alloc (.cells #[.int .i64 s.node, .int .i64 s.domain] 41)), (Instr.lookup 87 (.map (some M)) (.agg #[.int .i64 s.node, .int .i64 s.domain]) true).run Try.prog x.wd = .ok (.tuple #[.int .i64 k, .bool true]) x.wd := fun x => by
    have := Mp.lookup_ok (zero := .int .i64 0) spKey mapUnder (fun w => by kernel_rfl) ((x.block (lt_of_block m1)).trans m1) m2 hs
    rw [hl] at this
    exact this
  obtain ⟨l1, l2, l3⟩ := H1.lt
  have c0 : ∀ x : Later (w.alloc (.cells #[.int .i64 s.node, .int .i64 s.domain] 41)), x.wd.cell? ⟨p, 1, none⟩ = some (.map (some M)) := fun x => (x.cell l1).trans (cell_of_block H1.head 1)
  have c1 : ∀ x : Later (w.alloc (.cells #[.int .i64 s.node, .int .i64 s.domain] 41)), x.wd.cell? ⟨w.heap.size, 0, none⟩ = some (.int .i64 s.node) := fun x => (x.cell (by simp)).trans (cell_of_block (World.alloc_heap_new w _) 0)
  have c2 : ∀ x : Later (w.alloc (.cells #[.int .i64 s.node, .int .i64 s.domain] 41)), x.wd.cell? ⟨w.heap.size, 1, none⟩ = some (.int .i64 s.domain) := fun x => (x.cell (by simp)).trans (cell_of_block (World.alloc_heap_new w _) 1)
  have HC := Lib.hid (⟨c1, c2⟩ : _ ∧ _)
  obtain ⟨r1, r2, r3, r4⟩ := H1.cellsOf hkl rfl
  rw [hks] at r1 r2
  have hd0 := cell_of_block H1.head 0
  have HR := Lib.hid (⟨r1, r2, hd0⟩ : _ ∧ _ ∧ _)
  have HB := Lib.hid hB0
  have i0 : (k : Int) < L.length := by omega
  have l0 : w.heap.size < (w.alloc (.cells #[.int .i64 s.node, .int .i64 s.domain] 41)).heap.size := by simp
  have L1 := Lib.hid l1; have L2 := Lib.hid l2
  clear h hB0 H1 m1 m2 hl r1 r2 r3 r4 hd0 hks hk l1 l2 l3
  go_enter Try.func43, Try.ntmps43
  go_wp2_with fail
  refine wp_region_later (by kernel_rfl) (by kernel_rfl) ?_
  repeat (quiet_step (fail))
  refine wpQuiet_nil ?_
  rintro w3 ⟨⟨_, hb2⟩, rfl⟩
  clear c0 c1 c2 hlk
  have e0 : ∀ x : Later w3, x.wd.cell? ⟨p, 0, none⟩ = some (.slice (some ⟨R, 0, none⟩) L.length cap) := fun x => (x.cell (Nat.lt_of_lt_of_le L1.out hb2.size)).trans ((hb2.cell (p := ⟨p, 0, none⟩) L1.out).trans HR.out.2.2)
  have e1 : ∀ x : Later w3, x.wd.cell? ⟨R, k * 4, none⟩ = some (.int .i64 s.node) := fun x => (x.cell (Nat.lt_of_lt_of_le L2.out hb2.size)).trans ((hb2.cell (p := ⟨R, k * 4, none⟩) L2.out).trans HR.out.1)
  have e2 : ∀ x : Later w3, x.wd.cell? ⟨R, k * 4 + 1, none⟩ = some (.int .i64 s.domain) := fun x => (x.cell (Nat.lt_of_lt_of_le L2.out hb2.size)).trans ((hb2.cell (p := ⟨R, k * 4 + 1, none⟩) L2.out).trans HR.out.2.1)
  have e3 : ∀ x : Later w3, x.wd.cell? ⟨w.heap.size, 0, none⟩ = some (.int .i64 s.node) := fun x => (x.cell (Nat.lt_of_lt_of_le l0 hb2.size)).trans (HC.out.1 ⟨w3, hb2⟩)
  have e4 : ∀ x : Later w3, x.wd.cell? ⟨w.heap.size, 1, none⟩ = some (.int .i64 s.domain) := fun x => (x.cell (Nat.lt_of_lt_of_le l0 hb2.size)).trans (HC.out.2 ⟨w3, hb2⟩)
  have HB2 := Lib.hid (HB.out.trans (hb2.mono (by simp)))
  clear hb2 l0
  go_wp2_with fail
  refine wp_region_later (by kernel_rfl) (by kernel_rfl) ?_
  repeat (quiet_step (fail))
  refine wpQuiet_nil ?_
  rintro w5 ⟨⟨_, hb5⟩, rfl⟩
  clear e0 e1 e2 e3 e4
  go_wp2
  go_ret2
  exact ⟨rfl, HB2.out.trans (hb5.mono HB2.out.size)⟩
end Go.Proofs.Ytdmbjjladkdphaa
