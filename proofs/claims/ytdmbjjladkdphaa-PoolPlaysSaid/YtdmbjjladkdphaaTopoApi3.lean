/-
  Topo's functions: All, Total; the laws' few: contracts.
-/
import Derived.Test.YtdmbjjladkdphaaTopoApi2
set_option linter.unusedVariables false
set_option linter.unusedSimpArgs false
namespace Go.Proofs.Ytdmbjjladkdphaa
open Go.RowKit Go.Maps

theorem made_block {α : Type} {w0 w : World} {k : Nat} {t : TypeId} {sz : Nat} {cells : α → List Value} {xs : List α} (hsz : ∀ x, (cells x).length = sz) (hb : w.heap[k]? = some (.cells (xs.flatMap cells).toArray t (0, 0))) (hk : w0.heap.size ≤ k) (hm : xs.length ≤ maxLen) :
    Made w0 w (.slice (some ⟨k, 0, none⟩) xs.length xs.length) sz cells xs := by
  refine ⟨Rd.SliceOf.of_block hb hm (fun i hi j hj => ?_), (fun a n c h => by cases h; exact hk), (fun a n c h => by cases h; exact ⟨_, _, hb⟩)⟩
  rw [hsz] at hj
  rw [List.getElem?_toArray, flatMap_get hsz xs i j hi hj, List.getElem?_eq_getElem]

theorem run_make_zero {w : World} (n : Nat) (hn : n ≤ 1000000) : (Instr.makeSlice 38 (.int .i64 n) (.int .i64 n)).run Try.prog w = .ok (.slice (some ⟨w.heap.size, 0, none⟩) n n) (w.alloc (.cells (madeCells #[.int .i64 0, .int .i64 0, .int .u64 0, .int .i64 0] (n * 4)) 45)) := by
  obtain ⟨i0, hi0, hz0, hz1, hz2⟩ := info_parts infoFree
  have := run_makeSlice (P := Try.prog) w 38 45 i0 _ Try.underlying38 hi0 hz0 .i64 .i64 n n (by omega) (by omega) (by rw [hz1]; omega) (by rw [hz2]; omega) (by omega)
  rw [hz1] at this
  exact this

theorem fe_one (L : List Fe) : ∀ u ∈ L.flatMap Fe.cells, u.oneCell' = true := by
  intro u hu
  obtain ⟨x, _, hx⟩ := List.mem_flatMap.1 hu
  simp [Fe.cells] at hx
  rcases hx with rfl | rfl | rfl | rfl <;> rfl

set_option maxHeartbeats 1000000 in
theorem all_any (p R cap M nn : Nat) (L : List Fe) (w : World) (h : TopoAt w p R cap M nn L) (hl : L.length ≤ 1000000) :
    Calls Try.prog 30 #[.pointer (some ⟨p, 0, none⟩)] w fun e w' => ∃ v, e = .returned v ∧ Made w w' v 4 Fe.cells L ∧ Below w.heap.size w w' := by
  have c0 : w.cell? ⟨p, 0, none⟩ = some (.slice (some ⟨R, 0, none⟩) L.length cap) := cell_of_block h.head 0
  obtain ⟨n, hn⟩ : ∃ n, L.length = n := ⟨_, rfl⟩
  have HN := Lib.hid hn; have H := Lib.hid h
  have lp := h.lt.1
  rw [hn] at c0 hl
  have hmk := fun w : World => run_make_zero (w := w) n hl
  have hsrc : ∀ (j : Nat) (u : Value), (L.flatMap Fe.cells)[j]? = some u → (w.alloc (.cells (madeCells #[.int .i64 0, .int .i64 0, .int .u64 0, .int .i64 0] (n * 4)) 45)).cell? ((⟨R, 0, none⟩ : Addr).add j) = some u := fun j u hu => by
    obtain ⟨cs, h1, h2, h3, h4⟩ := (H.out.later ((Below.refl w.heap.size w).alloc (Nat.le_refl _) (.cells (madeCells #[.int .i64 0, .int .i64 0, .int .u64 0, .int .i64 0] (n * 4)) 45))).row
    have hadd : (⟨R, 0, none⟩ : Addr).add j = ⟨R, j, none⟩ := by
      unfold Addr.add
      split
      · rename_i e'; rw [e']
      · simp
    rw [hadd, cell_of_block h1]
    have hj : j < L.length * 4 := by have := (List.getElem?_eq_some_iff.1 hu).1; rwa [flat_len] at this
    rw [← h4, List.getElem?_take, if_pos hj, Array.getElem?_toList] at hu
    exact hu
  have HR := Lib.hid (run_copy_all (P := Try.prog) (w.alloc (.cells (madeCells #[.int .i64 0, .int .i64 0, .int .u64 0, .int .i64 0] (n * 4)) 45)) 38 3 45 4 w.heap.size n ⟨R, 0, none⟩ cap _ 45 (L.flatMap Fe.cells) Try.underlying38 (by kernel_rfl) (World.alloc_heap_new w _)
    (by rw [flat_len, hn]) (by rw [flat_len, hn, size_madeCells]) hsrc (fe_one L))
  clear h hn hsrc
  go_enter Try.func30, Try.ntmps30
  go_wp2_with (refine Lib.wpList_copy_run _ rfl _ _ 38 38 rfl (.slice (some ⟨w.heap.size, 0, none⟩) n n) (.slice (some ⟨R, 0, none⟩) n cap) rfl rfl HR.out ?_)
  go_wp2
  go_ret
  refine ⟨_, rfl, ?_, bw_setRow (bw_alloc (Below.refl _ _)) (Nat.le_refl _)⟩
  have := made_block (w0 := w) (sz := 4) (cells := Fe.cells) (xs := L) (fun x => rfl) (setRow_block (cs := (L.flatMap Fe.cells).toArray) (World.alloc_heap_new w (.cells (madeCells #[.int .i64 0, .int .i64 0, .int .u64 0, .int .i64 0] (n * 4)) 45))) (Nat.le_refl _) (by rw [HN.out]; unfold maxLen; omega)
  rw [HN.out] at this
  exact this

noncomputable def gsum : List Fe → Int
  | [] => 0
  | f :: r => (Mk.cnt f.mask.toNat : Int) + gsum r
def csum : List Fe → Int
  | [] => 0
  | f :: r => f.cpus + csum r
theorem gsum_snoc : ∀ (a : List Fe) (f : Fe), gsum (a ++ [f]) = gsum a + (Mk.cnt f.mask.toNat : Int)
  | [], f => by simp [gsum]
  | x :: a, f => by simp only [List.cons_append, gsum, gsum_snoc a f]; omega
theorem csum_snoc : ∀ (a : List Fe) (f : Fe), csum (a ++ [f]) = csum a + f.cpus
  | [], f => by simp [csum]
  | x :: a, f => by simp only [List.cons_append, csum, csum_snoc a f]; omega
theorem gsum_append : ∀ (a b : List Fe), gsum (a ++ b) = gsum a + gsum b
  | [], b => by simp [gsum]
  | x :: a, b => by simp only [List.cons_append, gsum, gsum_append a b]; omega
theorem csum_append : ∀ (a b : List Fe), csum (a ++ b) = csum a + csum b
  | [], b => by simp [csum]
  | x :: a, b => by simp only [List.cons_append, csum, csum_append a b]; omega
theorem cnt_le64 (m : Nat) : Mk.cnt m ≤ 64 := by
  rw [← Mk.units_len]
  have : ∀ (k o m : Nat), (Mk.us o k m).length ≤ k := fun k => by
    induction k with
    | zero => intro o m; simp [Mk.us]
    | succ k ih =>
      intro o m
      simp only [Mk.us]
      have := ih (o + 1) (m / 2)
      split <;> simp <;> omega
  exact this 64 0 m
/-- what a spot may be -/
def FeOk (f : Fe) : Prop := 0 ≤ f.mask ∧ f.mask < 18446744073709551616 ∧ 0 ≤ f.cpus ∧ f.cpus ≤ 1024
theorem gsum_bd : ∀ (a : List Fe), 0 ≤ gsum a ∧ gsum a ≤ 64 * a.length
  | [] => by simp [gsum]
  | x :: a => by
    have := gsum_bd a
    have := cnt_le64 x.mask.toNat
    simp only [gsum, List.length_cons]
    omega
theorem csum_bd : ∀ (a : List Fe), (∀ f ∈ a, FeOk f) → 0 ≤ csum a ∧ csum a ≤ 1024 * a.length
  | [], _ => by simp [csum]
  | x :: a, h => by
    have := csum_bd a fun f hf => h f (List.mem_cons_of_mem _ hf)
    have h2 := h x (List.mem_cons_self ..)
    unfold FeOk at h2
    simp only [csum, List.length_cons]
    omega
end Go.Proofs.Ytdmbjjladkdphaa
