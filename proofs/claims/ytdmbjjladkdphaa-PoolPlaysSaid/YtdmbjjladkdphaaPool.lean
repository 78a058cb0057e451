/-
  The pool in memory: its state, Free, Drained, there, Drain, Undrain.
-/
import Derived.Test.YtdmbjjladkdphaaTopoApi4
import Derived.Test.YtdmbjjladkdphaaMapDel
set_option linter.unusedVariables false
set_option linter.unusedSimpArgs false
namespace Go.Proofs.Ytdmbjjladkdphaa
open Go.RowKit Go.Maps

theorem intKey : Mp.KeyEnc Try.prog 3 okInt (Value.int .i64) where
  law := int_keyed Try.underlying3
  key := fun k hk => ⟨_, keyOf_int_mk Try.underlying3 hk⟩
  inj := fun a b h => by simpa using h
theorem mapUnderI : Try.prog.underlying 73 = some (.map 3 3) := by kernel_rfl

def drM (dr : List Int) : List (Int × Value) := dr.map fun n => (n, Value.int .i64 1)
theorem look_dr (n : Int) : ∀ dr : List Int, Mp.look (drM dr) n = if n ∈ dr then some (.int .i64 1) else none
  | [] => rfl
  | x :: r => by
    have ih := look_dr n r
    unfold Mp.look drM at ih ⊢
    rw [List.map_cons, List.find?_cons]
    by_cases e : x = n
    · subst e; simp
    · have h1 : decide ((x, Value.int .i64 1).1 = n) = false := by simpa using e
      simp only [h1]
      rw [ih]
      by_cases h2 : n ∈ r
      · simp [h2]
      · have h3 : ¬ n = x := fun e' => e e'.symm
        simp [h2, h3]
theorem del_dr (n : Int) (dr : List Int) : Mp.del (drM dr) n = drM (dr.filter fun x => decide (x ≠ n)) := by
  unfold Mp.del drM
  rw [List.filter_map]
  congr 1
theorem put_dr {n : Int} {dr : List Int} (h : n ∉ dr) : Mp.put (drM dr) n (.int .i64 1) = drM (dr ++ [n]) := by
  unfold Mp.put
  rw [look_dr, if_neg h]
  simp [drM]

/-- The pool p: its cluster's topology T, what is free in the block F, drained nodes in the map D. -/
structure PoolAt (w : World) (p T R cap M nn : Nat) (A : List Fe) (F D : Nat) (fr : List Fe) (dr : List Int) : Prop where
  head : w.heap[p]? = some (.cells #[.pointer (some ⟨T, 0, none⟩), .slice (some ⟨F, 0, none⟩) fr.length fr.length, .map (some D)] 75 (0, 0))
  topo : TopoAt w T R cap M nn A
  row : w.heap[F]? = some (.cells (fr.flatMap Fe.cells).toArray 45 (0, 0))
  drn : ∃ es c, w.heap[D]? = some (.map es c) ∧ Mp.Ents okInt (Value.int .i64) es (drM dr)
  apart : (p ≠ F ∧ p ≠ D ∧ F ≠ D) ∧ (p ≠ T ∧ p ≠ R ∧ p ≠ M) ∧ (F ≠ T ∧ F ≠ R ∧ F ≠ M) ∧ (D ≠ T ∧ D ≠ R ∧ D ≠ M)
  len : fr.length = A.length
/-- its blocks -/
def PF (p T R M F D q : Nat) : Prop := (q = p ∨ q = F ∨ q = D) ∨ q = T ∨ q = R ∨ q = M
variable {w w' : World} {p T R cap M nn F D : Nat} {A fr : List Fe} {dr : List Int}
theorem PoolAt.lt (h : PoolAt w p T R cap M nn A F D fr dr) {q : Nat} (hq : PF p T R M F D q) : q < w.heap.size := by
  obtain ⟨es, c, h1, h2⟩ := h.drn
  have h3 := h.topo.lt
  rcases hq with (rfl | rfl | rfl) | rfl | rfl | rfl
  · exact lt_of_block h.head
  · exact lt_of_block h.row
  · exact lt_of_block h1
  · exact h3.1
  · exact h3.2.1
  · exact h3.2.2
theorem PoolAt.frame (h : PoolAt w p T R cap M nn A F D fr dr) (hs : ∀ q, PF p T R M F D q → w'.heap[q]? = w.heap[q]?) : PoolAt w' p T R cap M nn A F D fr dr := by
  obtain ⟨es, c, h1, h2⟩ := h.drn
  exact ⟨(hs _ (.inl (.inl rfl))).trans h.head, h.topo.frame (hs _ (.inr (.inl rfl))) (hs _ (.inr (.inr (.inl rfl)))) (hs _ (.inr (.inr (.inr rfl)))), (hs _ (.inl (.inr (.inl rfl)))).trans h.row, ⟨es, c, (hs _ (.inl (.inr (.inr rfl)))).trans h1, h2⟩, h.apart, h.len⟩
theorem PoolAt.later (h : PoolAt w p T R cap M nn A F D fr dr) (hb : Below w.heap.size w w') : PoolAt w' p T R cap M nn A F D fr dr := h.frame fun q hq => hb.block q (h.lt hq)
theorem PoolAt.cell (h : PoolAt w p T R cap M nn A F D fr dr) {i j : Nat} (hi : i < fr.length) (hj : j < 4) : w.cell? ⟨F, i * 4 + j, none⟩ = (Fe.cells fr[i])[j]? := by
  rw [cell_of_block h.row, List.getElem?_toArray, flatMap_get (sz := 4) (cells := Fe.cells) (fun x => rfl) fr i j hi hj]
theorem PoolAt.cellsOf (h : PoolAt w p T R cap M nn A F D fr dr) {i : Nat} (hi : i < fr.length) {f : Fe} (hf : fr[i] = f) :
    w.cell? ⟨F, i * 4, none⟩ = some (.int .i64 f.spot.node) ∧ w.cell? ⟨F, i * 4 + 1, none⟩ = some (.int .i64 f.spot.domain) ∧ w.cell? ⟨F, i * 4 + 2, none⟩ = some (.int .u64 f.mask) ∧ w.cell? ⟨F, i * 4 + 3, none⟩ = some (.int .i64 f.cpus) := by
  subst hf
  exact ⟨h.cell hi (by omega) (j := 0), h.cell hi (by omega) (j := 1), h.cell hi (by omega) (j := 2), h.cell hi (by omega) (j := 3)⟩
theorem PoolAt.lookV (h : PoolAt w p T R cap M nn A F D fr dr) {n : Int} (hn : okInt n) :
    (Instr.lookup 73 (.map (some D)) (.int .i64 n) false).run Try.prog w = .ok (.int .i64 (if n ∈ dr then 1 else 0)) w := by
  obtain ⟨es, c, m1, m2⟩ := h.drn
  have := Mp.lookup_v (zero := .int .i64 0) intKey mapUnderI (fun w => by kernel_rfl) m1 m2 hn
  rw [look_dr] at this
  rw [this]
  split <;> rfl

theorem drained_any (h : PoolAt w p T R cap M nn A F D fr dr) (n : Int) (hn : okInt n) :
    Calls Try.prog 20 #[.pointer (some ⟨p, 0, none⟩), .int .i64 n] w fun e w' => e = .returned (.bool (decide (n ∈ dr))) ∧ w' = w := by
  have hlk := h.lookV hn
  have c2 : w.cell? ⟨p, 2, none⟩ = some (.map (some D)) := cell_of_block h.head 2
  clear h
  by_cases hd : n ∈ dr
  · rw [if_pos hd] at hlk
    have HD := Lib.hid (show decide (n ∈ dr) = true by simpa using hd)
    rw [HD.out]
    clear hd
    go_enter Try.func20, Try.ntmps20
    go_wp2
    go_ret
    exact ⟨rfl, rfl⟩
  · rw [if_neg hd] at hlk
    have HD := Lib.hid (show decide (n ∈ dr) = false by simpa using hd)
    rw [HD.out]
    clear hd
    go_enter Try.func20, Try.ntmps20
    go_wp2
    go_ret
    exact ⟨rfl, rfl⟩
theorem there_any (h : PoolAt w p T R cap M nn A F D fr dr) (n : Int) (r : Bool) (hr : decide (0 ≤ n ∧ n < nn) = r) :
    Calls Try.prog 33 #[.pointer (some ⟨p, 0, none⟩), .int .i64 n] w fun e w' => e = .returned (.bool r) ∧ w' = w := by
  subst hr
  have HN := Lib.hid (nodes_fn T R cap M nn A w h.topo)
  have c0 : w.cell? ⟨p, 0, none⟩ = some (.pointer (some ⟨T, 0, none⟩)) := cell_of_block h.head 0
  clear h
  by_cases h0 : 0 ≤ n
  · by_cases h1 : n < nn
    · have HD := Lib.hid (show decide (0 ≤ n ∧ n < nn) = true by simp [h0, h1])
      rw [HD.out]
      go_enter Try.func33, Try.ntmps33
      go_wp2_with fail
      refine HN.out.mono ?_
      rintro e w1 ⟨rfl, rfl⟩
      go_wp2
      go_ret
      exact ⟨rfl, rfl⟩
    · have HD := Lib.hid (show decide (0 ≤ n ∧ n < nn) = false by simp [h1])
      rw [HD.out]
      go_enter Try.func33, Try.ntmps33
      go_wp2_with fail
      refine HN.out.mono ?_
      rintro e w1 ⟨rfl, rfl⟩
      go_wp2
      go_ret
      refine ⟨?_, rfl⟩
      exact ret_bool (by simp; omega)
  · have HD := Lib.hid (show decide (0 ≤ n ∧ n < nn) = false by simp [h0])
    rw [HD.out]
    go_enter Try.func33, Try.ntmps33
    go_wp2_with fail
    go_ret
    exact ⟨rfl, rfl⟩

/-- what the calls about nodes tell, and which are drained behind them -/
def drainF (nn : Nat) (dr : List Int) (n : Int) : Int × List Int := if ¬ (0 ≤ n ∧ n < nn) then (1, dr) else if n ∈ dr then (4, dr) else (0, dr ++ [n])
def undrainF (nn : Nat) (dr : List Int) (n : Int) : Int × List Int := if ¬ (0 ≤ n ∧ n < nn) then (1, dr) else if n ∉ dr then (3, dr) else (0, dr.filter fun x => decide (x ≠ n))
def TurnPost (p T R cap M nn : Nat) (A : List Fe) (F D : Nat) (fr : List Fe) (r : Int × List Int) (w : World) (e : Ending) (w' : World) : Prop :=
  e = .returned (.int .i64 r.1) ∧ PoolAt w' p T R cap M nn A F D fr r.2 ∧ Fr w.heap.size (fun q => q = D) w w'
theorem PoolAt.put (h : PoolAt w p T R cap M nn A F D fr dr) {es' : Array MapEntry} {c' : Nat} {dr' : List Int} (he : Mp.Ents okInt (Value.int .i64) es' (drM dr')) :
    PoolAt (w.putObj D (.map es' c')) p T R cap M nn A F D fr dr' ∧ Fr w.heap.size (fun q => q = D) w (w.putObj D (.map es' c')) := by
  have hf := (Fr.refl w.heap.size (fun q => q = D) w).putObj (r := D) (.inr rfl) (.map es' c')
  have ha := h.apart
  have hl := fun q hq => h.lt (q := q) hq
  obtain ⟨es, c, m1, m2⟩ := h.drn
  have same : ∀ q, q < w.heap.size → q ≠ D → (w.putObj D (.map es' c')).heap[q]? = w.heap[q]? := fun q h1 h2 => hf.block q h1 h2
  refine ⟨⟨(same p (hl p (.inl (.inl rfl))) ha.1.2.1).trans h.head, h.topo.frame (same T (hl T (.inr (.inl rfl))) ha.2.2.2.1.symm) (same R (hl R (.inr (.inr (.inl rfl)))) ha.2.2.2.2.1.symm) (same M (hl M (.inr (.inr (.inr rfl)))) ha.2.2.2.2.2.symm), (same F (hl F (.inl (.inr (.inl rfl)))) ha.1.2.2).trans h.row, ⟨es', c', ?_, he⟩, ha, h.len⟩, hf⟩
  have hD : D < w.heap.size := hl D (.inl (.inr (.inr rfl)))
  simp [World.putObj, hD]
theorem drain_any (h : PoolAt w p T R cap M nn A F D fr dr) (n : Int) (hn : okInt n) :
    Calls Try.prog 19 #[.pointer (some ⟨p, 0, none⟩), .int .i64 n] w (TurnPost p T R cap M nn A F D fr (drainF nn dr n) w) := by
  have H := Lib.hid h
  have lp := h.lt (.inl (.inl rfl))
  have c2 : w.cell? ⟨p, 2, none⟩ = some (.map (some D)) := cell_of_block h.head 2
  by_cases h0 : 0 ≤ n ∧ n < nn
  · by_cases hd : n ∈ dr
    · have HD := Lib.hid (show drainF nn dr n = (4, dr) by unfold drainF; rw [if_neg (by simpa using h0), if_pos hd])
      have HT := Lib.hid (there_any h n true (by simpa using h0))
      have HDR := Lib.hid (drained_any h n hn)
      rw [show decide (n ∈ dr) = true by simpa using hd] at HDR
      rw [HD.out]
      clear h h0 hd
      go_enter Try.func19, Try.ntmps19
      go_wp2_with fail
      refine HT.out.mono ?_
      rintro e w1 ⟨rfl, rfl⟩
      go_wp2_with fail
      refine HDR.out.mono ?_
      rintro e w1 ⟨rfl, rfl⟩
      go_wp2
      go_ret
      exact ⟨rfl, H.out, Fr.refl _ _ _⟩
    · have HD := Lib.hid (show drainF nn dr n = (0, dr ++ [n]) by unfold drainF; rw [if_neg (by simpa using h0), if_neg hd])
      have HT := Lib.hid (there_any h n true (by simpa using h0))
      have HDR := Lib.hid (drained_any h n hn)
      rw [show decide (n ∈ dr) = false by simpa using hd] at HDR
      have hlk := h.lookV hn
      rw [if_neg hd] at hlk
      obtain ⟨es, c, m1, m2⟩ := h.drn
      obtain ⟨es', c', hup, he'⟩ := Mp.update intKey mapUnderI D c m2 hn (.int .i64 1)
      rw [put_dr hd] at he'
      have hrun := hup _ m1
      have HE := Lib.hid he'
      rw [HD.out]
      clear h h0 hd m1 m2 hup he'
      go_enter Try.func19, Try.ntmps19
      go_wp2_with fail
      refine HT.out.mono ?_
      rintro e w1 ⟨rfl, rfl⟩
      go_wp2_with fail
      refine HDR.out.mono ?_
      rintro e w1 ⟨rfl, rfl⟩
      go_wp2_with fail
      go_ret
      have := H.out.put (c' := c') HE.out
      exact ⟨rfl, this.1, this.2⟩
  · have HD := Lib.hid (show drainF nn dr n = (1, dr) by unfold drainF; rw [if_pos h0])
    have HT := Lib.hid (there_any h n false (by simpa using h0))
    rw [HD.out]
    clear h h0
    go_enter Try.func19, Try.ntmps19
    go_wp2_with fail
    refine HT.out.mono ?_
    rintro e w1 ⟨rfl, rfl⟩
    go_wp2
    go_ret
    exact ⟨rfl, H.out, Fr.refl _ _ _⟩
theorem undrain_any (h : PoolAt w p T R cap M nn A F D fr dr) (n : Int) (hn : okInt n) :
    Calls Try.prog 17 #[.pointer (some ⟨p, 0, none⟩), .int .i64 n] w (TurnPost p T R cap M nn A F D fr (undrainF nn dr n) w) := by
  have H := Lib.hid h
  have lp := h.lt (.inl (.inl rfl))
  have c2 : w.cell? ⟨p, 2, none⟩ = some (.map (some D)) := cell_of_block h.head 2
  by_cases h0 : 0 ≤ n ∧ n < nn
  · by_cases hd : n ∉ dr
    · have HD := Lib.hid (show undrainF nn dr n = (3, dr) by unfold undrainF; rw [if_neg (by simpa using h0), if_pos hd])
      have HT := Lib.hid (there_any h n true (by simpa using h0))
      have HDR := Lib.hid (drained_any h n hn)
      rw [show decide (n ∈ dr) = false by simpa using hd] at HDR
      rw [HD.out]
      clear h h0 hd
      go_enter Try.func17, Try.ntmps17
      go_wp2_with fail
      refine HT.out.mono ?_
      rintro e w1 ⟨rfl, rfl⟩
      go_wp2_with fail
      refine HDR.out.mono ?_
      rintro e w1 ⟨rfl, rfl⟩
      go_wp2
      go_ret
      exact ⟨rfl, H.out, Fr.refl _ _ _⟩
    · have HD := Lib.hid (show undrainF nn dr n = (0, dr.filter fun x => decide (x ≠ n)) by unfold undrainF; rw [if_neg (by simpa using h0), if_neg hd])
      have HT := Lib.hid (there_any h n true (by simpa using h0))
      have HDR := Lib.hid (drained_any h n hn)
      rw [show decide (n ∈ dr) = true by simpa using hd] at HDR
      obtain ⟨es, c, m1, m2⟩ := h.drn
      obtain ⟨es', hdel, he'⟩ := Mp.drop intKey mapUnderI 0 D c m2 hn
      rw [del_dr] at he'
      have hrun := hdel _ m1
      have HE := Lib.hid he'
      rw [HD.out]
      clear h h0 hd m1 m2 hdel he'
      go_enter Try.func17, Try.ntmps17
      go_wp2_with fail
      refine HT.out.mono ?_
      rintro e w1 ⟨rfl, rfl⟩
      go_wp2_with fail
      refine HDR.out.mono ?_
      rintro e w1 ⟨rfl, rfl⟩
      go_wp2_with fail
      go_ret
      have := H.out.put (c' := c) HE.out
      exact ⟨rfl, this.1, this.2⟩
  · have HD := Lib.hid (show undrainF nn dr n = (1, dr) by unfold undrainF; rw [if_pos h0])
    have HT := Lib.hid (there_any h n false (by simpa using h0))
    rw [HD.out]
    clear h h0
    go_enter Try.func17, Try.ntmps17
    go_wp2_with fail
    refine HT.out.mono ?_
    rintro e w1 ⟨rfl, rfl⟩
    go_wp2
    go_ret
    exact ⟨rfl, H.out, Fr.refl _ _ _⟩

set_option maxHeartbeats 1000000 in
theorem free_any (h : PoolAt w p T R cap M nn A F D fr dr) (hl : fr.length ≤ 1000000) :
    Calls Try.prog 15 #[.pointer (some ⟨p, 0, none⟩)] w fun e w' => e = .returned (.slice (some ⟨w.heap.size, 0, none⟩) fr.length fr.length) ∧ w'.heap[w.heap.size]? = some (.cells (fr.flatMap Fe.cells).toArray 45 (0, 0)) ∧ Below w.heap.size w w' := by
  have c0 : w.cell? ⟨p, 1, none⟩ = some (.slice (some ⟨F, 0, none⟩) fr.length fr.length) := cell_of_block h.head 1
  obtain ⟨n, hn⟩ : ∃ n, fr.length = n := ⟨_, rfl⟩
  have HN := Lib.hid hn; have H := Lib.hid h
  have lp := h.lt (.inl (.inl rfl))
  rw [hn] at c0 hl
  have hmk := fun w : World => run_make_zero (w := w) n hl
  have hsrc : ∀ (j : Nat) (u : Value), (fr.flatMap Fe.cells)[j]? = some u → (w.alloc (.cells (madeCells #[.int .i64 0, .int .i64 0, .int .u64 0, .int .i64 0] (n * 4)) 45)).cell? ((⟨F, 0, none⟩ : Addr).add j) = some u := fun j u hu => by
    have h1 := (H.out.later ((Below.refl w.heap.size w).alloc (Nat.le_refl _) (.cells (madeCells #[.int .i64 0, .int .i64 0, .int .u64 0, .int .i64 0] (n * 4)) 45))).row
    have hadd : (⟨F, 0, none⟩ : Addr).add j = ⟨F, j, none⟩ := by
      unfold Addr.add
      split
      · rename_i e'; rw [e']
      · simp
    rw [hadd, cell_of_block h1, List.getElem?_toArray]
    exact hu
  have HR := Lib.hid (run_copy_all (P := Try.prog) (w.alloc (.cells (madeCells #[.int .i64 0, .int .i64 0, .int .u64 0, .int .i64 0] (n * 4)) 45)) 38 3 45 4 w.heap.size n ⟨F, 0, none⟩ n _ 45 (fr.flatMap Fe.cells) Try.underlying38 (by kernel_rfl) (World.alloc_heap_new w _)
    (by rw [flat_len, hn]) (by rw [flat_len, hn, size_madeCells]) hsrc (fe_one fr))
  clear h hn hsrc
  go_enter Try.func15, Try.ntmps15
  go_wp2_with (refine Lib.wpList_copy_run _ rfl _ _ 38 38 rfl (.slice (some ⟨w.heap.size, 0, none⟩) n n) (.slice (some ⟨F, 0, none⟩) n n) rfl rfl HR.out ?_)
  go_wp2
  go_ret
  exact ⟨by rw [HN.out]; rfl, setRow_block (cs := (fr.flatMap Fe.cells).toArray) (World.alloc_heap_new w (.cells (madeCells #[.int .i64 0, .int .i64 0, .int .u64 0, .int .i64 0] (n * 4)) 45)), bw_setRow (bw_alloc (Below.refl _ _)) (Nat.le_refl _)⟩
end Go.Proofs.Ytdmbjjladkdphaa
