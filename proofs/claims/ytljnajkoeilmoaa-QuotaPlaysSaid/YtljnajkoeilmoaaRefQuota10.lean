/-
  The document's accounts (ensembleref06): New.
-/
import Derived.Test.YtljnajkoeilmoaaRefQuota9
import Derived.Laws.MakeOwn
set_option linter.unusedVariables false
set_option linter.unusedSimpArgs false
namespace Go.Proofs.Ytljnajkoeilmoaa
open Go.RowKit

/-- a slice's elements, cell by cell, in all later worlds -/
theorem news_of {α : Type} {w : World} {v : Value} {sz : Nat} {cells : α → List Value} {xs : List α} (hsz : ∀ x, (cells x).length = sz) (hpos : 0 < sz) (h : Rd.SliceOf w v sz cells xs) (hne : xs ≠ []) :
    ∃ b off cap, v = .slice (some ⟨b, off, none⟩) xs.length cap ∧ xs.length ≤ cap ∧ cap ≤ maxLen ∧ b < w.heap.size ∧ ∀ w', Below w.heap.size w w' → ∀ (j : Nat) (u : Value), (xs.flatMap cells)[j]? = some u → w'.cell? ((⟨b, off, none⟩ : Addr).add j) = some u := by
  obtain ⟨b, off, cap, rfl, h1, h2, hb, hcell⟩ := h.plain hne (fun x _ => by rw [hsz]; exact hpos)
  refine ⟨b, off, cap, rfl, h1, h2, hb, fun w' hB j u hu => ?_⟩
  have hadd : (⟨b, off, none⟩ : Addr).add j = ⟨b, off + j, none⟩ := by
    unfold Addr.add
    split
    · rename_i e'; rw [e']; rfl
    · rfl
  rw [hadd, hB.cell (p := ⟨b, off + j, none⟩) hb]
  have key : ∀ (l : List α) (i j : Nat) (hi : i < l.length) (hj : j < sz), (l.flatMap cells)[i * sz + j]? = (cells l[i])[j]? := by
    intro l
    induction l with
    | nil => intro i j hi; simp at hi
    | cons x r ih =>
      intro i j hi hj
      rw [List.flatMap_cons]
      cases i with
      | zero => rw [List.getElem?_append_left (by rw [hsz]; omega)]; simp
      | succ i =>
        rw [List.getElem?_append_right (by rw [hsz, Nat.add_mul]; omega), hsz]
        have : (i + 1) * sz + j - sz = i * sz + j := by rw [Nat.add_mul]; omega
        rw [this]
        simpa using ih i j (by simpa using hi) hj
  have hlen : (xs.flatMap cells).length = xs.length * sz := by
    clear hu hcell h1 h2 h key hne
    induction xs with
    | nil => simp
    | cons x r ih => simp [hsz, ih, Nat.add_mul]; omega
  have hj : j < xs.length * sz := by rw [← hlen]; exact (List.getElem?_eq_some_iff.1 hu).1
  have hdm : j = j / sz * sz + j % sz := by rw [Nat.mul_comm]; exact (Nat.div_add_mod j sz).symm
  have hm : j % sz < sz := Nat.mod_lt _ hpos
  have hi : j / sz < xs.length := Nat.div_lt_of_lt_mul (by rw [Nat.mul_comm]; exact hj)
  have h3 := key xs (j / sz) (j % sz) hi hm
  rw [← hdm, hu] at h3
  have h4 := hcell (j / sz) hi (j % sz) (by rw [hsz]; exact hm)
  rw [← hdm] at h4
  rw [h4]
  rw [List.getElem?_eq_getElem (by rw [hsz]; exact hm)] at h3
  exact h3.symm

def RNewPost (st : List Ac) (w : World) (e : Ending) (w' : World) : Prop :=
  ∃ m rq ru capq capu, e = .returned (.pointer (some ⟨m, 0, none⟩)) ∧ RAcc w' m rq ru capq capu st ∧ w.heap.size ≤ m ∧ w.heap.size ≤ rq ∧ w.heap.size ≤ ru ∧ capu ≤ maxLen ∧ Below w.heap.size w w'

theorem rnew_ends {w w' : World} {qs : List Un} {m rq ru capq : Nat} (hB : Below w.heap.size w w') (hm : w.heap.size ≤ m) (hq : w.heap.size ≤ rq) (hu : w.heap.size ≤ ru) (nd : m ≠ ru ∧ m ≠ rq ∧ rq ≠ ru)
    (h1 : w'.heap[m]? = some (.cells #[.slice (some ⟨rq, 0, none⟩) qs.length capq, .slice (some ⟨ru, 0, none⟩) qs.length qs.length] 48 (0, 0)))
    (h2 : w'.ownsRow w.heap.size 25 2 (.slice (some ⟨rq, 0, none⟩) qs.length capq) qs.length (qs.flatMap Un.cells)) (hp : 0 < qs.length)
    (h3 : w'.heap[ru]? = some (.cells (madeCells #[.int .i64 0, .int .i64 0] (qs.length * 2)) 25 (0, 0))) : RNewPost (qs.map Un.start) w (.returned (.pointer (some ⟨m, 0, none⟩))) w' := by
  obtain ⟨hl, ⟨h, h0⟩ | ⟨g, cap, cur, hv, hg, hc, hn, hmx, hs, ht⟩⟩ := h2
  · omega
  · simp only [Value.slice.injEq, Option.some.injEq, Addr.mk.injEq, and_true, true_and] at hv
    obtain ⟨rfl, rfl⟩ := hv
    refine ⟨m, rq, ru, capq, qs.length, rfl, ⟨nd, by simpa using hn, by rw [List.length_map]; exact h1, ⟨cur, hc, fun i hi => ?_⟩, ⟨_, h3, fun i hi => ?_⟩⟩, hm, hq, hu, by omega, hB⟩
    · have hi' : i < qs.length := by simpa using hi
      have h4 : ∀ j, j < 2 → cur[i * 2 + j]? = (Un.cells qs[i])[j]? := fun j hj => by
        have h5 : (cur.toList.take (qs.length * 2))[i * 2 + j]? = cur.toList[i * 2 + j]? := by rw [List.getElem?_take, if_pos (by omega)]
        rw [ht] at h5
        rw [← Array.getElem?_toList, ← h5]
        have key : ∀ (l : List Un) (i : Nat) (hi : i < l.length), (l.flatMap Un.cells)[i * 2 + j]? = (Un.cells l[i])[j]? := by
          intro l
          induction l with
          | nil => intro i hi; simp at hi
          | cons x r ih =>
            intro i hi
            rw [List.flatMap_cons]
            cases i with
            | zero => rw [List.getElem?_append_left (by simp [Un.cells]; omega)]; simp
            | succ i =>
              rw [List.getElem?_append_right (by simp [Un.cells]; omega)]
              have : (i + 1) * 2 + j - (Un.cells x).length = i * 2 + j := by simp [Un.cells]; omega
              rw [this]
              simpa using ih i (by simpa using hi)
        exact key qs i hi'
      have h5 := h4 0 (by omega)
      have h6 := h4 1 (by omega)
      simp only [List.getElem_map]
      exact ⟨h5, h6⟩
    · have hi' : i < qs.length := by simpa using hi
      have h4 : ∀ j, j < 2 → (madeCells #[.int .i64 0, .int .i64 0] (qs.length * 2))[i * 2 + j]? = some (.int .i64 0) := fun j hj => by
        have hlt : i * 2 + j < (madeCells #[Value.int .i64 0, .int .i64 0] (qs.length * 2)).size := by rw [size_madeCells]; omega
        rw [Array.getElem?_eq_getElem hlt]
        simp only [madeCells, Array.getElem_map, Array.getElem_range]
        have h5 : (i * 2 + j) % (#[Value.int .i64 0, .int .i64 0] : Array Value).size = j := by simp; omega
        rw [h5]
        have : j = 0 ∨ j = 1 := by omega
        rcases this with rfl | rfl <;> rfl
      have h5 := h4 0 (by omega)
      have h6 := h4 1 (by omega)
      simp only [List.getElem_map]
      exact ⟨h5, h6⟩

set_option maxHeartbeats 2000000 in
theorem rnew_any (v : Value) (qs : List Un) (w : World) (s : Rd.SliceOf w v 2 Un.cells qs) (h1 : 0 < qs.length) (h8 : qs.length ≤ 8) :
    Calls Try.prog 16 #[v] w (RNewPost (qs.map Un.start) w) := by
  obtain ⟨i0, hi0, hz0, hz1, hz2⟩ := info_parts infoUnits
  obtain ⟨b, off, cap, rfl, hc1, hc2, hb, HNews⟩ := news_of (sz := 2) (cells := Un.cells) (xs := qs) (fun x => rfl) (by omega) s (fun e => by rw [e] at h1; simp at h1)
  have hlen : (qs.flatMap Un.cells).length = qs.length * 2 := by
    clear HNews s hc1 h8 h1
    induction qs with
    | nil => simp
    | cons x r ih => simp [Un.cells, ih, Nat.add_mul]
  have hone : ∀ u ∈ qs.flatMap Un.cells, u.oneCell' = true := by
    intro u hu
    obtain ⟨x, _, hx⟩ := List.mem_flatMap.1 hu
    simp [Un.cells] at hx
    rcases hx with rfl | rfl <;> rfl
  obtain ⟨n, hn⟩ : ∃ n, qs.length = n := ⟨_, rfl⟩
  have HN := Lib.hid hn
  have HL := Lib.hid hlen; have HO := Lib.hid hone; have HW := Lib.hid HNews
  rw [hn] at hc1 h1 h8 ⊢
  have hmk : ∀ w : World, (Instr.makeSlice 22 (.int .i64 n) (.int .i64 n)).run Try.prog w = .ok (.slice (some ⟨w.heap.size, 0, none⟩) n n) (w.alloc (.cells (madeCells #[.int .i64 0, .int .i64 0] (n * 2)) 25)) := fun w => by
    have := run_makeSlice (P := Try.prog) w 22 25 i0 _ Try.underlying22 hi0 hz0 .i64 .i64 n n (by omega) (by omega) (by rw [hz1]; omega) (by rw [hz2]; omega) (by omega)
    rw [hz1] at this
    exact this
  have own3 : ∀ o : Obj, ((w.alloc o).alloc (.cells #[] 25)).ownsRow w.heap.size 25 2 (.slice (some ⟨w.heap.size + 1, 0, none⟩) 0 0) 0 [] := fun o => by
    have := World.ownsRow_made (base := w.heap.size) (e := 25) (size := 2) (w.alloc o) #[] 0 (by simp) (by unfold maxLen; omega) rfl
    rwa [World.size_alloc] at this
  clear hn hlen hone HNews s
  go_enter Try.func16, Try.ntmps16
  go_wp2_with fail
  go_region_held3 (fun w' => True) (trivial)
    (first
      | (refine step_append_lies _ (by rfl) _ _ _ (by rfl) w.heap.size 25 i0 _ 2 16 Try.underlying22 hi0 hz0 hz1 hz2 rfl (by decide) (.slice (some ⟨_, 0, none⟩) 0 0) 0 [] (by rfl)
          (by first | exact (World.ownsRow_made w _ 0 (Nat.le_refl _) (by unfold maxLen; omega) rfl).drew | exact ((World.ownsRow_made w _ 0 (Nat.le_refl _) (by unfold maxLen; omega) rfl).alloc _).drew | exact (own3 _).drew)
          ⟨b, off, none⟩ n cap (qs.flatMap Un.cells) (by rfl) (by rw [HL.out, HN.out]) (HW.out _ (by first | exact ((Below.refl _ _).alloc (Nat.le_refl _) _).drew | exact (((Below.refl w.heap.size w).alloc (Nat.le_refl _) _).alloc (show w.heap.size ≤ (w.alloc _).heap.size by simp) _).drew)) HO.out h1 (by unfold maxLen; omega) (by omega) (by simp; try omega) _ rfl ?_
         intro gg cap' w1 hown1 hgrow hat hlt))
  all_goals go_wp2
  all_goals go_ret
  all_goals
    have hn := HN.out
    subst hn
    simp only [Nat.zero_add, List.nil_append] at hown1
  · have hsz := hgrow.size
    simp at hsz
    have hB1 : Below w.heap.size w w1 := ((Fr.refl w.heap.size (fun _ => False) w).alloc (Nat.le_refl _) _).drew.grown hgrow (by simp; try omega) (fun k e => .inl (by simp [Value.ownBlock] at e; omega)) |>.below (Nat.le_refl _) (fun _ h => h.elim)
    exact rnew_ends ((hB1.alloc (by omega) _).alloc (by simp; omega) _) (by omega) (by have := (hown1.lt gg rfl).1; omega) (by omega) ⟨by omega, by omega, by omega⟩
      (by have := World.alloc_heap_new (w1.alloc (.cells (madeCells #[.int .i64 0, .int .i64 0] (qs.length * 2)) 25)) (.cells #[.slice (some ⟨gg, 0, none⟩) qs.length cap', .slice (some ⟨w1.heap.size, 0, none⟩) qs.length qs.length] 48); rwa [World.size_alloc] at this)
      ((hown1.alloc _).alloc _) h1 (alloc_other (World.alloc_heap_new _ _))
  · have hsz := hgrow.size
    simp at hsz
    have hB1 : Below w.heap.size w w1 := (((Fr.refl w.heap.size (fun _ => False) w).alloc (Nat.le_refl _) _).alloc (by simp) _).drew.grown hgrow (by simp; try omega) (fun k e => .inl (by simp [Value.ownBlock] at e; omega)) |>.below (Nat.le_refl _) (fun _ h => h.elim)
    simp [Value.ownBlock] at hat
    refine rnew_ends (hB1.alloc (by omega) _) (by omega) (by have := (hown1.lt gg rfl).1; omega) (by omega) ⟨by omega, by omega, by omega⟩ (World.alloc_heap_new _ _) (hown1.alloc _) h1 (alloc_other ?_)
    rw [hgrow.block _ (by simp; try omega) (by simp [Value.ownBlock])]
    have := World.alloc_heap_new (w.alloc (.cells #[] 25)) (.cells (madeCells #[.int .i64 0, .int .i64 0] (qs.length * 2)) 25)
    rwa [World.size_alloc] at this
  · have hsz := hgrow.size
    simp at hsz
    have hB1 : Below w.heap.size w w1 := (((Fr.refl w.heap.size (fun _ => False) w).alloc (Nat.le_refl _) _).alloc (by simp) _).drew.grown hgrow (by simp; try omega) (fun k e => .inl (by simp [Value.ownBlock] at e; omega)) |>.below (Nat.le_refl _) (fun _ h => h.elim)
    simp [Value.ownBlock] at hat
    refine rnew_ends (hB1.alloc (by omega) _) (by omega) (by have := (hown1.lt gg rfl).1; omega) (by omega) ⟨by omega, by omega, by omega⟩ (World.alloc_heap_new _ _) (hown1.alloc _) h1 (alloc_other ?_)
    rw [hgrow.block _ (by simp; try omega) (by simp [Value.ownBlock])]
    exact alloc_other (World.alloc_heap_new _ _)
end Go.Proofs.Ytljnajkoeilmoaa
