/-
  wire: Put of any act.
-/
import Derived.Test.YtghfdiaaonjofaaWirePut2
import Derived.Test.YtghfdiaaonjofaaWirePutG
set_option linter.unusedVariables false
set_option linter.unusedSimpArgs false
namespace Go.Proofs.Ytghfdiaaonjofaa
open Go.RowKit

def zjA : Jb := ⟨0, 0, 0, 0, ⟨0, 0, 0, 0⟩⟩
/-- an act with what has bytes -/
def restF (x : Ac) : Ac := if x.kind = 0 then ⟨x.kind, 0, x.job⟩ else if x.kind = 5 then ⟨x.kind, 0, zjA⟩ else ⟨x.kind, x.n, zjA⟩
theorem restF_kind (x : Ac) : (restF x).kind = x.kind := by
  unfold restF; split
  · rfl
  · split <;> rfl
theorem copy_rest {x : Ac} {l : List (Nat × Nat)} (h : fldL x.kind = some l) : copyC (Ac.cells x).toArray l (Ac.cells ⟨x.kind, 0, ⟨0, 0, 0, 0, ⟨0, 0, 0, 0⟩⟩⟩).toArray = (Ac.cells (restF x)).toArray := by
  unfold fldL at h
  split at h
  · rename_i h0; cases h; unfold restF; rw [if_pos h0]; simp [copyC, Ac.cells]
  · rename_i h0
    split at h
    · cases h; unfold restF; rw [if_neg h0, if_neg (by omega)]; simp [copyC, Ac.cells, zjA]
    · split at h
      · cases h; unfold restF; rw [if_neg h0, if_neg (by omega)]; simp [copyC, Ac.cells, zjA]
      · split at h
        · rename_i h5; cases h; unfold restF; rw [if_neg h0, if_pos h5]; simp [copyC, Ac.cells, zjA]
        · cases h
/-- a kind with bytes -/
structure Has (x : Ac) (l : List (Nat × Nat)) : Prop where
  fld : fldL x.kind = some l
  kind : 0 ≤ x.kind ∧ x.kind ≤ 7
  fit : ∀ p ∈ l, 1 ≤ p.2 ∧ p.2 ≤ 2 ∧ p.1 < 10 ∧ ∃ z : Int, (Ac.cells x).toArray[p.1]? = some (.int .i64 z)
  few : l.length ≤ 100
theorem Has.of {x : Ac} {l : List (Nat × Nat)} (h : fldL x.kind = some l) : Has x l := by
  refine ⟨h, ?_, ?_, ?_⟩
  · unfold fldL at h
    split at h
    · omega
    · split at h
      · omega
      · split at h
        · omega
        · split at h
          · omega
          · cases h
  all_goals
    unfold fldL at h
    split at h
    · cases h
      first
        | decide
        | (intro p hp
           simp only [List.mem_cons, List.not_mem_nil, or_false] at hp
           rcases hp with rfl | rfl | rfl | rfl | rfl | rfl | rfl | rfl <;> exact ⟨by decide, by decide, by decide, _, rfl⟩)
    · split at h
      · cases h
        first
          | decide
          | (intro p hp
             simp only [List.mem_cons, List.not_mem_nil, or_false] at hp
             subst hp; exact ⟨by decide, by decide, by decide, _, rfl⟩)
      · split at h
        · cases h
          first
            | decide
            | (intro p hp
               simp only [List.mem_cons, List.not_mem_nil, or_false] at hp
               subst hp; exact ⟨by decide, by decide, by decide, _, rfl⟩)
        · split at h
          · cases h
            first
              | decide
              | (intro p hp; simp at hp)
          · cases h
def fdsOf (A : Nat) (x : Ac) (l : List (Nat × Nat)) : List Fd := l.map fun p => ⟨A, p.1, p.2, valC (Ac.cells x).toArray p.1⟩
def fitsL (x : Ac) (l : List (Nat × Nat)) : Bool := l.all fun p => decide (0 ≤ valC (Ac.cells x).toArray p.1 ∧ valC (Ac.cells x).toArray p.1 < 256 ^ p.2)
theorem fds_fit (A : Nat) (x : Ac) (l : List (Nat × Nat)) : (fdsOf A x l).all Fd.fit = fitsL x l := by
  unfold fdsOf fitsL
  rw [List.all_map]; rfl
theorem fds_put (A : Nat) (x : Ac) : ∀ l : List (Nat × Nat), putF (fdsOf A x l) = putL (Ac.cells x).toArray l
  | [] => rfl
  | p :: r => by
    have := fds_put A x r
    unfold putF fdsOf putL at this ⊢
    rw [List.map_cons, List.flatMap_cons, List.flatMap_cons, this]
/-- an act's bytes, or the error -/
def putB (x : Ac) : List Int × Int := match fldL x.kind with
  | none => ([], 10)
  | some l => if restF x = x then (if fitsL x l = true then (bytesF x l, 0) else ([], 1)) else ([], 10)
theorem str_nil : strOfNums [] = ⟨#[]⟩ := by decide
theorem Ac.ext' {x y : Ac} (e0 : x.kind = y.kind) (e1 : x.n = y.n) (e2 : x.job.id = y.job.id) (e3 : x.job.queue = y.job.queue) (e4 : x.job.prio = y.job.prio) (e5 : x.job.runtime = y.job.runtime) (e6 : x.job.shape.gpus = y.job.shape.gpus) (e7 : x.job.shape.cpus = y.job.shape.cpus) (e8 : x.job.shape.mn = y.job.shape.mn) (e9 : x.job.shape.mx = y.job.shape.mx) : x = y := by
  obtain ⟨a0, a1, ⟨a2, a3, a4, a5, ⟨a6, a7, a8, a9⟩⟩⟩ := x
  obtain ⟨b0, b1, ⟨b2, b3, b4, b5, ⟨b6, b7, b8, b9⟩⟩⟩ := y
  simp only at e0 e1 e2 e3 e4 e5 e6 e7 e8 e9
  subst e0 e1 e2 e3 e4 e5 e6 e7 e8 e9
  rfl

set_option maxRecDepth 100000 in
set_option maxHeartbeats 4000000 in
theorem putNone_any (x : Ac) (hx : fldL x.kind = none) (w : World) :
    Calls Try.prog 11 #[.agg #[.int .i64 x.kind, .int .i64 x.n, .int .i64 x.job.id, .int .i64 x.job.queue, .int .i64 x.job.prio, .int .i64 x.job.runtime, .int .i64 x.job.shape.gpus, .int .i64 x.job.shape.cpus, .int .i64 x.job.shape.mn, .int .i64 x.job.shape.mx]] w fun e w' => e = .returned (.tuple #[.string ⟨#[]⟩, .int .i64 10]) ∧ Below w.heap.size w w' := by
  have HX := Lib.hid hx
  clear hx
  go_enter Try.func11, Try.ntmps11
  go_wp2_with fail
  have hb0 := (Below.refl w.heap.size w).alloc (Nat.le_refl _) (.cells (Ac.cells x).toArray 30)
  have k0 := World.alloc_heap_new w (.cells (Ac.cells x).toArray 30)
  obtain ⟨A, hA⟩ : ∃ A, w.heap.size = A := ⟨_, rfl⟩
  rw [hA] at k0 ⊢
  change Calls _ _ _ (w.alloc (.cells (Ac.cells x).toArray 30)) _
  generalize w.alloc (.cells (Ac.cells x).toArray 30) = w1 at hb0 k0 ⊢
  have HB0 := Lib.hid hb0; have HK0 := Lib.hid k0; have HA := Lib.hid hA
  clear hb0 k0 hA
  refine (fields_any A x.kind w1 (cell_of_block HK0.out 0) (lt_of_block HK0.out)).mono ?_
  rintro e w2 ⟨v1, rfl, hrow1, hb2⟩
  rw [HX.out] at hrow1 ⊢
  have HR1 := Lib.hid hrow1; have HB2 := Lib.hid hb2; have HK2 := Lib.hid ((hb2.block _ (lt_of_block HK0.out)).trans HK0.out)
  have c0 : w2.cell? ⟨A, 0, none⟩ = some (.int .i64 x.kind) := cell_of_block HK2.out 0
  have lA := lt_of_block HK2.out
  clear hrow1 hb2
  go_wp2_with fail
  have hb3 := (Below.refl w2.heap.size w2).alloc (Nat.le_refl _) (.cells (Ac.cells ⟨x.kind, 0, ⟨0, 0, 0, 0, ⟨0, 0, 0, 0⟩⟩⟩).toArray 30)
  have k3 := World.alloc_heap_new w2 (.cells (Ac.cells ⟨x.kind, 0, ⟨0, 0, 0, 0, ⟨0, 0, 0, 0⟩⟩⟩).toArray 30)
  have hsz3 : (w2.alloc (.cells (Ac.cells ⟨x.kind, 0, ⟨0, 0, 0, 0, ⟨0, 0, 0, 0⟩⟩⟩).toArray 30)).heap.size = w2.heap.size + 1 := World.size_alloc _ _
  obtain ⟨B, hBe⟩ : ∃ B, w2.heap.size = B := ⟨_, rfl⟩
  rw [hBe] at k3 hsz3 ⊢
  change Calls _ _ _ (w2.alloc (.cells (Ac.cells ⟨x.kind, 0, ⟨0, 0, 0, 0, ⟨0, 0, 0, 0⟩⟩⟩).toArray 30)) _
  generalize w2.alloc (.cells (Ac.cells ⟨x.kind, 0, ⟨0, 0, 0, 0, ⟨0, 0, 0, 0⟩⟩⟩).toArray 30) = w3 at hb3 k3 hsz3 ⊢
  have HB3 := Lib.hid hb3; have HK3 := Lib.hid k3; have HBE := Lib.hid hBe; have HSZ3 := Lib.hid hsz3
  clear hb3 k3 hBe hsz3 c0
  refine (fields_any B x.kind w3 (cell_of_block HK3.out 0) (lt_of_block HK3.out)).mono ?_
  rintro e w4 ⟨v2, rfl, hrow2, hb4⟩
  rw [HX.out] at hrow2 ⊢
  have HR2 := Lib.hid hrow2
  have HB24 := Lib.hid (HB3.out.trans (hb4.mono HB3.out.size))
  have HA4 := Lib.hid ((HB24.out.block _ (lt_of_block HK2.out)).trans HK2.out)
  have HZ4 := Lib.hid ((hb4.block _ (lt_of_block HK3.out)).trans HK3.out)
  have hAB : A ≠ B := by have := lt_of_block HK2.out; have := HBE.out; omega
  clear hrow2 hb4
  obtain ⟨a1, cap1, hv1, hc1⟩ := HR1.out
  obtain ⟨a2, cap2, hv2, hc2⟩ := HR2.out
  simp only [Option.getD_none, List.length_nil] at hv1 hv2 hc1 hc2
  subst hv1 hv2
  clear hc1 hc2
  have HB4 := Lib.hid (show Below w.heap.size w w4 by
    have h1 := HB0.out.trans (HB2.out.mono HB0.out.size)
    exact h1.trans (HB24.out.mono h1.size))
  go_wp2_with fail
  go_loopw [24] (fun i wr => i = .int .i64 0 ∧ Hid (Below w.heap.size w wr)) (fun i _ => 0)
  case atStart => exact ⟨rfl, Lib.hid HB4.out⟩
  case round =>
    obtain ⟨rfl, hI⟩ := hrel
    go_wp2_with fail
    refine bodyPost_ret (results_tmp2 rfl _ _ _) rfl ?_
    exact ⟨rfl, hI.out⟩

set_option maxRecDepth 100000 in
set_option maxHeartbeats 8000000 in
theorem putSome_any (x : Ac) (l : List (Nat × Nat)) (hx : Has x l) (w : World) :
    Calls Try.prog 11 #[.agg #[.int .i64 x.kind, .int .i64 x.n, .int .i64 x.job.id, .int .i64 x.job.queue, .int .i64 x.job.prio, .int .i64 x.job.runtime, .int .i64 x.job.shape.gpus, .int .i64 x.job.shape.cpus, .int .i64 x.job.shape.mn, .int .i64 x.job.shape.mx]] w fun e w' => e = .returned (.tuple #[.string (strOfNums (putB x).1), .int .i64 (putB x).2]) ∧ Below w.heap.size w w' := by
  have HX := Lib.hid hx
  have HPB := Lib.hid (show putB x = if restF x = x then (if fitsL x l = true then (bytesF x l, 0) else ([], 1)) else ([], 10) by unfold putB; rw [hx.fld])
  obtain ⟨res, hres⟩ : ∃ res, putB x = res := ⟨_, rfl⟩
  rw [hres] at HPB ⊢
  clear hx hres
  go_enter Try.func11, Try.ntmps11
  go_wp2_with fail
  have hb0 := (Below.refl w.heap.size w).alloc (Nat.le_refl _) (.cells (Ac.cells x).toArray 30)
  have k0 := World.alloc_heap_new w (.cells (Ac.cells x).toArray 30)
  obtain ⟨A, hA⟩ : ∃ A, w.heap.size = A := ⟨_, rfl⟩
  rw [hA] at k0 ⊢
  change Calls _ _ _ (w.alloc (.cells (Ac.cells x).toArray 30)) _
  generalize w.alloc (.cells (Ac.cells x).toArray 30) = w1 at hb0 k0 ⊢
  have HB0 := Lib.hid hb0; have HK0 := Lib.hid k0; have HA := Lib.hid hA
  clear hb0 k0 hA
  refine (fields_any A x.kind w1 (cell_of_block HK0.out 0) (lt_of_block HK0.out)).mono ?_
  rintro e w2 ⟨v1, rfl, hrow1, hb2⟩
  rw [HX.out.fld] at hrow1 ⊢
  have HR1 := Lib.hid hrow1; have HB2 := Lib.hid hb2; have HK2 := Lib.hid ((hb2.block _ (lt_of_block HK0.out)).trans HK0.out)
  have c0 : w2.cell? ⟨A, 0, none⟩ = some (.int .i64 x.kind) := cell_of_block HK2.out 0
  have lA := lt_of_block HK2.out
  clear hrow1 hb2
  go_wp2_with fail
  have hb3 := (Below.refl w2.heap.size w2).alloc (Nat.le_refl _) (.cells (Ac.cells ⟨x.kind, 0, ⟨0, 0, 0, 0, ⟨0, 0, 0, 0⟩⟩⟩).toArray 30)
  have k3 := World.alloc_heap_new w2 (.cells (Ac.cells ⟨x.kind, 0, ⟨0, 0, 0, 0, ⟨0, 0, 0, 0⟩⟩⟩).toArray 30)
  have hsz3 : (w2.alloc (.cells (Ac.cells ⟨x.kind, 0, ⟨0, 0, 0, 0, ⟨0, 0, 0, 0⟩⟩⟩).toArray 30)).heap.size = w2.heap.size + 1 := World.size_alloc _ _
  obtain ⟨B, hBe⟩ : ∃ B, w2.heap.size = B := ⟨_, rfl⟩
  rw [hBe] at k3 hsz3 ⊢
  change Calls _ _ _ (w2.alloc (.cells (Ac.cells ⟨x.kind, 0, ⟨0, 0, 0, 0, ⟨0, 0, 0, 0⟩⟩⟩).toArray 30)) _
  generalize w2.alloc (.cells (Ac.cells ⟨x.kind, 0, ⟨0, 0, 0, 0, ⟨0, 0, 0, 0⟩⟩⟩).toArray 30) = w3 at hb3 k3 hsz3 ⊢
  have HB3 := Lib.hid hb3; have HK3 := Lib.hid k3; have HBE := Lib.hid hBe; have HSZ3 := Lib.hid hsz3
  clear hb3 k3 hBe hsz3 c0
  refine (fields_any B x.kind w3 (cell_of_block HK3.out 0) (lt_of_block HK3.out)).mono ?_
  rintro e w4 ⟨v2, rfl, hrow2, hb4⟩
  rw [HX.out.fld] at hrow2 ⊢
  have HR2 := Lib.hid hrow2
  have HB24 := Lib.hid (HB3.out.trans (hb4.mono HB3.out.size))
  have HA4 := Lib.hid ((HB24.out.block _ (lt_of_block HK2.out)).trans HK2.out)
  have HZ4 := Lib.hid ((hb4.block _ (lt_of_block HK3.out)).trans HK3.out)
  have hAB : A ≠ B := by have := lt_of_block HK2.out; have := HBE.out; omega
  clear hrow2 hb4
  obtain ⟨a1, cap1, hv1, hc1⟩ := HR1.out
  obtain ⟨a2, cap2, hv2, hc2⟩ := HR2.out
  simp only [Option.getD_some] at hv1 hv2 hc1 hc2
  obtain ⟨n, hn⟩ : ∃ n, l.length = n := ⟨_, rfl⟩
  rw [hn] at hv1 hv2
  subst hv1 hv2
  have HN := Lib.hid hn; have HC1 := Lib.hid hc1; have HC2 := Lib.hid hc2
  have hn100 : n ≤ 100 := hn ▸ HX.out.few
  clear hn hc1 hc2
  go_wp2_with fail
  go_loopw [24] (fun i wr => ∃ j : Nat, j ≤ n ∧ i = .int .i64 j ∧ Hid (Fr w4.heap.size (fun q => q = B) w4 wr ∧ wr.heap[B]? = some (.cells (copyC (Ac.cells x).toArray (l.take j) (Ac.cells ⟨x.kind, 0, ⟨0, 0, 0, 0, ⟨0, 0, 0, 0⟩⟩⟩).toArray) 30 (0, 0)))) (fun i _ => n - (intOf i).toNat)
  case atStart => exact ⟨0, Nat.zero_le _, rfl, Lib.hid ⟨Fr.refl _ _ _, HZ4.out⟩⟩
  case round =>
    obtain ⟨j, hj, rfl, hI⟩ := hrel
    have hAr := (hI.out.1.block A (lt_of_block HA4.out) hAB).trans HA4.out
    have hBr := hI.out.2
    by_cases hlt : j < n
    · obtain ⟨⟨off, b⟩, hp⟩ : ∃ p, l[j]? = some p := ⟨_, List.getElem?_eq_getElem (by rw [HN.out]; exact hlt)⟩
      obtain ⟨g1, rfl, hg1, hg1', c0, _⟩ := HC1.out j off b hp
      have c0 := (HB24.out.cell (p := ⟨g1, j * 2, none⟩) hg1').trans c0
      have hg1w := Nat.lt_of_lt_of_le hg1' HB24.out.size
      obtain ⟨g2, rfl, hg2, hg2', d0, _⟩ := HC2.out j off b hp
      obtain ⟨_, _, h10, z, hz⟩ := HX.out.fit (off, b) (List.mem_of_getElem? hp)
      simp only at h10 hz
      have lA0 := lt_of_block HK2.out
      have hw3B : B < w3.heap.size := lt_of_block HK3.out
      have hw1A : A < w1.heap.size := lt_of_block HK0.out
      have hg1B : g1 ≠ B := by have := HBE.out; omega
      have hg2B : g2 ≠ B := by omega
      have hfr := hI.out.1
      have hoff : off < (copyC (Ac.cells x).toArray (l.take j) (Ac.cells ⟨x.kind, 0, ⟨0, 0, 0, 0, ⟨0, 0, 0, 0⟩⟩⟩).toArray).size := by rw [copyC_size]; exact h10
      have c0 : ∀ y : Later wr, y.wd.cell? ⟨g1, j * 2, none⟩ = some (.pointer (some ⟨A, off, none⟩)) := fun y => (y.cell (Nat.lt_of_lt_of_le hg1w hfr.size)).trans ((hfr.cell (p := ⟨g1, j * 2, none⟩) hg1w hg1B).trans c0)
      have d0 : ∀ y : Later wr, y.wd.cell? ⟨g2, j * 2, none⟩ = some (.pointer (some ⟨B, off, none⟩)) := fun y => (y.cell (Nat.lt_of_lt_of_le hg2' hfr.size)).trans ((hfr.cell (p := ⟨g2, j * 2, none⟩) hg2' hg2B).trans d0)
      have f0 : ∀ y : Later wr, y.wd.cell? ⟨A, off, none⟩ = some (.int .i64 z) := fun y => (y.cell (lt_of_block hAr)).trans ((cell_of_block hAr off).trans hz)
      have HP := Lib.hid hp; have HZ := Lib.hid hz
      obtain ⟨cb, hcb⟩ : ∃ cb, copyC (Ac.cells x).toArray (l.take j) (Ac.cells ⟨x.kind, 0, ⟨0, 0, 0, 0, ⟨0, 0, 0, 0⟩⟩⟩).toArray = cb := ⟨_, rfl⟩
      rw [hcb] at hBr hoff
      have HCB := Lib.hid hcb; have HBR := Lib.hid hBr; have HAR := Lib.hid hAr; have HFR := Lib.hid hfr
      have fx0 := (Below.refl wr.heap.size wr).drew
      clear hp hz hcb hBr hAr hfr
      go_wp2_with fail
      refine Rg.wp_region_pick (by kernel_rfl) [0, 1, 2, 3, 4, 5, 6, 7, 8, 9, 10, 11] [12, 13] 12 (by kernel_rfl) (by kernel_rfl) (by kernel_rfl) (fun w' => ∃ y : Later wr, w' = y.wd) (fun c a a' w hd h => ⟨hd.symm.trans h.1, h.2⟩) ⟨⟨_, fx0⟩, rfl⟩ ?_
      simp only [Rg.picks, List.getElem?_cons_succ, List.getElem?_cons_zero, Option.toList, List.cons_append, List.nil_append]
      repeat (quiet_step (fail))
      refine wpQuiet_nil ?_
      clear c0 d0 f0
      simp only [Rg.pickn, List.getElem?_cons_succ, List.getElem?_cons_zero, Option.toList, List.map_cons, List.map_nil, List.cons_append, List.nil_append]
      refine Rg.wpN_list (by decide) ?_
      simp only [List.map_cons, List.map_nil]
      have p0 := (cell_of_block HBR.out off).trans (Array.getElem?_eq_getElem hoff); have pz := frozen_of_block HBR.out off
      have lB5 := lt_of_block HBR.out
      go_wp2_with fail
      have hend : wr.heap.size ≤ wr.heap.size := Nat.le_refl _
      have hBn := setCell_block HBR.out off (.int .i64 z)
      have hfn := Fr.setCell (p := ⟨B, off, none⟩) HFR.out (.inr rfl) (.int .i64 z)
      have hsn : copyC (Ac.cells x).toArray (l.take (j + 1)) (Ac.cells ⟨x.kind, 0, ⟨0, 0, 0, 0, ⟨0, 0, 0, 0⟩⟩⟩).toArray = cb.setIfInBounds off (.int .i64 z) := by
        rw [(total_take l HP.out).2, copyC_snoc, HCB.out, HZ.out]; rfl
      rw [← hsn] at hBn
      exact ⟨⟨j + 1, by omega, by go_num, Lib.hid ⟨hfn.drew, hBn⟩⟩, by simp [intOf]; omega⟩
    · obtain rfl : n = j := by omega
      have hall : l.take n = l := by rw [← HN.out]; exact List.take_length
      have hB2 := hI.out.2
      rw [hall, copy_rest HX.out.fld] at hB2
      obtain ⟨y, hy⟩ : ∃ y, restF x = y := ⟨_, rfl⟩
      have hyk : y.kind = x.kind := by rw [← hy]; exact restF_kind x
      rw [hy] at hB2 HPB
      have p0 : wr.cell? ⟨B, 0, none⟩ = some (.int .i64 y.kind) := cell_of_block hB2 0
      have s0 : wr.cell? ⟨A, 0, none⟩ = some (.int .i64 x.kind) := cell_of_block hAr 0
      have p1 : wr.cell? ⟨B, 1, none⟩ = some (.int .i64 y.n) := cell_of_block hB2 1
      have s1 : wr.cell? ⟨A, 1, none⟩ = some (.int .i64 x.n) := cell_of_block hAr 1
      have p2 : wr.cell? ⟨B, 2, none⟩ = some (.int .i64 y.job.id) := cell_of_block hB2 2
      have s2 : wr.cell? ⟨A, 2, none⟩ = some (.int .i64 x.job.id) := cell_of_block hAr 2
      have p3 : wr.cell? ⟨B, 3, none⟩ = some (.int .i64 y.job.queue) := cell_of_block hB2 3
      have s3 : wr.cell? ⟨A, 3, none⟩ = some (.int .i64 x.job.queue) := cell_of_block hAr 3
      have p4 : wr.cell? ⟨B, 4, none⟩ = some (.int .i64 y.job.prio) := cell_of_block hB2 4
      have s4 : wr.cell? ⟨A, 4, none⟩ = some (.int .i64 x.job.prio) := cell_of_block hAr 4
      have p5 : wr.cell? ⟨B, 5, none⟩ = some (.int .i64 y.job.runtime) := cell_of_block hB2 5
      have s5 : wr.cell? ⟨A, 5, none⟩ = some (.int .i64 x.job.runtime) := cell_of_block hAr 5
      have p6 : wr.cell? ⟨B, 6, none⟩ = some (.int .i64 y.job.shape.gpus) := cell_of_block hB2 6
      have s6 : wr.cell? ⟨A, 6, none⟩ = some (.int .i64 x.job.shape.gpus) := cell_of_block hAr 6
      have p7 : wr.cell? ⟨B, 7, none⟩ = some (.int .i64 y.job.shape.cpus) := cell_of_block hB2 7
      have s7 : wr.cell? ⟨A, 7, none⟩ = some (.int .i64 x.job.shape.cpus) := cell_of_block hAr 7
      have p8 : wr.cell? ⟨B, 8, none⟩ = some (.int .i64 y.job.shape.mn) := cell_of_block hB2 8
      have s8 : wr.cell? ⟨A, 8, none⟩ = some (.int .i64 x.job.shape.mn) := cell_of_block hAr 8
      have p9 : wr.cell? ⟨B, 9, none⟩ = some (.int .i64 y.job.shape.mx) := cell_of_block hB2 9
      have s9 : wr.cell? ⟨A, 9, none⟩ = some (.int .i64 x.job.shape.mx) := cell_of_block hAr 9
      rw [hyk] at p0
      have lBB := lt_of_block hB2; have lAA := lt_of_block hAr
      have HAr := Lib.hid hAr; have HFr := Lib.hid hI.out.1
      have hk1 := HX.out.kind.1; have hk2 := HX.out.kind.2
      have hbwr := Lib.hid (show Below w.heap.size w wr by
        have h1 := HB0.out.trans (HB2.out.mono HB0.out.size)
        have h2 := h1.trans (HB24.out.mono h1.size)
        exact h2.trans ((HFr.out.mono h2.size fun q hq e => e).below (Nat.le_refl _) (fun q hq => by have := HBE.out; have := h1.size; omega)))
      clear hBr hB2 hAr hall hlt hj hy
      by_cases hxy : y = x
      case neg =>
        have hne : ((y.n == x.n) = false) ∨ ((y.n == x.n) = true ∧ (y.job.id == x.job.id) = false) ∨ ((y.n == x.n) = true ∧ (y.job.id == x.job.id) = true ∧ (y.job.queue == x.job.queue) = false) ∨ ((y.n == x.n) = true ∧ (y.job.id == x.job.id) = true ∧ (y.job.queue == x.job.queue) = true ∧ (y.job.prio == x.job.prio) = false) ∨ ((y.n == x.n) = true ∧ (y.job.id == x.job.id) = true ∧ (y.job.queue == x.job.queue) = true ∧ (y.job.prio == x.job.prio) = true ∧ (y.job.runtime == x.job.runtime) = false) ∨ ((y.n == x.n) = true ∧ (y.job.id == x.job.id) = true ∧ (y.job.queue == x.job.queue) = true ∧ (y.job.prio == x.job.prio) = true ∧ (y.job.runtime == x.job.runtime) = true ∧ (y.job.shape.gpus == x.job.shape.gpus) = false) ∨ ((y.n == x.n) = true ∧ (y.job.id == x.job.id) = true ∧ (y.job.queue == x.job.queue) = true ∧ (y.job.prio == x.job.prio) = true ∧ (y.job.runtime == x.job.runtime) = true ∧ (y.job.shape.gpus == x.job.shape.gpus) = true ∧ (y.job.shape.cpus == x.job.shape.cpus) = false) ∨ ((y.n == x.n) = true ∧ (y.job.id == x.job.id) = true ∧ (y.job.queue == x.job.queue) = true ∧ (y.job.prio == x.job.prio) = true ∧ (y.job.runtime == x.job.runtime) = true ∧ (y.job.shape.gpus == x.job.shape.gpus) = true ∧ (y.job.shape.cpus == x.job.shape.cpus) = true ∧ (y.job.shape.mn == x.job.shape.mn) = false) ∨ ((y.n == x.n) = true ∧ (y.job.id == x.job.id) = true ∧ (y.job.queue == x.job.queue) = true ∧ (y.job.prio == x.job.prio) = true ∧ (y.job.runtime == x.job.runtime) = true ∧ (y.job.shape.gpus == x.job.shape.gpus) = true ∧ (y.job.shape.cpus == x.job.shape.cpus) = true ∧ (y.job.shape.mn == x.job.shape.mn) = true ∧ (y.job.shape.mx == x.job.shape.mx) = false) := by
          refine Classical.byContradiction fun hno => hxy ?_
          have e1 : y.n = x.n := Classical.byContradiction fun h => hno (by simp [h])
          have e2 : y.job.id = x.job.id := Classical.byContradiction fun h => hno (by simp [h, e1])
          have e3 : y.job.queue = x.job.queue := Classical.byContradiction fun h => hno (by simp [h, e1, e2])
          have e4 : y.job.prio = x.job.prio := Classical.byContradiction fun h => hno (by simp [h, e1, e2, e3])
          have e5 : y.job.runtime = x.job.runtime := Classical.byContradiction fun h => hno (by simp [h, e1, e2, e3, e4])
          have e6 : y.job.shape.gpus = x.job.shape.gpus := Classical.byContradiction fun h => hno (by simp [h, e1, e2, e3, e4, e5])
          have e7 : y.job.shape.cpus = x.job.shape.cpus := Classical.byContradiction fun h => hno (by simp [h, e1, e2, e3, e4, e5, e6])
          have e8 : y.job.shape.mn = x.job.shape.mn := Classical.byContradiction fun h => hno (by simp [h, e1, e2, e3, e4, e5, e6, e7])
          have e9 : y.job.shape.mx = x.job.shape.mx := Classical.byContradiction fun h => hno (by simp [h, e1, e2, e3, e4, e5, e6, e7, e8])
          exact Ac.ext' hyk e1 e2 e3 e4 e5 e6 e7 e8 e9
        have hres : res = ([], 10) := by rw [HPB.out, if_neg hxy]
        clear hxy
        subst hres
        rcases hne with b1 | ⟨b1, b2⟩ | ⟨b1, b2, b3⟩ | ⟨b1, b2, b3, b4⟩ | ⟨b1, b2, b3, b4, b5⟩ | ⟨b1, b2, b3, b4, b5, b6⟩ | ⟨b1, b2, b3, b4, b5, b6, b7⟩ | ⟨b1, b2, b3, b4, b5, b6, b7, b8⟩ | ⟨b1, b2, b3, b4, b5, b6, b7, b8, b9⟩
        all_goals
          go_wp2_with fail
          refine bodyPost_ret (results_tmp2 rfl _ _ _) rfl ?_
          exact ⟨by rw [str_nil]; rfl, hbwr.out⟩
      case pos =>
      have HPB2 := Lib.hid (show res = if fitsL x l = true then (bytesF x l, 0) else ([], 1) by rw [HPB.out, if_pos hxy])
      have HY := Lib.hid hxy
      subst hxy
      clear HPB
      go_wp2_with fail
      have hb5 := (Below.refl wr.heap.size wr).alloc (Nat.le_refl _) (.cells #[.int .u8 y.kind] 5)
      have k5 := World.alloc_heap_new wr (.cells #[.int .u8 y.kind] 5)
      have hsz5 : (wr.alloc (.cells #[.int .u8 y.kind] 5)).heap.size = wr.heap.size + 1 := World.size_alloc _ _
      generalize wr.alloc (.cells #[.int .u8 y.kind] 5) = w5 at hb5 k5 hsz5 ⊢
      have hA5 := (hb5.block _ lAA).trans HAr.out
      have hg1 : ∀ (i off b : Nat), l[i]? = some (off, b) → ∃ g, a1 = some ⟨g, 0, none⟩ ∧ w1.heap.size ≤ g ∧ g < w2.heap.size ∧ w5.cell? ⟨g, i * 2, none⟩ = some (.pointer (some ⟨A, off, none⟩)) ∧ w5.cell? ⟨g, i * 2 + 1, none⟩ = some (.int .i64 b) := fun i off b hi => by
        obtain ⟨g, ha, h1, h2, h3, h4⟩ := HC1.out i off b hi
        have hgB : g ≠ B := by have := HBE.out; omega
        have h2w : g < w4.heap.size := Nat.lt_of_lt_of_le h2 HB24.out.size
        have h2r := Nat.lt_of_lt_of_le h2w HFr.out.size
        exact ⟨g, ha, h1, h2, (hb5.cell (p := ⟨g, i * 2, none⟩) h2r).trans ((HFr.out.cell (p := ⟨g, i * 2, none⟩) h2w hgB).trans ((HB24.out.cell (p := ⟨g, i * 2, none⟩) h2).trans h3)), (hb5.cell (p := ⟨g, i * 2 + 1, none⟩) h2r).trans ((HFr.out.cell (p := ⟨g, i * 2 + 1, none⟩) h2w hgB).trans ((HB24.out.cell (p := ⟨g, i * 2 + 1, none⟩) h2).trans h4))⟩
      have hsizes : w2.heap.size ≤ wr.heap.size := Nat.le_trans HB24.out.size HFr.out.size
      have hrow5 : FieldRow w5 w1.heap.size A (.slice a1 n cap1) l := ⟨a1, cap1, by rw [HN.out], fun i off b hi => by
        obtain ⟨g, ha, h1, h2, h3, h4⟩ := hg1 i off b hi
        exact ⟨g, ha, h1, by omega, h3, h4⟩⟩
      have hown5 : w5.ownsRow wr.heap.size 5 1 (.slice (some ⟨wr.heap.size, 0, none⟩) 1 1) [y.kind].length (byV [y.kind]) := ⟨by simp [byV], .inr ⟨wr.heap.size, 1, _, rfl, Nat.le_refl _, k5, by simp, by unfold maxLen; omega, rfl, rfl⟩⟩
      have hFRow : FRow w5 (.slice a1 n cap1) (fdsOf A y l) := ⟨a1, cap1, by unfold fdsOf; rw [List.length_map, HN.out], fun i f hi => by
        unfold fdsOf at hi
        rw [List.getElem?_map] at hi
        obtain ⟨⟨off, b⟩, hp, rfl⟩ := Option.map_eq_some_iff.1 hi
        obtain ⟨g, ha, h1, h2, h3, h4⟩ := hg1 i off b hp
        exact ⟨g, ha, by omega, h3, h4⟩⟩
      have HGG := putG_any wr.heap.size (fdsOf A y l) (.slice a1 n cap1) (.slice (some ⟨wr.heap.size, 0, none⟩) 1 1) [y.kind] w5 hFRow hown5 (by omega) (fun q hq => by
        simp [Value.ownBlock] at hq
        subst hq
        refine ⟨fun f hf => ?_, fun hne g hg => ?_⟩
        · unfold fdsOf at hf
          obtain ⟨p, _, rfl⟩ := List.mem_map.1 hf
          simp only; omega
        · obtain ⟨⟨off, b⟩, hp⟩ : ∃ p, l[0]? = some p := ⟨_, List.getElem?_eq_getElem (by cases l with | nil => exact absurd rfl hne | cons _ _ => simp)⟩
          obtain ⟨g', ha, _, h2, _⟩ := hg1 0 off b hp
          rw [ha] at hg
          simp [Value.ownBlock] at hg
          omega) (fun f hf => by
          unfold fdsOf at hf
          obtain ⟨p, hp, rfl⟩ := List.mem_map.1 hf
          obtain ⟨h1, h2, _, z, h3⟩ := HX.out.fit p hp
          refine ⟨h1, by simp only; omega, Nat.lt_of_lt_of_le lAA hb5.size, ?_⟩
          simp only
          rw [cell_of_block hA5, h3]
          unfold valC
          rw [h3]) (by unfold fdsOf; rw [List.length_map]; have := HX.out.few; omega) (by simp)
      have HB5 := Lib.hid (show Below w.heap.size w w5 by
        have h1 := HB0.out.trans (HB2.out.mono HB0.out.size)
        have h2 := h1.trans (HB24.out.mono h1.size)
        have h3 := h2.trans ((HFr.out.mono h2.size fun q hq e => e).below (Nat.le_refl _) (fun q hq => by have := HBE.out; have := h1.size; omega))
        exact h3.trans (hb5.mono h3.size))
      have HWS := Lib.hid (show w.heap.size ≤ wr.heap.size from Nat.le_trans (Nat.le_trans HB0.out.size HB2.out.size) hsizes)
      have HL5 := Lib.hid hsz5
      have HG := Lib.hid HGG
      clear hb5 k5 hsz5 hA5 hg1 hsizes hrow5 hown5 hFRow HGG p0 p1 p2 p3 p4 p5 p6 p7 p8 p9 s0 s1 s2 s3 s4 s5 s6 s7 s8 s9
      refine HG.out.mono ?_
      rintro e w6 hp6
      unfold PutPost at hp6
      rw [fds_fit, fds_put] at hp6
      obtain ⟨v', rfl, hown6, hf6⟩ := hp6
      have HB6 := Lib.hid (show Below w.heap.size w w6 from HB5.out.trans ((hf6.mono HB5.out.size fun q hq e => e).below (Nat.le_refl _) (fun q hq => by simp [Value.ownBlock] at hq; have := HWS.out; omega)))
      clear hf6
      obtain ⟨hfit, hown6⟩ | ⟨hfit, rfl⟩ := hown6
      case inr =>
        have hres : res = ([], 1) := by rw [HPB2.out, hfit]; rfl
        subst hres
        rw [hfit]
        clear hfit
        go_wp2_with fail
        refine bodyPost_ret (results_tmp2 rfl _ _ _) rfl ?_
        exact ⟨by rw [str_nil]; rfl, HB6.out⟩
      have hres : res = (bytesF y l, 0) := by rw [HPB2.out, hfit]; rfl
      subst hres
      rw [hfit]
      clear hfit
      have hlen : ([y.kind] ++ putL (Ac.cells y).toArray l).length = (bytesF y l).length := rfl
      obtain ⟨h1, ⟨_, h0⟩ | ⟨g, cap', cur, rfl, hg, hh, hnc, hm, hsz, htk⟩⟩ := hown6
      · simp at h0
      · have hcell : ∀ i, i < (bytesF y l).length → w6.cell? ⟨g, 0 + i, none⟩ = some (.int .u8 ((bytesF y l).getD i 0)) := fun i hi => by
          have hi2 : (byV (bytesF y l))[i]? = some (.int .u8 ((bytesF y l).getD i 0)) := by
            unfold byV
            rw [List.getElem?_map, List.getElem?_eq_getElem hi]
            simp [List.getD, List.getElem?_eq_getElem hi]
          rw [cell_of_block hh, Nat.zero_add, ← Array.getElem?_toList]
          have htk2 : cur.toList.take ((bytesF y l).length * 1) = byV (bytesF y l) := htk
          rw [← htk2, List.getElem?_take, if_pos (by omega)] at hi2
          exact hi2
        have hrun := run_convert_bytes_arg (P := Try.prog) w6 74 5 Try.underlying74 (by kernel_rfl) g 0 (bytesF y l).length cap' (bytesF y l) rfl hcell 9 (by kernel_rfl)
        obtain ⟨bl, hbl⟩ : ∃ bl, (bytesF y l).length = bl := ⟨_, rfl⟩
        rw [hlen, hbl]
        rw [hbl] at hrun
        clear hcell hbl hlen h1 hg hh hnc hm hsz htk
        go_wp2_with fail
        refine bodyPost_ret (results_tmp2 rfl _ _ _) rfl ?_
        exact ⟨rfl, HB6.out⟩
theorem putB_any (x : Ac) (w : World) :
    Calls Try.prog 11 #[.agg #[.int .i64 x.kind, .int .i64 x.n, .int .i64 x.job.id, .int .i64 x.job.queue, .int .i64 x.job.prio, .int .i64 x.job.runtime, .int .i64 x.job.shape.gpus, .int .i64 x.job.shape.cpus, .int .i64 x.job.shape.mn, .int .i64 x.job.shape.mx]] w fun e w' => e = .returned (.tuple #[.string (strOfNums (putB x).1), .int .i64 (putB x).2]) ∧ Below w.heap.size w w' := by
  cases h : fldL x.kind with
  | none =>
    have e : putB x = ([], 10) := by unfold putB; rw [h]
    rw [e]
    rw [str_nil]
    exact putNone_any x h w
  | some l => exact putSome_any x l (Has.of h) w
end Go.Proofs.Ytghfdiaaonjofaa
