/-
  queue: the document's Add.
-/
import Derived.Test.YtobdbjkhajinbaaRefQ2
set_option linter.unusedVariables false
set_option linter.unusedSimpArgs false
namespace Go.Proofs.Ytobdbjkhajinbaa
open Go.RowKit
def addD (L : List Wt) (rooms : List Int) (x : Wt) : Int × List Wt :=
  if ¬ (0 ≤ x.job.queue ∧ x.job.queue < rooms.length) then (3, L) else if (L.any fun y => decide (y.job.id = x.job.id)) = true then (4, L)
  else if roomD L rooms x.job.queue = 0 then (2, L) else (0, L ++ [x])
theorem wts_one (l : List Wt) : ∀ u ∈ l.flatMap Wt.cells, u.oneCell' = true := by
  intro u hu
  obtain ⟨x, _, hx⟩ := List.mem_flatMap.1 hu
  simp [Wt.cells] at hx
  rcases hx with rfl | rfl | rfl | rfl | rfl | rfl | rfl | rfl | rfl | rfl <;> rfl
theorem madeAt (w2 : World) {o1 : Obj} : ((w2.alloc o1).drew.alloc (.cells #[] 35)).ownsRow w2.heap.size 35 10 (.slice (some ⟨w2.heap.size + 1, 0, none⟩) 0 0) 0 [] := by
  have h := World.alloc_heap_new (w2.alloc o1).drew (.cells #[] 35)
  have e : (w2.alloc o1).drew.heap.size = w2.heap.size + 1 := World.size_alloc _ _
  rw [e] at h
  exact ⟨rfl, .inr ⟨w2.heap.size + 1, 0, #[], rfl, by omega, h, by omega, by unfold maxLen; omega, rfl, rfl⟩⟩
theorem ownsRow_base {w : World} {b b' : Nat} {e : TypeId} {sz : Nat} {v : Value} {n : Nat} {xs : List Value} (h : w.ownsRow b e sz v n xs) (hb : b' ≤ b) : w.ownsRow b' e sz v n xs := by
  obtain ⟨h1, h2 | ⟨g, cap, cur, e1, hg, r⟩⟩ := h
  · exact ⟨h1, .inl h2⟩
  · exact ⟨h1, .inr ⟨g, cap, cur, e1, Nat.le_trans hb hg, r⟩⟩
theorem build_run (x0 x1 x2 x3 x4 x5 x6 x7 x8 x9 : Int) (w : World) : (Instr.buildSlice 39 1 #[(0, .agg #[.int .i64 x0, .int .i64 x1, .int .i64 x2, .int .i64 x3, .int .i64 x4, .int .i64 x5, .int .i64 x6, .int .i64 x7, .int .i64 x8, .int .i64 x9])]).run Try.prog w = .ok (.slice (some ⟨w.heap.size, 0, none⟩) 1 1) (w.alloc (.cells #[.int .i64 x0, .int .i64 x1, .int .i64 x2, .int .i64 x3, .int .i64 x4, .int .i64 x5, .int .i64 x6, .int .i64 x7, .int .i64 x8, .int .i64 x9] 35)) := by
  first | rfl | (simp [Instr.buildSlice, go_sem]; done)
theorem step_build1 {ops : Array Oper} {o : Oper} {a : Act} {w : World} {K : Act → World → Prop} {Q : Exit → Act → World → Prop} {E : Prop} (hgd : o.guard = none) (x : Operand) (ho : o.op = .buildSlice 39 1 #[(0, x)]) (x0 x1 x2 x3 x4 x5 x6 x7 x8 x9 : Int) (hx : a.eval x = .agg #[.int .i64 x0, .int .i64 x1, .int .i64 x2, .int .i64 x3, .int .i64 x4, .int .i64 x5, .int .i64 x6, .int .i64 x7, .int .i64 x8, .int .i64 x9])
    (h : K (a.put o.dst (.slice (some ⟨w.heap.size, 0, none⟩) 1 1)) (w.alloc (.cells #[.int .i64 x0, .int .i64 x1, .int .i64 x2, .int .i64 x3, .int .i64 x4, .int .i64 x5, .int .i64 x6, .int .i64 x7, .int .i64 x8, .int .i64 x9] 35))) : if Region.wanted o (yielded ops a.tmps) = true then Oper.wp Try.prog o a w K Q else E := by
  have hw : Region.wanted o (yielded ops a.tmps) = true := by simp [Region.wanted, hgd]
  rw [if_pos hw]
  unfold Oper.wp execOp
  simp only [ho, List.map_toArray, List.map_cons, List.map_nil, hx, Sem.run_bind, Sem.run_pure, Result.andThen_ok, build_run]
  exact h
section
variable {W w w' : World} {p : Nat} {ra : Option Addr} {rc : Nat} {v : Value} {rooms : List Int} {L : List Wt}
/-- a new row in the object's second cell -/
theorem DAt.put {L' : List Wt} {w1 w2 : World} {v' : Value} (h : DAt W w p ra rc v rooms L) (hb1 : Below w.heap.size w w1) (hb2 : Below w1.heap.size w1 w2) (ho : w2.ownsRow w1.heap.size 35 10 v' L'.length (L'.flatMap Wt.cells)) (hl : L'.length ≤ 100000) :
    StepD W p ra rc v rooms L' w (w2.setCell ⟨p, 1, none⟩ v') := by
  have hb := hb1.trans (hb2.mono hb1.size)
  have lp := lt_of_block h.head
  have hp : v'.ownBlock ≠ some p := fun e => by have := (ho.lt _ e).1; have := hb1.size; omega
  have hfr : Fr w.heap.size (fun g => g = p) w (w2.setCell ⟨p, 1, none⟩ v') := Fr.setCell (F := fun g => g = p) (p := ⟨p, 1, none⟩) (Fr.of_below hb _) (.inr rfl) _
  have hh : (w2.setCell ⟨p, 1, none⟩ v').heap[p]? = some (.cells #[.slice ra rooms.length rc, v'] 45 (0, 0)) := by
    rw [setCell_block ((hb.block _ lp).trans h.head)]; rfl
  have hsz := Nat.le_trans h.below.size hb1.size
  refine ⟨v', ⟨h.below.trans (hfr.below h.below.size fun g e => by have := h.base; omega), h.base, h.rm, hh, ownsRow_setCell_other (ownsRow_base ho hsz) (a := ⟨p, 1, none⟩) hp _, hp, hl, h.rlen⟩, hfr, fun g hg => .inr (Nat.le_trans hb1.size (ho.lt g hg).1)⟩
set_option maxRecDepth 100000 in
set_option maxHeartbeats 4000000 in
theorem dadd_any (h : DAt W w p ra rc v rooms L) (x : Wt) (hrw : ∀ r ∈ rooms, 0 ≤ r ∧ r ≤ 16) (hlen : L.length < 100000) :
    Calls Try.prog 36 #[.pointer (some ⟨p, 0, none⟩), (.agg #[.int .i64 (Jb.id (Wt.job x)), .int .i64 (Jb.queue (Wt.job x)), .int .i64 (Jb.prio (Wt.job x)), .int .i64 (Jb.runtime (Wt.job x)), .int .i64 (Sh.gpus (Jb.shape (Wt.job x))), .int .i64 (Sh.cpus (Jb.shape (Wt.job x))), .int .i64 (Sh.mn (Jb.shape (Wt.job x))), .int .i64 (Sh.mx (Jb.shape (Wt.job x))), .int .i64 (Wt.since x), .int .i64 (Wt.number x)])] w fun e w' => e = .returned (.int .i64 (addD L rooms x).1) ∧ StepD W p ra rc v rooms (addD L rooms x).2 w w' := by
  obtain ⟨res, hres⟩ : ∃ res, addD L rooms x = res := ⟨_, rfl⟩
  rw [hres]
  have HRES := Lib.hid hres
  have H := Lib.hid h; have HRW := Lib.hid hrw
  clear h hrw hres
  go_enter Try.func36, Try.ntmps36
  go_upto_region 1 with fail
  have hb1 := (Below.refl w.heap.size w).alloc (Nat.le_refl _) (.cells #[.int .i64 x.job.id, .int .i64 x.job.queue, .int .i64 x.job.prio, .int .i64 x.job.runtime, .int .i64 x.job.shape.gpus, .int .i64 x.job.shape.cpus, .int .i64 x.job.shape.mn, .int .i64 x.job.shape.mx, .int .i64 x.since, .int .i64 x.number] 35)
  have kB := World.alloc_heap_new w (.cells #[.int .i64 x.job.id, .int .i64 x.job.queue, .int .i64 x.job.prio, .int .i64 x.job.runtime, .int .i64 x.job.shape.gpus, .int .i64 x.job.shape.cpus, .int .i64 x.job.shape.mn, .int .i64 x.job.shape.mx, .int .i64 x.since, .int .i64 x.number] 35)
  generalize w.alloc (.cells #[.int .i64 x.job.id, .int .i64 x.job.queue, .int .i64 x.job.prio, .int .i64 x.job.runtime, .int .i64 x.job.shape.gpus, .int .i64 x.job.shape.cpus, .int .i64 x.job.shape.mn, .int .i64 x.job.shape.mx, .int .i64 x.since, .int .i64 x.number] 35) = w1 at hb1 kB ⊢
  obtain ⟨B, hB⟩ : ∃ B, w.heap.size = B := ⟨_, rfl⟩
  rw [hB] at kB ⊢
  have HB1 := Lib.hid hb1; have HK := Lib.hid kB; have H1 := Lib.hid (H.out.later hb1)
  clear hb1 kB hB
  obtain ⟨a, c, hv, -, c0, -, lp⟩ := H1.out.at
  obtain ⟨nr, hnr⟩ : ∃ n, rooms.length = n := ⟨_, rfl⟩
  rw [hnr] at c0
  have HNR := Lib.hid hnr; have HV := Lib.hid hv
  have b0 := cell_of_block HK.out 0; have b1 := cell_of_block HK.out 1
  have lB := lt_of_block HK.out
  clear hnr hv
  by_cases h0 : x.job.queue < 0
  · have d0 : decide (x.job.queue < 0) = true := by simp; omega
    have hr : res = (3, L) := by rw [← HRES.out]; unfold addD; rw [if_pos (by omega)]
    subst hr
    clear h0
    go_wp2_with fail
    go_quiet (fail)
    have hBq : Below w1.heap.size w1 (w1.drewN nq) := ⟨rfl, rfl, rfl, Nat.le_refl _, fun _ _ => rfl⟩
    have HBq := Lib.hid (HB1.out.trans (hBq.mono HB1.out.size))
    clear c0 b0 b1 lB lp
    generalize w1.drewN nq = wq at HBq hBq ⊢
    clear hBq
    go_wp2_with fail
    go_ret
    exact ⟨rfl, StepD.same H.out HBq.out⟩
  have d0 : decide (x.job.queue < 0) = false := by simp; omega
  by_cases h1 : (nr : Int) ≤ x.job.queue
  · have d1 : decide ((nr : Int) ≤ x.job.queue) = true := by simp; omega
    have hr : res = (3, L) := by rw [← HRES.out]; unfold addD; rw [if_pos (by rw [HNR.out]; omega)]
    subst hr
    clear h0 h1
    go_wp2_with fail
    go_quiet (fail)
    have hBq : Below w1.heap.size w1 (w1.drewN nq) := ⟨rfl, rfl, rfl, Nat.le_refl _, fun _ _ => rfl⟩
    have HBq := Lib.hid (HB1.out.trans (hBq.mono HB1.out.size))
    clear c0 b0 b1 lB lp
    generalize w1.drewN nq = wq at HBq hBq ⊢
    clear hBq
    go_wp2_with fail
    go_ret
    exact ⟨rfl, StepD.same H.out HBq.out⟩
  have d1 : decide ((nr : Int) ≤ x.job.queue) = false := by simp; omega
  have HTH := Lib.hid (show 0 ≤ x.job.queue ∧ x.job.queue < rooms.length from ⟨by omega, by rw [HNR.out]; omega⟩)
  clear h0 h1
  go_wp2_with fail
  go_quiet (fail)
  have hBq : Below w1.heap.size w1 (w1.drewN nq) := ⟨rfl, rfl, rfl, Nat.le_refl _, fun _ _ => rfl⟩
  clear c0 b0 b1 lB lp
  have HBq := Lib.hid (HB1.out.trans (hBq.mono HB1.out.size)); have HKq := Lib.hid ((hBq.block _ (lt_of_block HK.out)).trans HK.out); have Hq := Lib.hid (H1.out.later hBq)
  generalize w1.drewN nq = wq at HBq HKq Hq hBq ⊢
  clear hBq HK H1 HB1
  have HK := HKq; have H1 := Hq; have HB1 := HBq
  clear HKq Hq HBq
  have b0 := cell_of_block HK.out 0; have b1 := cell_of_block HK.out 1
  have lB := lt_of_block HK.out
  go_wp2_with fail
  refine (dfind_any H1.out x.job.id).mono ?_
  rintro e z ⟨⟨r, rfl, hf⟩, hz⟩
  replace hz := hz.symm
  subst hz
  rcases hf with ⟨k, hk, rfl, he, -⟩ | ⟨rfl, hno⟩
  · have hr : res = (4, L) := by
      rw [← HRES.out]; unfold addD
      rw [if_neg (by simpa using HTH.out), if_pos]
      rw [List.any_eq_true]; exact ⟨_, List.getElem_mem hk, by simpa using he⟩
    subst hr
    have hd : decide ((0 : Int) ≤ (k : Int)) = true := by simp
    clear hk he
    go_wp2_with fail
    go_ret
    exact ⟨rfl, StepD.same H.out HB1.out⟩
  have HNO := Lib.hid hno
  clear hno
  go_wp2_with fail
  refine (droom_any H1.out x.job.queue HRW.out).mono ?_
  rintro e w2 ⟨rfl, hb2⟩
  clear b0 b1 lB
  have HB2 := Lib.hid (HB1.out.trans (hb2.mono HB1.out.size))
  have H2 := Lib.hid (H1.out.later hb2); have HK2 := Lib.hid ((hb2.block _ (lt_of_block HK.out)).trans HK.out)
  clear hb2
  obtain ⟨rm, hrm⟩ : ∃ n, roomD L rooms x.job.queue = n := ⟨_, rfl⟩
  rw [hrm]
  have hany : ¬ (L.any fun y => decide (y.job.id = x.job.id)) = true := by
    rw [List.any_eq_true]; rintro ⟨y, hy, he⟩; exact HNO.out y hy (by simpa using he)
  by_cases h0 : rm = 0
  · subst h0
    have hr : res = (2, L) := by rw [← HRES.out]; unfold addD; rw [if_neg (by simpa using HTH.out), if_neg hany, if_pos hrm]
    subst hr
    clear hrm hany
    go_wp2_with fail
    go_ret
    exact ⟨rfl, StepD.same H.out HB2.out⟩
  have hd1 : decide (rm = 0) = false := by simp [h0]
  have hd2 : (rm == 0) = false := by simp [h0]
  have hr : res = (0, L ++ [x]) := by rw [← HRES.out]; unfold addD; rw [if_neg (by simpa using HTH.out), if_neg hany, if_neg (by rw [hrm]; exact h0)]
  subst hr
  clear hrm h0 hany
  obtain ⟨a2, cap, hv2, hs, -, c1, lp⟩ := H2.out.at
  have hsrc := src_of hs
  obtain ⟨n, hn⟩ : ∃ n, L.length = n := ⟨_, rfl⟩
  rw [hn] at c1 hsrc hlen
  obtain ⟨lf, hlf⟩ : ∃ f, L.flatMap Wt.cells = f := ⟨_, rfl⟩
  have HB1' := Lib.hid (hlf ▸ wts_one L)
  rw [hlf] at hsrc
  have hfin : ∀ (v9 : Value) (w9 : World), w9.ownsRow w2.heap.size 35 10 v9 (n + 1) (lf ++ [.int .i64 x.job.id, .int .i64 x.job.queue, .int .i64 x.job.prio, .int .i64 x.job.runtime, .int .i64 x.job.shape.gpus, .int .i64 x.job.shape.cpus, .int .i64 x.job.shape.mn, .int .i64 x.job.shape.mx, .int .i64 x.since, .int .i64 x.number]) → Below w2.heap.size w2 w9 → StepD W p ra rc v rooms (L ++ [x]) w (w9.setCell ⟨p, 1, none⟩ v9) := fun v9 w9 ho hb =>
    H.out.put HB2.out hb (by rw [List.length_append, hn, List.flatMap_append, hlf]; exact ho) (by rw [List.length_append, hn]; simp; omega)
  have HFIN := Lib.hid hfin; have HS1 := Lib.hid hsrc
  have lB := lt_of_block HK2.out
  have HC1 := Lib.hid c1
  have q0 : ∀ y : Later w2, y.wd.cell? ⟨p, 1, none⟩ = some (.slice a2 n cap) := fun y => (y.cell lp).trans HC1.out
  have b0 : ∀ y : Later w2, y.wd.cell? ⟨B, 0, none⟩ = some (.int .i64 x.job.id) := fun y => (y.cell lB).trans (cell_of_block HK2.out 0)
  have b1 : ∀ y : Later w2, y.wd.cell? ⟨B, 1, none⟩ = some (.int .i64 x.job.queue) := fun y => (y.cell lB).trans (cell_of_block HK2.out 1)
  have b2 : ∀ y : Later w2, y.wd.cell? ⟨B, 2, none⟩ = some (.int .i64 x.job.prio) := fun y => (y.cell lB).trans (cell_of_block HK2.out 2)
  have b3 : ∀ y : Later w2, y.wd.cell? ⟨B, 3, none⟩ = some (.int .i64 x.job.runtime) := fun y => (y.cell lB).trans (cell_of_block HK2.out 3)
  have b4 : ∀ y : Later w2, y.wd.cell? ⟨B, 4, none⟩ = some (.int .i64 x.job.shape.gpus) := fun y => (y.cell lB).trans (cell_of_block HK2.out 4)
  have b5 : ∀ y : Later w2, y.wd.cell? ⟨B, 5, none⟩ = some (.int .i64 x.job.shape.cpus) := fun y => (y.cell lB).trans (cell_of_block HK2.out 5)
  have b6 : ∀ y : Later w2, y.wd.cell? ⟨B, 6, none⟩ = some (.int .i64 x.job.shape.mn) := fun y => (y.cell lB).trans (cell_of_block HK2.out 6)
  have b7 : ∀ y : Later w2, y.wd.cell? ⟨B, 7, none⟩ = some (.int .i64 x.job.shape.mx) := fun y => (y.cell lB).trans (cell_of_block HK2.out 7)
  have b8 : ∀ y : Later w2, y.wd.cell? ⟨B, 8, none⟩ = some (.int .i64 x.since) := fun y => (y.cell lB).trans (cell_of_block HK2.out 8)
  have b9 : ∀ y : Later w2, y.wd.cell? ⟨B, 9, none⟩ = some (.int .i64 x.number) := fun y => (y.cell lB).trans (cell_of_block HK2.out 9)
  obtain ⟨i0, hi0, hz0, hz1, hz2⟩ := info_parts infoWt
  have fx0 := (Below.refl w2.heap.size w2).drew
  have HH := Lib.hid H2.out.head
  clear hfin hsrc hs hv2 hn hlf c1
  go_wp2_with fail
  refine Rg.wp_region_plan (by kernel_rfl) [0, 2, 3, 4, 5, 7] (.two 1 (.two 6 (.one 8 (.fin [9, 10, 11, 12])) 8 (.one 6 (.fin [9, 10, 11, 12]))) 8 (.one 1 (.one 6 (.fin [9, 10, 11, 12])))) 10 (by kernel_rfl) (by kernel_rfl) (by kernel_rfl) (fun w' => ∃ y : Later w2, w' = y.wd) (fun c a a' w hd h => ⟨hd.symm.trans h.1, h.2⟩) ⟨⟨_, fx0⟩, rfl⟩ ?_
  simp only [Rg.picks, List.getElem?_cons_succ, List.getElem?_cons_zero, Option.toList, List.cons_append, List.nil_append]
  repeat (quiet_step (fail))
  refine wpQuiet_nil ?_
  clear q0 b0 b1 b2 b3 b4 b5 b6 b7 b8 b9 lB
  try simp only [Rg.wpP, Rg.pickn, List.getElem?_cons_succ, List.getElem?_cons_zero, Option.toList, List.map_cons, List.map_nil, List.cons_append, List.nil_append]
  constructor
  · as_aux_lemma =>
      refine Rg.wp1_step (fun K hK => ?_) ⟨⟨_, fx0⟩, rfl⟩
      go_simp
      have B6 : Below w2.heap.size w2 (w2.alloc (.cells #[] 35)).drew := ((Below.refl _ _).alloc (Nat.le_refl _) _).drew
      refine hK _ _ (fun _ => ⟨⟨_, B6⟩, rfl⟩) ?_
      clear hK K
      try simp only [Rg.wpP, Rg.pickn, List.getElem?_cons_succ, List.getElem?_cons_zero, Option.toList, List.map_cons, List.map_nil, List.cons_append, List.nil_append]
      constructor
      · refine Rg.wp1_step (fun K hK => ?_) ⟨⟨_, B6⟩, rfl⟩
        refine step_append_src _ (by rfl) _ _ _ (by rfl) w2.heap.size 35 i0 _ 10 80 Try.underlying39 hi0 hz0 hz1 hz2 rfl (by omega) (.slice (some ⟨w2.heap.size, 0, none⟩) 0 0) 0 [] (by rfl) ((World.ownsRow_made w2 _ 0 (Nat.le_refl _) (by unfold maxLen; omega) rfl).drew)
          a2 n cap lf (by rfl) (HS1.out.later B6) HB1'.out (by unfold maxLen; omega) (by omega) (by simp) ?_
        intro v7 w7 hown7 hg7 hat7
        have B7 : Below w2.heap.size w2 w7 := ((Fr.refl w2.heap.size (fun _ => False) w2).alloc (Nat.le_refl _) _).drew.grown hg7 (by simp <;> omega) (fun k e => .inl (by simp [Value.ownBlock] at e; omega)) |>.below (Nat.le_refl _) (fun _ h => h.elim)
        refine hK _ _ (fun _ => ⟨⟨_, B7⟩, rfl⟩) ?_
        clear hK K
        try simp only [Rg.wpP, Rg.pickn, List.getElem?_cons_succ, List.getElem?_cons_zero, Option.toList, List.map_cons, List.map_nil, List.cons_append, List.nil_append]
        refine Rg.wp1_step (fun K hK => ?_) ⟨⟨_, B7⟩, rfl⟩
        refine step_build1 (by rfl) _ (by rfl) _ _ _ _ _ _ _ _ _ _ (by rfl) ?_
        have BM : Below w2.heap.size w2 (w7.alloc (.cells #[.int .i64 x.job.id, .int .i64 x.job.queue, .int .i64 x.job.prio, .int .i64 x.job.runtime, .int .i64 x.job.shape.gpus, .int .i64 x.job.shape.cpus, .int .i64 x.job.shape.mn, .int .i64 x.job.shape.mx, .int .i64 x.since, .int .i64 x.number] 35)) := B7.alloc B7.size _
        refine hK _ _ (fun _ => ⟨⟨_, BM⟩, rfl⟩) ?_
        clear hK K
        have HRM := World.alloc_heap_new w7 (.cells #[.int .i64 x.job.id, .int .i64 x.job.queue, .int .i64 x.job.prio, .int .i64 x.job.runtime, .int .i64 x.job.shape.gpus, .int .i64 x.job.shape.cpus, .int .i64 x.job.shape.mn, .int .i64 x.job.shape.mx, .int .i64 x.since, .int .i64 x.number] 35)
        have HOM := ownsRow_below hown7 ((Below.refl w7.heap.size w7).alloc (Nat.le_refl _) (.cells #[.int .i64 x.job.id, .int .i64 x.job.queue, .int .i64 x.job.prio, .int .i64 x.job.runtime, .int .i64 x.job.shape.gpus, .int .i64 x.job.shape.cpus, .int .i64 x.job.shape.mn, .int .i64 x.job.shape.mx, .int .i64 x.since, .int .i64 x.number] 35))
        try simp only [Rg.wpP, Rg.pickn, List.getElem?_cons_succ, List.getElem?_cons_zero, Option.toList, List.map_cons, List.map_nil, List.cons_append, List.nil_append]
        refine Rg.wpN_step (fun K hK => ?_) ⟨⟨_, BM⟩, rfl⟩
        refine step_append_src _ (by rfl) _ _ _ (by rfl) w2.heap.size 35 i0 _ 10 80 Try.underlying39 hi0 hz0 hz1 hz2 rfl (by omega) v7 (0 + n) ([] ++ lf) (by rfl) HOM
          (some ⟨w7.heap.size, 0, none⟩) 1 1 [.int .i64 x.job.id, .int .i64 x.job.queue, .int .i64 x.job.prio, .int .i64 x.job.runtime, .int .i64 x.job.shape.gpus, .int .i64 x.job.shape.cpus, .int .i64 x.job.shape.mn, .int .i64 x.job.shape.mx, .int .i64 x.since, .int .i64 x.number] (by rfl) (.inr ⟨_, rfl, by simp, World.news_of_block (cs := #[.int .i64 x.job.id, .int .i64 x.job.queue, .int .i64 x.job.prio, .int .i64 x.job.runtime, .int .i64 x.job.shape.gpus, .int .i64 x.job.shape.cpus, .int .i64 x.job.shape.mn, .int .i64 x.job.shape.mx, .int .i64 x.since, .int .i64 x.number]) (t := 35) (fr := (0, 0)) HRM⟩) (by simp [Value.oneCell']) (by unfold maxLen; omega) (by omega) BM.size ?_
        intro v8 w8 hown8 hg8 hat8
        have B8 : Below w2.heap.size w2 w8 := (Fr.of_below BM (fun _ => False)).grown hg8 BM.size (fun k e => .inl ((HOM.lt k e).1)) |>.below (Nat.le_refl _) (fun _ h => h.elim)
        refine hK _ _ (fun _ => ⟨⟨_, B8⟩, rfl⟩) ?_
        clear hK K
        refine Rg.wpN_list (by decide) ?_
        simp only [List.map_cons, List.map_nil]
        obtain ⟨a9, c9, hva⟩ := own_form hown8
        have Q := HFIN.out v8 w8 (by simpa using hown8) B8
        have hh9 := (B8.block _ lp).trans HH.out
        obtain ⟨m9, hm9⟩ : ∃ m9, 0 + n + 1 = m9 := ⟨_, rfl⟩
        rw [hm9] at hva
        rw [hva] at Q ⊢
        have HQ := Lib.hid Q
        have e0 := cell_of_block hh9 1; have e1 := frozen_of_block hh9 1
        have lp9 := lt_of_block hh9
        clear HOM HRM hown8 hg8 hat8 hh9 Q BM B8 hva hm9
        go_wp2_with fail
        go_ret
        exact ⟨rfl, HQ.out⟩
      · refine Rg.wp1_step (fun K hK => ?_) ⟨⟨_, B6⟩, rfl⟩
        refine step_build1 (by rfl) _ (by rfl) _ _ _ _ _ _ _ _ _ _ (by rfl) ?_
        have B6' : Below w2.heap.size w2 ((w2.alloc (.cells #[] 35)).drew.alloc (.cells #[.int .i64 x.job.id, .int .i64 x.job.queue, .int .i64 x.job.prio, .int .i64 x.job.runtime, .int .i64 x.job.shape.gpus, .int .i64 x.job.shape.cpus, .int .i64 x.job.shape.mn, .int .i64 x.job.shape.mx, .int .i64 x.since, .int .i64 x.number] 35)) := B6.alloc B6.size _
        refine hK _ _ (fun _ => ⟨⟨_, B6'⟩, rfl⟩) ?_
        clear hK K
        have hrow6 := World.alloc_heap_new (w2.alloc (.cells #[] 35)).drew (.cells #[.int .i64 x.job.id, .int .i64 x.job.queue, .int .i64 x.job.prio, .int .i64 x.job.runtime, .int .i64 x.job.shape.gpus, .int .i64 x.job.shape.cpus, .int .i64 x.job.shape.mn, .int .i64 x.job.shape.mx, .int .i64 x.since, .int .i64 x.number] 35)
        try simp only [Rg.wpP, Rg.pickn, List.getElem?_cons_succ, List.getElem?_cons_zero, Option.toList, List.map_cons, List.map_nil, List.cons_append, List.nil_append]
        refine Rg.wp1_step (fun K hK => ?_) ⟨⟨_, B6'⟩, rfl⟩
        refine step_append_src _ (by rfl) _ _ _ (by rfl) w2.heap.size 35 i0 _ 10 80 Try.underlying39 hi0 hz0 hz1 hz2 rfl (by omega) (.slice (some ⟨w2.heap.size, 0, none⟩) 0 0) 0 [] (by rfl) (ownsRow_below ((World.ownsRow_made w2 _ 0 (Nat.le_refl _) (by unfold maxLen; omega) rfl).drew) ((Below.refl _ _).alloc (Nat.le_refl _) _))
          a2 n cap lf (by rfl) (HS1.out.later B6') HB1'.out (by unfold maxLen; omega) (by omega) (by simp; omega) ?_
        intro v7 w7 hown7 hg7 hat7
        have BM : Below w2.heap.size w2 w7 := (Fr.of_below B6' (fun _ => False)).grown hg7 (by simp <;> omega) (fun k e => .inl (by simp [Value.ownBlock] at e; omega)) |>.below (Nat.le_refl _) (fun _ h => h.elim)
        refine hK _ _ (fun _ => ⟨⟨_, BM⟩, rfl⟩) ?_
        clear hK K
        have HOM := hown7
        have HRM : w7.heap[(w2.alloc (.cells #[] 35)).drew.heap.size]? = some (.cells #[.int .i64 x.job.id, .int .i64 x.job.queue, .int .i64 x.job.prio, .int .i64 x.job.runtime, .int .i64 x.job.shape.gpus, .int .i64 x.job.shape.cpus, .int .i64 x.job.shape.mn, .int .i64 x.job.shape.mx, .int .i64 x.since, .int .i64 x.number] 35) := (hg7.block _ (by simp) (by simp [Value.ownBlock])).trans hrow6
        try simp only [Rg.wpP, Rg.pickn, List.getElem?_cons_succ, List.getElem?_cons_zero, Option.toList, List.map_cons, List.map_nil, List.cons_append, List.nil_append]
        refine Rg.wpN_step (fun K hK => ?_) ⟨⟨_, BM⟩, rfl⟩
        refine step_append_src _ (by rfl) _ _ _ (by rfl) w2.heap.size 35 i0 _ 10 80 Try.underlying39 hi0 hz0 hz1 hz2 rfl (by omega) v7 (0 + n) ([] ++ lf) (by rfl) HOM
          (some ⟨(w2.alloc (.cells #[] 35)).drew.heap.size, 0, none⟩) 1 1 [.int .i64 x.job.id, .int .i64 x.job.queue, .int .i64 x.job.prio, .int .i64 x.job.runtime, .int .i64 x.job.shape.gpus, .int .i64 x.job.shape.cpus, .int .i64 x.job.shape.mn, .int .i64 x.job.shape.mx, .int .i64 x.since, .int .i64 x.number] (by rfl) (.inr ⟨_, rfl, by simp, World.news_of_block (cs := #[.int .i64 x.job.id, .int .i64 x.job.queue, .int .i64 x.job.prio, .int .i64 x.job.runtime, .int .i64 x.job.shape.gpus, .int .i64 x.job.shape.cpus, .int .i64 x.job.shape.mn, .int .i64 x.job.shape.mx, .int .i64 x.since, .int .i64 x.number]) (t := 35) (fr := (0, 0)) HRM⟩) (by simp [Value.oneCell']) (by unfold maxLen; omega) (by omega) BM.size ?_
        intro v8 w8 hown8 hg8 hat8
        have B8 : Below w2.heap.size w2 w8 := (Fr.of_below BM (fun _ => False)).grown hg8 BM.size (fun k e => .inl ((HOM.lt k e).1)) |>.below (Nat.le_refl _) (fun _ h => h.elim)
        refine hK _ _ (fun _ => ⟨⟨_, B8⟩, rfl⟩) ?_
        clear hK K
        refine Rg.wpN_list (by decide) ?_
        simp only [List.map_cons, List.map_nil]
        obtain ⟨a9, c9, hva⟩ := own_form hown8
        have Q := HFIN.out v8 w8 (by simpa using hown8) B8
        have hh9 := (B8.block _ lp).trans HH.out
        obtain ⟨m9, hm9⟩ : ∃ m9, 0 + n + 1 = m9 := ⟨_, rfl⟩
        rw [hm9] at hva
        rw [hva] at Q ⊢
        have HQ := Lib.hid Q
        have e0 := cell_of_block hh9 1; have e1 := frozen_of_block hh9 1
        have lp9 := lt_of_block hh9
        clear HOM HRM hown8 hg8 hat8 hh9 Q BM B8 hva hm9
        go_wp2_with fail
        go_ret
        exact ⟨rfl, HQ.out⟩
  · as_aux_lemma =>
      refine Rg.wp1_step (fun K hK => ?_) ⟨⟨_, fx0⟩, rfl⟩
      refine step_build1 (by rfl) _ (by rfl) _ _ _ _ _ _ _ _ _ _ (by rfl) ?_
      have B6 : Below w2.heap.size w2 (w2.alloc (.cells #[.int .i64 x.job.id, .int .i64 x.job.queue, .int .i64 x.job.prio, .int .i64 x.job.runtime, .int .i64 x.job.shape.gpus, .int .i64 x.job.shape.cpus, .int .i64 x.job.shape.mn, .int .i64 x.job.shape.mx, .int .i64 x.since, .int .i64 x.number] 35)).drew := ((Below.refl _ _).alloc (Nat.le_refl _) _).drew
      refine hK _ (w2.alloc (.cells #[.int .i64 x.job.id, .int .i64 x.job.queue, .int .i64 x.job.prio, .int .i64 x.job.runtime, .int .i64 x.job.shape.gpus, .int .i64 x.job.shape.cpus, .int .i64 x.job.shape.mn, .int .i64 x.job.shape.mx, .int .i64 x.since, .int .i64 x.number] 35)).drew (fun _ => ⟨⟨_, B6⟩, rfl⟩) ?_
      clear hK K
      try simp only [Rg.wpP, Rg.pickn, List.getElem?_cons_succ, List.getElem?_cons_zero, Option.toList, List.map_cons, List.map_nil, List.cons_append, List.nil_append]
      refine Rg.wp1_step (fun K hK => ?_) ⟨⟨_, B6⟩, rfl⟩
      go_simp
      have B6' : Below w2.heap.size w2 ((w2.alloc (.cells #[.int .i64 x.job.id, .int .i64 x.job.queue, .int .i64 x.job.prio, .int .i64 x.job.runtime, .int .i64 x.job.shape.gpus, .int .i64 x.job.shape.cpus, .int .i64 x.job.shape.mn, .int .i64 x.job.shape.mx, .int .i64 x.since, .int .i64 x.number] 35)).drew.alloc (.cells #[] 35)) := B6.alloc B6.size _
      refine hK _ _ (fun _ => ⟨⟨_, B6'⟩, rfl⟩) ?_
      clear hK K
      try simp only [Rg.wpP, Rg.pickn, List.getElem?_cons_succ, List.getElem?_cons_zero, Option.toList, List.map_cons, List.map_nil, List.cons_append, List.nil_append]
      refine Rg.wp1_step (fun K hK => ?_) ⟨⟨_, B6'⟩, rfl⟩
      refine step_append_src _ (by rfl) _ _ _ (by rfl) w2.heap.size 35 i0 _ 10 80 Try.underlying39 hi0 hz0 hz1 hz2 rfl (by omega) (.slice (some ⟨w2.heap.size + 1, 0, none⟩) 0 0) 0 [] (by rfl) (madeAt w2)
        a2 n cap lf (by rfl) (HS1.out.later B6') HB1'.out (by unfold maxLen; omega) (by omega) (by simp; omega) ?_
      intro v7 w7 hown7 hg7 hat7
      have BM : Below w2.heap.size w2 w7 := (Fr.of_below B6' (fun _ => False)).grown hg7 (by simp <;> omega) (fun k e => .inl (by simp [Value.ownBlock] at e; omega)) |>.below (Nat.le_refl _) (fun _ h => h.elim)
      refine hK _ _ (fun _ => ⟨⟨_, BM⟩, rfl⟩) ?_
      clear hK K
      have HOM := hown7
      have HRM : w7.heap[w2.heap.size]? = some (.cells #[.int .i64 x.job.id, .int .i64 x.job.queue, .int .i64 x.job.prio, .int .i64 x.job.runtime, .int .i64 x.job.shape.gpus, .int .i64 x.job.shape.cpus, .int .i64 x.job.shape.mn, .int .i64 x.job.shape.mx, .int .i64 x.since, .int .i64 x.number] 35) := (hg7.block _ (by simp <;> omega) (by simp [Value.ownBlock])).trans (alloc_other (World.alloc_heap_new w2 _))
      try simp only [Rg.wpP, Rg.pickn, List.getElem?_cons_succ, List.getElem?_cons_zero, Option.toList, List.map_cons, List.map_nil, List.cons_append, List.nil_append]
      refine Rg.wpN_step (fun K hK => ?_) ⟨⟨_, BM⟩, rfl⟩
      refine step_append_src _ (by rfl) _ _ _ (by rfl) w2.heap.size 35 i0 _ 10 80 Try.underlying39 hi0 hz0 hz1 hz2 rfl (by omega) v7 (0 + n) ([] ++ lf) (by rfl) HOM
        (some ⟨w2.heap.size, 0, none⟩) 1 1 [.int .i64 x.job.id, .int .i64 x.job.queue, .int .i64 x.job.prio, .int .i64 x.job.runtime, .int .i64 x.job.shape.gpus, .int .i64 x.job.shape.cpus, .int .i64 x.job.shape.mn, .int .i64 x.job.shape.mx, .int .i64 x.since, .int .i64 x.number] (by rfl) (.inr ⟨_, rfl, by simp, World.news_of_block (cs := #[.int .i64 x.job.id, .int .i64 x.job.queue, .int .i64 x.job.prio, .int .i64 x.job.runtime, .int .i64 x.job.shape.gpus, .int .i64 x.job.shape.cpus, .int .i64 x.job.shape.mn, .int .i64 x.job.shape.mx, .int .i64 x.since, .int .i64 x.number]) (t := 35) (fr := (0, 0)) HRM⟩) (by simp [Value.oneCell']) (by unfold maxLen; omega) (by omega) BM.size ?_
      intro v8 w8 hown8 hg8 hat8
      have B8 : Below w2.heap.size w2 w8 := (Fr.of_below BM (fun _ => False)).grown hg8 BM.size (fun k e => .inl ((HOM.lt k e).1)) |>.below (Nat.le_refl _) (fun _ h => h.elim)
      refine hK _ _ (fun _ => ⟨⟨_, B8⟩, rfl⟩) ?_
      clear hK K
      refine Rg.wpN_list (by decide) ?_
      simp only [List.map_cons, List.map_nil]
      obtain ⟨a9, c9, hva⟩ := own_form hown8
      have Q := HFIN.out v8 w8 (by simpa using hown8) B8
      have hh9 := (B8.block _ lp).trans HH.out
      obtain ⟨m9, hm9⟩ : ∃ m9, 0 + n + 1 = m9 := ⟨_, rfl⟩
      rw [hm9] at hva
      rw [hva] at Q ⊢
      have HQ := Lib.hid Q
      have e0 := cell_of_block hh9 1; have e1 := frozen_of_block hh9 1
      have lp9 := lt_of_block hh9
      clear HOM HRM hown8 hg8 hat8 hh9 Q BM B8 hva hm9
      go_wp2_with fail
      go_ret
      exact ⟨rfl, HQ.out⟩
end
end Go.Proofs.Ytobdbjkhajinbaa
