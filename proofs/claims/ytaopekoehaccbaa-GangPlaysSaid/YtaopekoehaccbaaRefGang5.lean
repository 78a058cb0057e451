/-
  The document's book: Same, In.
-/
import Derived.Test.YtaopekoehaccbaaRefGang4
set_option linter.unusedVariables false
set_option linter.unusedSimpArgs false
namespace Go.Proofs.Ytaopekoehaccbaa
open Go.RowKit Go.Maps
variable {w w' : World} {pm : Nat} {v : Value} {l : List Rc}

/-- a row of records, as it reads -/
def RcRow (w : World) (v : Value) (xs : List Rc) : Prop :=
  ∃ a cap, v = .slice a xs.length cap ∧ ∀ (k : Nat) (hk : k < xs.length), ∃ R, a = some ⟨R, 0, none⟩ ∧ R < w.heap.size ∧ ∀ j, j < 16 → w.cell? ⟨R, k * 16 + j, none⟩ = (Rc.cells xs[k])[j]?
theorem RcRow.of_own {base : Nat} {xs : List Rc} (h : w.ownsRow base 38 16 v xs.length (xs.flatMap Rc.cells)) : RcRow w v xs := by
  obtain ⟨a, cap, rfl⟩ := own_form h
  refine ⟨a, cap, rfl, fun k hk => ?_⟩
  obtain ⟨R, cap', hv, _, h2, _, _, hc⟩ := row_cells h hk
  simp only [Value.slice.injEq, true_and] at hv
  exact ⟨R, hv.1, h2, fun j hj => hc k hk j hj⟩
theorem RcRow.later {xs : List Rc} (h : RcRow w v xs) (hb : Below w.heap.size w w') : RcRow w' v xs := by
  obtain ⟨a, cap, hv, hc⟩ := h
  refine ⟨a, cap, hv, fun k hk => ?_⟩
  obtain ⟨R, ha, h2, h3⟩ := hc k hk
  exact ⟨R, ha, Nat.lt_of_lt_of_le h2 hb.size, fun j hj => (hb.cell (p := ⟨R, k * 16 + j, none⟩) h2).trans (h3 j hj)⟩
theorem RbAt.rcRow (h : RbAt w pm v l) : RcRow w v l := by
  obtain ⟨B, _, ho⟩ := h.own
  exact RcRow.of_own ho

set_option maxRecDepth 100000 in
set_option maxHeartbeats 4000000 in
theorem rcSame_any {v1 v2 : Value} {xs : List Rc} {w : World} (h1 : RcRow w v1 xs) (h2 : RcRow w v2 xs) (hl : xs.length ≤ 1000000) :
    Calls Try.prog 24 #[v1, v2] w fun e w' => e = .returned (.bool true) ∧ Below w.heap.size w w' := by
  obtain ⟨a1, cap1, rfl, hc1⟩ := h1
  obtain ⟨a2, cap2, rfl, hc2⟩ := h2
  obtain ⟨n, hn⟩ : ∃ n, xs.length = n := ⟨_, rfl⟩
  have HN := Lib.hid hn; have HC1 := Lib.hid hc1; have HC2 := Lib.hid hc2
  rw [hn] at hl ⊢
  clear hn hc1 hc2
  go_enter Try.func24, Try.ntmps24
  go_wp2_with fail
  go_loopw [5] (fun i wr => ∃ k : Nat, k ≤ n ∧ i = .int .i64 k ∧ Below w.heap.size w wr) (fun i _ => n - (intOf i).toNat)
  case atStart => exact ⟨0, Nat.zero_le _, rfl, Below.refl _ _⟩
  case round =>
    obtain ⟨k, hk, rfl, hB⟩ := hrel
    have HB := Lib.hid hB
    by_cases hlt : k < n
    · have hkl : k < xs.length := by rw [HN.out]; exact hlt
      obtain ⟨R1, rfl, lR1, d1⟩ := HC1.out k hkl
      obtain ⟨R2, rfl, lR2, d2⟩ := HC2.out k hkl
      obtain ⟨x, hx⟩ : ∃ x, xs[k] = x := ⟨_, rfl⟩
      rw [hx] at d1 d2
      have c1_0 : wr.cell? ⟨R1, k * 16, none⟩ = some (.int .i64 x.job.id) := (hB.cell (p := ⟨R1, k * 16 + 0, none⟩) lR1).trans (d1 0 (by omega))
      have c1_1 : wr.cell? ⟨R1, k * 16 + 1, none⟩ = some (.int .i64 x.job.queue) := (hB.cell (p := ⟨R1, k * 16 + 1, none⟩) lR1).trans (d1 1 (by omega))
      have c1_2 : wr.cell? ⟨R1, k * 16 + 2, none⟩ = some (.int .i64 x.job.prio) := (hB.cell (p := ⟨R1, k * 16 + 2, none⟩) lR1).trans (d1 2 (by omega))
      have c1_3 : wr.cell? ⟨R1, k * 16 + 3, none⟩ = some (.int .i64 x.job.runtime) := (hB.cell (p := ⟨R1, k * 16 + 3, none⟩) lR1).trans (d1 3 (by omega))
      have c1_4 : wr.cell? ⟨R1, k * 16 + 4, none⟩ = some (.int .i64 x.job.shape.gpus) := (hB.cell (p := ⟨R1, k * 16 + 4, none⟩) lR1).trans (d1 4 (by omega))
      have c1_5 : wr.cell? ⟨R1, k * 16 + 5, none⟩ = some (.int .i64 x.job.shape.cpus) := (hB.cell (p := ⟨R1, k * 16 + 5, none⟩) lR1).trans (d1 5 (by omega))
      have c1_6 : wr.cell? ⟨R1, k * 16 + 6, none⟩ = some (.int .i64 x.job.shape.mn) := (hB.cell (p := ⟨R1, k * 16 + 6, none⟩) lR1).trans (d1 6 (by omega))
      have c1_7 : wr.cell? ⟨R1, k * 16 + 7, none⟩ = some (.int .i64 x.job.shape.mx) := (hB.cell (p := ⟨R1, k * 16 + 7, none⟩) lR1).trans (d1 7 (by omega))
      have c1_8 : wr.cell? ⟨R1, k * 16 + 8, none⟩ = some (.int .i64 x.state) := (hB.cell (p := ⟨R1, k * 16 + 8, none⟩) lR1).trans (d1 8 (by omega))
      have c1_9 : wr.cell? ⟨R1, k * 16 + 9, none⟩ = some (.int .i64 x.since) := (hB.cell (p := ⟨R1, k * 16 + 9, none⟩) lR1).trans (d1 9 (by omega))
      have c1_10 : wr.cell? ⟨R1, k * 16 + 10, none⟩ = some (.int .i64 x.number) := (hB.cell (p := ⟨R1, k * 16 + 10, none⟩) lR1).trans (d1 10 (by omega))
      have c1_11 : wr.cell? ⟨R1, k * 16 + 11, none⟩ = some (.int .i64 x.members) := (hB.cell (p := ⟨R1, k * 16 + 11, none⟩) lR1).trans (d1 11 (by omega))
      have c1_12 : wr.cell? ⟨R1, k * 16 + 12, none⟩ = some (.int .i64 x.began) := (hB.cell (p := ⟨R1, k * 16 + 12, none⟩) lR1).trans (d1 12 (by omega))
      have c1_13 : wr.cell? ⟨R1, k * 16 + 13, none⟩ = some (.int .i64 x.fin) := (hB.cell (p := ⟨R1, k * 16 + 13, none⟩) lR1).trans (d1 13 (by omega))
      have c1_14 : wr.cell? ⟨R1, k * 16 + 14, none⟩ = some (.int .i64 x.limit) := (hB.cell (p := ⟨R1, k * 16 + 14, none⟩) lR1).trans (d1 14 (by omega))
      have c1_15 : wr.cell? ⟨R1, k * 16 + 15, none⟩ = some (.int .i64 x.worker) := (hB.cell (p := ⟨R1, k * 16 + 15, none⟩) lR1).trans (d1 15 (by omega))
      have lr1 : R1 < wr.heap.size := Nat.lt_of_lt_of_le lR1 hB.size
      have c2_0 : wr.cell? ⟨R2, k * 16, none⟩ = some (.int .i64 x.job.id) := (hB.cell (p := ⟨R2, k * 16 + 0, none⟩) lR2).trans (d2 0 (by omega))
      have c2_1 : wr.cell? ⟨R2, k * 16 + 1, none⟩ = some (.int .i64 x.job.queue) := (hB.cell (p := ⟨R2, k * 16 + 1, none⟩) lR2).trans (d2 1 (by omega))
      have c2_2 : wr.cell? ⟨R2, k * 16 + 2, none⟩ = some (.int .i64 x.job.prio) := (hB.cell (p := ⟨R2, k * 16 + 2, none⟩) lR2).trans (d2 2 (by omega))
      have c2_3 : wr.cell? ⟨R2, k * 16 + 3, none⟩ = some (.int .i64 x.job.runtime) := (hB.cell (p := ⟨R2, k * 16 + 3, none⟩) lR2).trans (d2 3 (by omega))
      have c2_4 : wr.cell? ⟨R2, k * 16 + 4, none⟩ = some (.int .i64 x.job.shape.gpus) := (hB.cell (p := ⟨R2, k * 16 + 4, none⟩) lR2).trans (d2 4 (by omega))
      have c2_5 : wr.cell? ⟨R2, k * 16 + 5, none⟩ = some (.int .i64 x.job.shape.cpus) := (hB.cell (p := ⟨R2, k * 16 + 5, none⟩) lR2).trans (d2 5 (by omega))
      have c2_6 : wr.cell? ⟨R2, k * 16 + 6, none⟩ = some (.int .i64 x.job.shape.mn) := (hB.cell (p := ⟨R2, k * 16 + 6, none⟩) lR2).trans (d2 6 (by omega))
      have c2_7 : wr.cell? ⟨R2, k * 16 + 7, none⟩ = some (.int .i64 x.job.shape.mx) := (hB.cell (p := ⟨R2, k * 16 + 7, none⟩) lR2).trans (d2 7 (by omega))
      have c2_8 : wr.cell? ⟨R2, k * 16 + 8, none⟩ = some (.int .i64 x.state) := (hB.cell (p := ⟨R2, k * 16 + 8, none⟩) lR2).trans (d2 8 (by omega))
      have c2_9 : wr.cell? ⟨R2, k * 16 + 9, none⟩ = some (.int .i64 x.since) := (hB.cell (p := ⟨R2, k * 16 + 9, none⟩) lR2).trans (d2 9 (by omega))
      have c2_10 : wr.cell? ⟨R2, k * 16 + 10, none⟩ = some (.int .i64 x.number) := (hB.cell (p := ⟨R2, k * 16 + 10, none⟩) lR2).trans (d2 10 (by omega))
      have c2_11 : wr.cell? ⟨R2, k * 16 + 11, none⟩ = some (.int .i64 x.members) := (hB.cell (p := ⟨R2, k * 16 + 11, none⟩) lR2).trans (d2 11 (by omega))
      have c2_12 : wr.cell? ⟨R2, k * 16 + 12, none⟩ = some (.int .i64 x.began) := (hB.cell (p := ⟨R2, k * 16 + 12, none⟩) lR2).trans (d2 12 (by omega))
      have c2_13 : wr.cell? ⟨R2, k * 16 + 13, none⟩ = some (.int .i64 x.fin) := (hB.cell (p := ⟨R2, k * 16 + 13, none⟩) lR2).trans (d2 13 (by omega))
      have c2_14 : wr.cell? ⟨R2, k * 16 + 14, none⟩ = some (.int .i64 x.limit) := (hB.cell (p := ⟨R2, k * 16 + 14, none⟩) lR2).trans (d2 14 (by omega))
      have c2_15 : wr.cell? ⟨R2, k * 16 + 15, none⟩ = some (.int .i64 x.worker) := (hB.cell (p := ⟨R2, k * 16 + 15, none⟩) lR2).trans (d2 15 (by omega))
      have lr2 : R2 < wr.heap.size := Nat.lt_of_lt_of_le lR2 hB.size
      clear d1 d2 hx hB hkl
      go_wp2_with fail
      go_quiet (fail)
      have hBq : Below wr.heap.size wr (wr.drewN nq) := ⟨rfl, rfl, rfl, Nat.le_refl _, fun _ _ => rfl⟩
      generalize wr.drewN nq = wq at hBq ⊢
      have HQ := Lib.hid (HB.out.trans (hBq.mono HB.out.size))
      clear hBq lr1 lr2 c1_0 c1_1 c1_2 c1_3 c1_4 c1_5 c1_6 c1_7 c1_8 c1_9 c1_10 c1_11 c1_12 c1_13 c1_14 c1_15 c2_0 c2_1 c2_2 c2_3 c2_4 c2_5 c2_6 c2_7 c2_8 c2_9 c2_10 c2_11 c2_12 c2_13 c2_14 c2_15
      go_wp2_with fail
      exact ⟨⟨k + 1, by omega, by go_num, HQ.out⟩, by simp [intOf]; omega⟩
    · obtain rfl : k = n := by omega
      clear hB hlt
      go_wp2_with fail
      go_ret
      exact ⟨rfl, HB.out⟩

set_option maxRecDepth 100000 in
set_option maxHeartbeats 4000000 in
theorem refIn_any (h : RbAt w pm v l) (s : Int) (hl : l.length ≤ 1000000) :
    Calls Try.prog 25 #[.pointer (some ⟨pm, 0, none⟩), .int .i64 s] w fun e w' => ∃ v', e = .returned v' ∧ w'.ownsRow w.heap.size 38 16 v' (l.filter fun x => x.state == s).length ((l.filter fun x => x.state == s).flatMap Rc.cells) ∧ Below w.heap.size w w' := by
  obtain ⟨is, his⟩ : ∃ is : Rc → Bool, (fun x : Rc => x.state == s) = is := ⟨_, rfl⟩
  have HIS := Lib.hid (show ∀ x : Rc, is x = (x.state == s) by rw [← his]; exact fun x => rfl)
  rw [his]
  clear his
  obtain ⟨i0, hi0, hz0, hz1, hz2⟩ := info_parts infoRec
  obtain ⟨n, hn⟩ : ∃ n, l.length = n := ⟨_, rfl⟩
  have HN := Lib.hid hn; have H := Lib.hid h
  have lp := lt_of_block h.head
  have HHD : Hid (∃ a cap, w.heap[pm]? = some (.cells #[.slice a n cap] 57 (0, 0)) ∧ v = .slice a n cap) := Lib.hid (by
    have hh := h.head
    obtain ⟨B, _, ho⟩ := h.own
    obtain ⟨a, cap, rfl⟩ := own_form ho
    rw [hn] at hh
    exact ⟨a, cap, hh, by rw [hn]⟩)
  rw [hn] at hl
  clear h hn
  obtain ⟨a, cap, hh, hv⟩ := HHD.out
  have HH := Lib.hid hh; have HV := Lib.hid hv
  clear hh hv HHD
  go_enter Try.func25, Try.ntmps25
  go_wp2_with fail
  go_loopw [5, 6] (fun v' i wr => ∃ (k : Nat) (v : Value), v = v' ∧ k ≤ n ∧ i = .int .i64 k ∧ wr.ownsRow w.heap.size 38 16 v ((l.take k).filter is).length (((l.take k).filter is).flatMap Rc.cells) ∧ Below w.heap.size w wr) (fun _ i _ => n - (intOf i).toNat)
  case atStart => exact ⟨0, _, rfl, Nat.zero_le _, rfl, World.ownsRow_nil _ _ _ _, Below.refl _ _⟩
  case round =>
    obtain ⟨k, v, rfl, hk, rfl, hown, hB⟩ := hrel
    have q0 := cell_of_block ((hB.block _ (lt_of_block HH.out)).trans HH.out) 0
    have lpr := Nat.lt_of_lt_of_le lp hB.size
    by_cases hlt : k < n
    · have hkl : k < l.length := by rw [HN.out]; exact hlt
      obtain ⟨x, hx⟩ : ∃ x, l[k] = x := ⟨_, rfl⟩
      obtain ⟨a', cap', hv', hc'⟩ := H.out.rcRow
      rw [HV.out] at hv'
      simp only [Value.slice.injEq] at hv'
      obtain ⟨rfl, -, rfl⟩ := hv'
      obtain ⟨R, rfl, hR2, hcs⟩ := hc' k hkl
      rw [hx] at hcs
      have r0 : wr.cell? ⟨R, k * 16, none⟩ = some (.int .i64 x.job.id) := (hB.cell (p := ⟨R, k * 16 + 0, none⟩) hR2).trans (hcs 0 (by omega))
      have r1 : wr.cell? ⟨R, k * 16 + 1, none⟩ = some (.int .i64 x.job.queue) := (hB.cell (p := ⟨R, k * 16 + 1, none⟩) hR2).trans (hcs 1 (by omega))
      have r2 : wr.cell? ⟨R, k * 16 + 2, none⟩ = some (.int .i64 x.job.prio) := (hB.cell (p := ⟨R, k * 16 + 2, none⟩) hR2).trans (hcs 2 (by omega))
      have r3 : wr.cell? ⟨R, k * 16 + 3, none⟩ = some (.int .i64 x.job.runtime) := (hB.cell (p := ⟨R, k * 16 + 3, none⟩) hR2).trans (hcs 3 (by omega))
      have r4 : wr.cell? ⟨R, k * 16 + 4, none⟩ = some (.int .i64 x.job.shape.gpus) := (hB.cell (p := ⟨R, k * 16 + 4, none⟩) hR2).trans (hcs 4 (by omega))
      have r5 : wr.cell? ⟨R, k * 16 + 5, none⟩ = some (.int .i64 x.job.shape.cpus) := (hB.cell (p := ⟨R, k * 16 + 5, none⟩) hR2).trans (hcs 5 (by omega))
      have r6 : wr.cell? ⟨R, k * 16 + 6, none⟩ = some (.int .i64 x.job.shape.mn) := (hB.cell (p := ⟨R, k * 16 + 6, none⟩) hR2).trans (hcs 6 (by omega))
      have r7 : wr.cell? ⟨R, k * 16 + 7, none⟩ = some (.int .i64 x.job.shape.mx) := (hB.cell (p := ⟨R, k * 16 + 7, none⟩) hR2).trans (hcs 7 (by omega))
      have r8 : wr.cell? ⟨R, k * 16 + 8, none⟩ = some (.int .i64 x.state) := (hB.cell (p := ⟨R, k * 16 + 8, none⟩) hR2).trans (hcs 8 (by omega))
      have r9 : wr.cell? ⟨R, k * 16 + 9, none⟩ = some (.int .i64 x.since) := (hB.cell (p := ⟨R, k * 16 + 9, none⟩) hR2).trans (hcs 9 (by omega))
      have r10 : wr.cell? ⟨R, k * 16 + 10, none⟩ = some (.int .i64 x.number) := (hB.cell (p := ⟨R, k * 16 + 10, none⟩) hR2).trans (hcs 10 (by omega))
      have r11 : wr.cell? ⟨R, k * 16 + 11, none⟩ = some (.int .i64 x.members) := (hB.cell (p := ⟨R, k * 16 + 11, none⟩) hR2).trans (hcs 11 (by omega))
      have r12 : wr.cell? ⟨R, k * 16 + 12, none⟩ = some (.int .i64 x.began) := (hB.cell (p := ⟨R, k * 16 + 12, none⟩) hR2).trans (hcs 12 (by omega))
      have r13 : wr.cell? ⟨R, k * 16 + 13, none⟩ = some (.int .i64 x.fin) := (hB.cell (p := ⟨R, k * 16 + 13, none⟩) hR2).trans (hcs 13 (by omega))
      have r14 : wr.cell? ⟨R, k * 16 + 14, none⟩ = some (.int .i64 x.limit) := (hB.cell (p := ⟨R, k * 16 + 14, none⟩) hR2).trans (hcs 14 (by omega))
      have r15 : wr.cell? ⟨R, k * 16 + 15, none⟩ = some (.int .i64 x.worker) := (hB.cell (p := ⟨R, k * 16 + 15, none⟩) hR2).trans (hcs 15 (by omega))
      have lR : R < wr.heap.size := Nat.lt_of_lt_of_le hR2 hB.size
      have hT : (l.take (k + 1)).filter is = (l.take k).filter is ++ (if is x = true then [x] else []) := by
        rw [List.take_succ_eq_append_getElem hkl, List.filter_append, hx]
        by_cases e : is x = true
        · simp [List.filter, e]
        · simp [List.filter, e]
      have HT := Lib.hid hT; have HBB := Lib.hid hB
      have hlen2 : ((l.take k).filter is).length ≤ 1000000 := by
        have := List.length_filter_le is (l.take k)
        rw [List.length_take] at this
        omega
      have HL2 := Lib.hid hlen2
      clear hcs hc' hx hT hlen2 hkl
      by_cases hs : x.state = s
      · have hsb : (x.state == s) = true := by simpa using hs
        have hisx := Lib.hid (show is x = true by rw [HIS.out]; exact hsb)
        clear hs
        obtain ⟨av, capv, rfl⟩ := own_form hown
        obtain ⟨m, hm⟩ : ∃ m, ((l.take k).filter is).length = m := ⟨_, rfl⟩
        have HM := Lib.hid hm
        have hm2 : m ≤ 1000000 := by rw [← hm]; exact HL2.out
        rw [hm] at hown
        have HO2 := Lib.hid hown
        have hws : w.heap.size ≤ wr.heap.size := hB.size
        rw [hm]
        clear hm hown hB
        go_wp2_with (at_builtin; refine wpList_append_lies _ rfl _ _ _ rfl w.heap.size 38 i0 _ 16 128 Try.underlying46 hi0 hz0 hz1 hz2 rfl (by omega) (.slice av m capv) m _ rfl (HO2.out.alloc _) ⟨wr.heap.size, 0, none⟩ 1 1 (Rc.cells x) rfl rfl (World.news_of_block (cs := #[.int .i64 (Jb.id (Rc.job x)), .int .i64 (Jb.queue (Rc.job x)), .int .i64 (Jb.prio (Rc.job x)), .int .i64 (Jb.runtime (Rc.job x)), .int .i64 (Sh.gpus (Jb.shape (Rc.job x))), .int .i64 (Sh.cpus (Jb.shape (Rc.job x))), .int .i64 (Sh.mn (Jb.shape (Rc.job x))), .int .i64 (Sh.mx (Jb.shape (Rc.job x))), .int .i64 (Rc.state x), .int .i64 (Rc.since x), .int .i64 (Rc.number x), .int .i64 (Rc.members x), .int .i64 (Rc.began x), .int .i64 (Rc.fin x), .int .i64 (Rc.limit x), .int .i64 (Rc.worker x)]) (t := 38) (fr := (0, 0)) (World.alloc_heap_new wr _)) (by simp [Rc.cells, Value.oneCell']) (by omega) (by unfold maxLen; omega) (by omega) (by have := HBB.out.size; simp; omega) (wr.heap.size + 1) (by simp) ?_)
        clear q0 r0 r1 r2 r3 r4 r5 r6 r7 r8 r9 r10 r11 r12 r13 r14 r15
        intro gg cap'' w3 hown3 hgrow hat hlt2
        have hv := HO2.out.lt
        have hlen3 : ((l.take (k + 1)).filter is).length = m + 1 := by rw [HT.out, hisx.out]; simp [HM.out]
        have HO3 := Lib.hid (show w3.ownsRow w.heap.size 38 16 (.slice (some ⟨gg, 0, none⟩) (m + 1) cap'') ((l.take (k + 1)).filter is).length (((l.take (k + 1)).filter is).flatMap Rc.cells) by rw [hlen3, HT.out, hisx.out]; simpa using hown3)
        have HB3 := Lib.hid ((HBB.out.alloc HBB.out.size _).grown hgrow (by have := HBB.out.size; simp; omega) (fun j e => (hv j e).1))
        clear hown3 hgrow hat hlt2 hv hlen3
        go_wp2
        refine ⟨⟨k + 1, _, rfl, by omega, by go_num, HO3.out, HB3.out⟩, by simp [intOf]; omega⟩
      · have hsb : (x.state == s) = false := by simpa using hs
        have hisx : is x = false := by rw [HIS.out]; exact hsb
        clear hs
        have HO2 := Lib.hid (show wr.ownsRow w.heap.size 38 16 v ((l.take (k + 1)).filter is).length (((l.take (k + 1)).filter is).flatMap Rc.cells) by rw [HT.out, hisx]; simpa using hown)
        clear hown hisx hB
        go_wp2_with fail
        refine ⟨⟨k + 1, _, rfl, by omega, by go_num, HO2.out, HBB.out⟩, by simp [intOf]; omega⟩
    · obtain rfl : k = n := by omega
      have HO := Lib.hid hown; have HBB := Lib.hid hB
      clear hown hB
      go_wp2
      go_ret
      have h1 := HO.out
      rw [List.take_of_length_le (by rw [HN.out]; exact Nat.le_refl _)] at h1
      exact ⟨_, rfl, h1, HBB.out⟩
theorem refAdd_any (h : RbAt w pm v l) (j : Jb) (since : Int) (hl : l.length ≤ 1000000) :
    Calls Try.prog 42 #[.pointer (some ⟨pm, 0, none⟩), (.agg #[.int .i64 (Jb.id j), .int .i64 (Jb.queue j), .int .i64 (Jb.prio j), .int .i64 (Jb.runtime j), .int .i64 (Sh.gpus (Jb.shape j)), .int .i64 (Sh.cpus (Jb.shape j)), .int .i64 (Sh.mn (Jb.shape j)), .int .i64 (Sh.mx (Jb.shape j))]), .int .i64 since] w (RbAdd pm v (addR l j since) w) := by
  by_cases h1 : (findR l j.id).isSome = true ∨ 4096 ≤ l.length
  · exact refAdd_no h j since hl h1
  · refine refAdd_go h j since (by omega) ?_
    cases hf : findR l j.id with
    | none => rfl
    | some k => exact absurd (.inl (by rw [hf]; rfl)) h1
end Go.Proofs.Ytaopekoehaccbaa
