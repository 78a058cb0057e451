/-
  gang's All, In.
-/
import Derived.Test.YtaopekoehaccbaaGangAdd2
set_option linter.unusedVariables false
set_option linter.unusedSimpArgs false
namespace Go.Proofs.Ytaopekoehaccbaa
open Go.RowKit Go.Maps

theorem BookAt.src {w : World} {base p M : Nat} {v : Value} {l : List Rc} (h : w.ownsRow base 38 16 v l.length (l.flatMap Rc.cells)) : ∃ a cap, v = .slice a l.length cap ∧ Src w 16 a l.length cap (l.flatMap Rc.cells) := by
  obtain ⟨h1, ⟨rfl, h0⟩ | ⟨g, cap, cur, rfl, hg, hh, hn, hm, hsz, ht⟩⟩ := h
  · refine ⟨none, 0, by rw [h0], .inl ⟨rfl, h0, rfl, ?_⟩⟩
    have : l = [] := List.length_eq_zero_iff.1 h0
    rw [this]; rfl
  · refine ⟨_, cap, rfl, .inr ⟨_, rfl, gflat_len l, fun j u hu => ?_⟩⟩
    have hj : j < l.length * 16 := by
      have := (List.getElem?_eq_some_iff.1 hu).1
      rw [gflat_len] at this; exact this
    have e : (⟨g, 0, none⟩ : Addr).add j = ⟨g, j, none⟩ := by unfold Addr.add; split <;> simp_all
    rw [e, cell_of_block hh, ← hu, ← ht, List.getElem?_take, if_pos hj, Array.getElem?_toList]

theorem recCells_one (l : List Rc) : ∀ u ∈ l.flatMap Rc.cells, u.oneCell' = true := by
  intro u hu
  obtain ⟨x, hx, hu⟩ := List.mem_flatMap.1 hu
  simp only [Rc.cells, List.mem_cons, List.not_mem_nil, or_false] at hu
  rcases hu with rfl | rfl | rfl | rfl | rfl | rfl | rfl | rfl | rfl | rfl | rfl | rfl | rfl | rfl | rfl | rfl <;> rfl
set_option maxHeartbeats 1000000 in
theorem clone_any (v : Value) (l : List Rc) (base : Nat) (w : World) (h : w.ownsRow base 38 16 v l.length (l.flatMap Rc.cells)) (hl : l.length ≤ 1000000) :
    Calls Try.prog 39 #[v] w fun e w' => ∃ v', e = .returned v' ∧ w'.ownsRow w.heap.size 38 16 v' l.length (l.flatMap Rc.cells) ∧ Below w.heap.size w w' := by
  obtain ⟨i0, hi0, hz0, hz1, hz2⟩ := info_parts infoRec
  obtain ⟨a, cap, rfl, hs⟩ := BookAt.src (p := 0) (M := 0) (base := base) h
  obtain ⟨ln, hln⟩ : ∃ ln, l.length = ln := ⟨_, rfl⟩
  have HL := Lib.hid hln
  rw [hln] at hl hs ⊢
  have H := Lib.hid hs
  clear h hs hln
  cases a with
  | none =>
    have h0 : ln = 0 ∧ cap = 0 ∧ l = [] := by
      rcases H.out with ⟨_, h1, h2, _⟩ | ⟨_, h, _⟩
      · exact ⟨h1, h2, List.length_eq_zero_iff.1 (HL.out.trans h1)⟩
      · cases h
    obtain ⟨rfl, rfl, rfl⟩ := h0
    have heq : ∀ w' : World, (binOp .eql 46 (.slice none 0 0) (.slice none 0 0)).run Try.prog w' = .ok (.bool true) w' := fun w' => by kernel_rfl
    go_enter Try.func39, Try.ntmps39
    go_wp2
    go_ret
    exact ⟨_, rfl, World.ownsRow_nil _ _ _ _, Below.refl _ _⟩
  | some ad =>
    have heq : ∀ w' : World, (binOp .eql 46 (.slice (some ad) ln cap) (.slice none 0 0)).run Try.prog w' = .ok (.bool false) w' := fun w' => by kernel_rfl
    go_enter Try.func39, Try.ntmps39
    have hsrc := H.out.later ((Below.refl w.heap.size w).alloc (Nat.le_refl _) (.cells #[] 38))
    have HSRC := Lib.hid hsrc
    clear hsrc
    go_wp2_with (at_builtin; refine wpList_append_src _ (by rfl) _ _ _ (by rfl) w.heap.size 38 i0 _ 16 128 Try.underlying46 hi0 hz0 hz1 hz2 rfl (by omega) (.slice (some ⟨w.heap.size, 0, none⟩) 0 0) 0 [] (by rfl) (World.ownsRow_made w _ 0 (Nat.le_refl _) (by unfold maxLen; omega) rfl) (some ad) ln cap _ (by rfl) HSRC.out (recCells_one l) (by unfold maxLen; omega) (by omega) (by simp) ?_; intro v' w' hown hgrow hat)
    have HO := Lib.hid hown
    have HB := Lib.hid (show Below w.heap.size w w' from ((Below.refl w.heap.size w).alloc (Nat.le_refl _) (.cells #[] 38)).grown hgrow (by simp) (fun q e => by simp [Value.ownBlock] at e; omega))
    clear hown hgrow hat
    go_wp2
    go_ret
    refine ⟨v', rfl, ?_, HB.out⟩
    have := HO.out
    simpa using this

theorem all_any (base p M : Nat) (v : Value) (l : List Rc) (w : World) (h : BookAt w base p M v l) (hl : l.length ≤ 1000000) :
    Calls Try.prog 20 #[.pointer (some ⟨p, 0, none⟩)] w fun e w' => ∃ v', e = .returned v' ∧ w'.ownsRow w.heap.size 38 16 v' l.length (l.flatMap Rc.cells) ∧ Below w.heap.size w w' := by
  have c0 : w.cell? ⟨p, 0, none⟩ = some v := cell_of_block h.head 0
  have lp := h.lt (.inl rfl)
  have HO := Lib.hid h.own
  clear h
  go_enter Try.func20, Try.ntmps20
  go_wp2_with fail
  refine (clone_any v l base w HO.out hl).mono ?_
  rintro e w1 ⟨v', rfl, ho, hb⟩
  have H1 := Lib.hid ho; have HB := Lib.hid hb
  clear ho hb
  go_wp2_with fail
  go_ret
  exact ⟨v', rfl, H1.out, HB.out⟩

theorem in1_any (x : Rc) (b : Nat) (s : Int) (w : World) (hm : w.cell? ⟨b, 0, none⟩ = some (.int .i64 s)) :
    Calls Try.prog 41 #[(.agg #[.int .i64 (Jb.id (Rc.job x)), .int .i64 (Jb.queue (Rc.job x)), .int .i64 (Jb.prio (Rc.job x)), .int .i64 (Jb.runtime (Rc.job x)), .int .i64 (Sh.gpus (Jb.shape (Rc.job x))), .int .i64 (Sh.cpus (Jb.shape (Rc.job x))), .int .i64 (Sh.mn (Jb.shape (Rc.job x))), .int .i64 (Sh.mx (Jb.shape (Rc.job x))), .int .i64 (Rc.state x), .int .i64 (Rc.since x), .int .i64 (Rc.number x), .int .i64 (Rc.members x), .int .i64 (Rc.began x), .int .i64 (Rc.fin x), .int .i64 (Rc.limit x), .int .i64 (Rc.worker x)]), .pointer (some ⟨b, 0, none⟩)] w fun e w' => e = .returned (.bool (x.state == s)) ∧ Below w.heap.size w w' := by
  have lb := World.block_lt_of_cell? w _ hm
  simp only at lb
  go_enter Try.func41, Try.ntmps41
  go_wp2
  go_ret
  exact ⟨rfl, (Below.refl _ _).alloc (Nat.le_refl _) _⟩

/-- the cells of a row of records, where it lies -/
theorem row_cells {w : World} {base : Nat} {v : Value} {l : List Rc} (h : w.ownsRow base 38 16 v l.length (l.flatMap Rc.cells)) {k : Nat} (hk : k < l.length) :
    ∃ R cap, v = .slice (some ⟨R, 0, none⟩) l.length cap ∧ base ≤ R ∧ R < w.heap.size ∧ l.length ≤ cap ∧ cap ≤ maxLen ∧ ∀ (i : Nat) (hi : i < l.length) (j : Nat), j < 16 → w.cell? ⟨R, i * 16 + j, none⟩ = (Rc.cells l[i])[j]? := by
  obtain ⟨h1, ⟨_, h0⟩ | ⟨g, cap, cur, hv, hg, hh, hn, hm, hsz, ht⟩⟩ := h
  · omega
  · refine ⟨g, cap, hv, hg, lt_of_block hh, hn, hm, fun i hi j hj => ?_⟩
    rw [← gflat_get l i j hi hj, ← ht, List.getElem?_take, if_pos (by omega), Array.getElem?_toList, cell_of_block hh]

set_option maxHeartbeats 2000000 in
theorem filter_any (v : Value) (l : List Rc) (base : Nat) (F : FuncId) (caps : Array Value) (is : Rc → Bool) (w : World) (h : w.ownsRow base 38 16 v l.length (l.flatMap Rc.cells)) (hl : l.length ≤ 1000000)
    (hF : Enters F) (hcall : ∀ (x : Rc) (y : Later w), Calls Try.prog F (#[(.agg #[.int .i64 (Jb.id (Rc.job x)), .int .i64 (Jb.queue (Rc.job x)), .int .i64 (Jb.prio (Rc.job x)), .int .i64 (Jb.runtime (Rc.job x)), .int .i64 (Sh.gpus (Jb.shape (Rc.job x))), .int .i64 (Sh.cpus (Jb.shape (Rc.job x))), .int .i64 (Sh.mn (Jb.shape (Rc.job x))), .int .i64 (Sh.mx (Jb.shape (Rc.job x))), .int .i64 (Rc.state x), .int .i64 (Rc.since x), .int .i64 (Rc.number x), .int .i64 (Rc.members x), .int .i64 (Rc.began x), .int .i64 (Rc.fin x), .int .i64 (Rc.limit x), .int .i64 (Rc.worker x)])] ++ caps) y.wd fun e w' => e = .returned (.bool (is x)) ∧ Below y.wd.heap.size y.wd w') :
    Calls Try.prog 40 #[v, .func (.func F) #[] caps] w fun e w' => ∃ v', e = .returned v' ∧ w'.ownsRow w.heap.size 38 16 v' (l.filter is).length ((l.filter is).flatMap Rc.cells) ∧ Below w.heap.size w w' := by
  obtain ⟨i0, hi0, hz0, hz1, hz2⟩ := info_parts infoRec
  obtain ⟨n, hn⟩ : ∃ n, l.length = n := ⟨_, rfl⟩
  obtain ⟨a, cap, rfl⟩ := own_form h
  have HN := Lib.hid hn; have H := Lib.hid h; have HC := Lib.hid hcall; have HF := Lib.hid hF
  rw [hn] at hl ⊢
  clear h hn hcall hF
  go_enter Try.func40, Try.ntmps40
  go_wp2_with fail
  go_loopw [5, 10] (fun v' i wr => ∃ (k : Nat) (v : Value), v = v' ∧ k ≤ n ∧ i = .int .i64 k ∧ wr.ownsRow w.heap.size 38 16 v ((l.take k).filter is).length (((l.take k).filter is).flatMap Rc.cells) ∧ Below w.heap.size w wr) (fun _ i _ => n - (intOf i).toNat)
  case atStart => exact ⟨0, _, rfl, Nat.zero_le _, rfl, World.ownsRow_nil _ _ _ _, Below.refl _ _⟩
  case round =>
    obtain ⟨k, v, rfl, hk, rfl, hown, hB⟩ := hrel
    by_cases hlt : k < n
    · have hkl : k < l.length := by rw [HN.out]; exact hlt
      obtain ⟨x, hx⟩ : ∃ x, l[k] = x := ⟨_, rfl⟩
      obtain ⟨R, cap1, hv, hR1, hR2, hc1, hc2, hcs⟩ := row_cells H.out hkl
      rw [HN.out] at hv
      simp only [Value.slice.injEq, true_and] at hv
      obtain ⟨rfl, rfl⟩ := hv
      have hrec : ∀ j, j < 16 → wr.cell? ⟨R, k * 16 + j, none⟩ = (Rc.cells x)[j]? := fun j hj => by
        rw [hB.cell (p := ⟨R, k * 16 + j, none⟩) hR2, hcs k hkl j hj, hx]
      have r0 : wr.cell? ⟨R, k * 16, none⟩ = some (.int .i64 x.job.id) := hrec 0 (by omega)
      have r1 : wr.cell? ⟨R, k * 16 + 1, none⟩ = some (.int .i64 x.job.queue) := hrec 1 (by omega)
      have r2 : wr.cell? ⟨R, k * 16 + 2, none⟩ = some (.int .i64 x.job.prio) := hrec 2 (by omega)
      have r3 : wr.cell? ⟨R, k * 16 + 3, none⟩ = some (.int .i64 x.job.runtime) := hrec 3 (by omega)
      have r4 : wr.cell? ⟨R, k * 16 + 4, none⟩ = some (.int .i64 x.job.shape.gpus) := hrec 4 (by omega)
      have r5 : wr.cell? ⟨R, k * 16 + 5, none⟩ = some (.int .i64 x.job.shape.cpus) := hrec 5 (by omega)
      have r6 : wr.cell? ⟨R, k * 16 + 6, none⟩ = some (.int .i64 x.job.shape.mn) := hrec 6 (by omega)
      have r7 : wr.cell? ⟨R, k * 16 + 7, none⟩ = some (.int .i64 x.job.shape.mx) := hrec 7 (by omega)
      have r8 : wr.cell? ⟨R, k * 16 + 8, none⟩ = some (.int .i64 x.state) := hrec 8 (by omega)
      have r9 : wr.cell? ⟨R, k * 16 + 9, none⟩ = some (.int .i64 x.since) := hrec 9 (by omega)
      have r10 : wr.cell? ⟨R, k * 16 + 10, none⟩ = some (.int .i64 x.number) := hrec 10 (by omega)
      have r11 : wr.cell? ⟨R, k * 16 + 11, none⟩ = some (.int .i64 x.members) := hrec 11 (by omega)
      have r12 : wr.cell? ⟨R, k * 16 + 12, none⟩ = some (.int .i64 x.began) := hrec 12 (by omega)
      have r13 : wr.cell? ⟨R, k * 16 + 13, none⟩ = some (.int .i64 x.fin) := hrec 13 (by omega)
      have r14 : wr.cell? ⟨R, k * 16 + 14, none⟩ = some (.int .i64 x.limit) := hrec 14 (by omega)
      have r15 : wr.cell? ⟨R, k * 16 + 15, none⟩ = some (.int .i64 x.worker) := hrec 15 (by omega)
      have lR : R < wr.heap.size := Nat.lt_of_lt_of_le hR2 hB.size
      have hT : (l.take (k + 1)).filter is = (l.take k).filter is ++ (if is x = true then [x] else []) := by
        rw [List.take_succ_eq_append_getElem hkl, List.filter_append, hx]
        by_cases e : is x = true
        · simp [List.filter, e]
        · simp [List.filter, e]
      have HT := Lib.hid hT; have HO := Lib.hid hown; have HB := Lib.hid hB
      have hlen2 : ((l.take k).filter is).length ≤ 1000000 := by
        have := List.length_filter_le is (l.take k)
        rw [List.length_take] at this
        omega
      have HL2 := Lib.hid hlen2
      clear hrec hcs hx hT hown hlen2
      have hcf : ∀ w' : World, (callFunc F (#[(.agg #[.int .i64 (Jb.id (Rc.job x)), .int .i64 (Jb.queue (Rc.job x)), .int .i64 (Jb.prio (Rc.job x)), .int .i64 (Jb.runtime (Rc.job x)), .int .i64 (Sh.gpus (Jb.shape (Rc.job x))), .int .i64 (Sh.cpus (Jb.shape (Rc.job x))), .int .i64 (Sh.mn (Jb.shape (Rc.job x))), .int .i64 (Sh.mx (Jb.shape (Rc.job x))), .int .i64 (Rc.state x), .int .i64 (Rc.since x), .int .i64 (Rc.number x), .int .i64 (Rc.members x), .int .i64 (Rc.began x), .int .i64 (Rc.fin x), .int .i64 (Rc.limit x), .int .i64 (Rc.worker x)])] ++ caps)).run Try.prog w' = .ok (.enter F (#[(.agg #[.int .i64 (Jb.id (Rc.job x)), .int .i64 (Jb.queue (Rc.job x)), .int .i64 (Jb.prio (Rc.job x)), .int .i64 (Jb.runtime (Rc.job x)), .int .i64 (Sh.gpus (Jb.shape (Rc.job x))), .int .i64 (Sh.cpus (Jb.shape (Rc.job x))), .int .i64 (Sh.mn (Jb.shape (Rc.job x))), .int .i64 (Sh.mx (Jb.shape (Rc.job x))), .int .i64 (Rc.state x), .int .i64 (Rc.since x), .int .i64 (Rc.number x), .int .i64 (Rc.members x), .int .i64 (Rc.began x), .int .i64 (Rc.fin x), .int .i64 (Rc.limit x), .int .i64 (Rc.worker x)])] ++ caps)) w' := fun w' => HF.out _ _
      go_wp2_with fail
      have hbx := HB.out.alloc HB.out.size (.cells #[.int .i64 (Jb.id (Rc.job x)), .int .i64 (Jb.queue (Rc.job x)), .int .i64 (Jb.prio (Rc.job x)), .int .i64 (Jb.runtime (Rc.job x)), .int .i64 (Sh.gpus (Jb.shape (Rc.job x))), .int .i64 (Sh.cpus (Jb.shape (Rc.job x))), .int .i64 (Sh.mn (Jb.shape (Rc.job x))), .int .i64 (Sh.mx (Jb.shape (Rc.job x))), .int .i64 (Rc.state x), .int .i64 (Rc.since x), .int .i64 (Rc.number x), .int .i64 (Rc.members x), .int .i64 (Rc.began x), .int .i64 (Rc.fin x), .int .i64 (Rc.limit x), .int .i64 (Rc.worker x)] 38)
      have hnew := World.alloc_heap_new wr (.cells #[.int .i64 (Jb.id (Rc.job x)), .int .i64 (Jb.queue (Rc.job x)), .int .i64 (Jb.prio (Rc.job x)), .int .i64 (Jb.runtime (Rc.job x)), .int .i64 (Sh.gpus (Jb.shape (Rc.job x))), .int .i64 (Sh.cpus (Jb.shape (Rc.job x))), .int .i64 (Sh.mn (Jb.shape (Rc.job x))), .int .i64 (Sh.mx (Jb.shape (Rc.job x))), .int .i64 (Rc.state x), .int .i64 (Rc.since x), .int .i64 (Rc.number x), .int .i64 (Rc.members x), .int .i64 (Rc.began x), .int .i64 (Rc.fin x), .int .i64 (Rc.limit x), .int .i64 (Rc.worker x)] 38)
      refine (HC.out x ⟨_, hbx⟩).mono ?_
      rintro e w2 ⟨rfl, hb2⟩
      have hblk := (hb2.block _ (lt_of_block hnew)).trans hnew
      have hBB := (hbx.trans (hb2.mono hbx.size))
      have hown2 := ownsRow_below (ownsRow_below HO.out ((Below.refl wr.heap.size wr).alloc (Nat.le_refl _) (.cells #[.int .i64 (Jb.id (Rc.job x)), .int .i64 (Jb.queue (Rc.job x)), .int .i64 (Jb.prio (Rc.job x)), .int .i64 (Jb.runtime (Rc.job x)), .int .i64 (Sh.gpus (Jb.shape (Rc.job x))), .int .i64 (Sh.cpus (Jb.shape (Rc.job x))), .int .i64 (Sh.mn (Jb.shape (Rc.job x))), .int .i64 (Sh.mx (Jb.shape (Rc.job x))), .int .i64 (Rc.state x), .int .i64 (Rc.since x), .int .i64 (Rc.number x), .int .i64 (Rc.members x), .int .i64 (Rc.began x), .int .i64 (Rc.fin x), .int .i64 (Rc.limit x), .int .i64 (Rc.worker x)] 38))) hb2
      have hsz2 := hBB.size
      have lb := lt_of_block hblk
      clear r0 r1 r2 r3 r4 r5 r6 r7 r8 r9 r10 r11 r12 r13 r14 r15 hcf hb2 hbx hnew
      cases hisx : is x with
      | false =>
        have HO2 := Lib.hid (show w2.ownsRow w.heap.size 38 16 v ((l.take (k + 1)).filter is).length (((l.take (k + 1)).filter is).flatMap Rc.cells) by rw [HT.out, hisx]; simpa using hown2)
        have HBB := Lib.hid hBB
        clear hown2 hBB hblk
        go_wp2_with fail
        refine ⟨⟨k + 1, _, rfl, by omega, by go_num, HO2.out, HBB.out⟩, by simp [intOf]; omega⟩
      | true =>
        obtain ⟨av, capv, rfl⟩ := own_form hown2
        obtain ⟨m, hm⟩ : ∃ m, ((l.take k).filter is).length = m := ⟨_, rfl⟩
        have HM := Lib.hid hm
        have hm2 : m ≤ 1000000 := by rw [← hm]; exact HL2.out
        rw [hm] at hown2
        have HO2 := Lib.hid hown2; have HBB := Lib.hid hBB
        rw [hm]
        clear hm
        have q0 := cell_of_block hblk 0; have q1 := cell_of_block hblk 1; have q2 := cell_of_block hblk 2; have q3 := cell_of_block hblk 3; have q4 := cell_of_block hblk 4; have q5 := cell_of_block hblk 5; have q6 := cell_of_block hblk 6; have q7 := cell_of_block hblk 7; have q8 := cell_of_block hblk 8; have q9 := cell_of_block hblk 9; have q10 := cell_of_block hblk 10; have q11 := cell_of_block hblk 11; have q12 := cell_of_block hblk 12; have q13 := cell_of_block hblk 13; have q14 := cell_of_block hblk 14; have q15 := cell_of_block hblk 15
        clear hown2 hBB hblk hsz2
        go_wp2_with (at_builtin; refine wpList_append_lies _ rfl _ _ _ rfl w.heap.size 38 i0 _ 16 128 Try.underlying46 hi0 hz0 hz1 hz2 rfl (by omega) (.slice av m capv) m _ rfl (HO2.out.alloc _) ⟨w2.heap.size, 0, none⟩ 1 1 (Rc.cells x) rfl rfl (World.news_of_block (cs := #[.int .i64 (Jb.id (Rc.job x)), .int .i64 (Jb.queue (Rc.job x)), .int .i64 (Jb.prio (Rc.job x)), .int .i64 (Jb.runtime (Rc.job x)), .int .i64 (Sh.gpus (Jb.shape (Rc.job x))), .int .i64 (Sh.cpus (Jb.shape (Rc.job x))), .int .i64 (Sh.mn (Jb.shape (Rc.job x))), .int .i64 (Sh.mx (Jb.shape (Rc.job x))), .int .i64 (Rc.state x), .int .i64 (Rc.since x), .int .i64 (Rc.number x), .int .i64 (Rc.members x), .int .i64 (Rc.began x), .int .i64 (Rc.fin x), .int .i64 (Rc.limit x), .int .i64 (Rc.worker x)]) (t := 38) (fr := (0, 0)) (World.alloc_heap_new w2 _)) (by simp [Rc.cells, Value.oneCell']) (by omega) (by unfold maxLen; omega) (by omega) (by have := HBB.out.size; simp; omega) (w2.heap.size + 1) (by simp) ?_)
        clear q0 q1 q2 q3 q4 q5 q6 q7 q8 q9 q10 q11 q12 q13 q14 q15
        intro gg cap' w3 hown3 hgrow hat hlt2
        have hv := HO2.out.lt
        have hlen3 : ((l.take (k + 1)).filter is).length = m + 1 := by rw [HT.out, hisx]; simp [HM.out]
        have HO3 := Lib.hid (show w3.ownsRow w.heap.size 38 16 (.slice (some ⟨gg, 0, none⟩) (m + 1) cap') ((l.take (k + 1)).filter is).length (((l.take (k + 1)).filter is).flatMap Rc.cells) by rw [hlen3, HT.out, hisx]; simpa using hown3)
        have HB3 := Lib.hid ((HBB.out.alloc HBB.out.size _).grown hgrow (by have := HBB.out.size; simp; omega) (fun j e => (hv j e).1))
        clear hown3 hgrow hat hlt2 hv hlen3
        go_wp2
        refine ⟨⟨k + 1, _, rfl, by omega, by go_num, HO3.out, HB3.out⟩, by simp [intOf]; omega⟩
    · obtain rfl : k = n := by omega
      have HO := Lib.hid hown
      clear hown
      go_wp2
      go_ret
      have h1 := HO.out
      rw [List.take_of_length_le (by rw [HN.out]; exact Nat.le_refl _)] at h1
      exact ⟨_, rfl, h1, hB⟩

theorem ownsRow_wider {w : World} {base base' : Nat} {e : TypeId} {size : Nat} {v : Value} {n : Nat} {xs : List Value} (h : w.ownsRow base e size v n xs) (hb : base' ≤ base) : w.ownsRow base' e size v n xs := by
  obtain ⟨h1, h2 | ⟨g, cap, cur, hv, hg, r⟩⟩ := h
  · exact ⟨h1, .inl h2⟩
  · exact ⟨h1, .inr ⟨g, cap, cur, hv, Nat.le_trans hb hg, r⟩⟩
theorem inBook_any (base p M : Nat) (v : Value) (l : List Rc) (s : Int) (w : World) (h : BookAt w base p M v l) (hl : l.length ≤ 1000000) :
    Calls Try.prog 22 #[.pointer (some ⟨p, 0, none⟩), .int .i64 s] w fun e w' => ∃ v', e = .returned v' ∧ w'.ownsRow w.heap.size 38 16 v' (l.filter fun x => x.state == s).length ((l.filter fun x => x.state == s).flatMap Rc.cells) ∧ Below w.heap.size w w' := by
  have c0 : w.cell? ⟨p, 0, none⟩ = some v := cell_of_block h.head 0
  have lp := h.lt (.inl rfl)
  have HO := Lib.hid h.own
  clear h
  go_enter Try.func22, Try.ntmps22
  go_wp2_with fail
  have hb0 := (Below.refl w.heap.size w).alloc (Nat.le_refl _) (.cells #[.int .i64 s] 3)
  have hn := World.alloc_heap_new w (.cells #[.int .i64 s] 3)
  refine (filter_any v l base 41 _ (fun x => x.state == s) _ (ownsRow_below HO.out hb0) hl enters_i1 fun x y => ?_).mono ?_
  · exact in1_any x w.heap.size s y.wd ((y.cell (lt_of_block hn)).trans (cell_of_block hn 0))
  rintro e w1 ⟨v', rfl, ho, hb⟩
  have H1 := Lib.hid (show w1.ownsRow w.heap.size 38 16 v' _ _ from ownsRow_wider ho (by simp)); have HB := Lib.hid (hb0.trans (hb.mono hb0.size))
  clear ho hb hb0 hn
  go_wp2_with fail
  go_ret
  exact ⟨v', rfl, H1.out, HB.out⟩
end Go.Proofs.Ytaopekoehaccbaa
