/-
  The document's book: Add.
-/
import Derived.Test.YtaopekoehaccbaaRefGang3
import Derived.Deep.Cut
set_option linter.unusedVariables false
set_option linter.unusedSimpArgs false
namespace Go.Proofs.Ytaopekoehaccbaa
open Go.RowKit Go.Maps
variable {w w' : World} {pm : Nat} {v : Value} {l : List Rc}

def RbAdd (pm : Nat) (v : Value) (r : (Rc × Int) × List Rc) (w : World) (e : Ending) (w' : World) : Prop :=
  e = .returned (.tuple #[(.agg #[.int .i64 (Jb.id (Rc.job (r.1.1))), .int .i64 (Jb.queue (Rc.job (r.1.1))), .int .i64 (Jb.prio (Rc.job (r.1.1))), .int .i64 (Jb.runtime (Rc.job (r.1.1))), .int .i64 (Sh.gpus (Jb.shape (Rc.job (r.1.1)))), .int .i64 (Sh.cpus (Jb.shape (Rc.job (r.1.1)))), .int .i64 (Sh.mn (Jb.shape (Rc.job (r.1.1)))), .int .i64 (Sh.mx (Jb.shape (Rc.job (r.1.1)))), .int .i64 (Rc.state (r.1.1)), .int .i64 (Rc.since (r.1.1)), .int .i64 (Rc.number (r.1.1)), .int .i64 (Rc.members (r.1.1)), .int .i64 (Rc.began (r.1.1)), .int .i64 (Rc.fin (r.1.1)), .int .i64 (Rc.limit (r.1.1)), .int .i64 (Rc.worker (r.1.1))]), .int .i64 r.1.2]) ∧ ∃ v', RbAt w' pm v' r.2 ∧ Fr w.heap.size (fun q => q = pm) w w' ∧ ∀ q, v'.ownBlock = some q → v.ownBlock = some q ∨ w.heap.size ≤ q
theorem recs_one (l : List Rc) : ∀ u ∈ l.flatMap Rc.cells, u.oneCell' = true := by
  intro u hu
  obtain ⟨x, _, hx⟩ := List.mem_flatMap.1 hu
  simp [Rc.cells] at hx
  rcases hx with rfl | rfl | rfl | rfl | rfl | rfl | rfl | rfl | rfl | rfl | rfl | rfl | rfl | rfl | rfl | rfl <;> rfl

theorem alloc2_atR (w : World) (o1 o2 : Obj) : ((w.alloc o1).alloc o2).heap[w.heap.size + 1]? = some o2 := by
  have h := World.alloc_heap_new (w.alloc o1) o2
  rwa [World.size_alloc] at h
theorem ownsMadeR (w2 : World) {o1 : Obj} : ((w2.alloc o1).drew.alloc (.cells #[] 38)).ownsRow w2.heap.size 38 16 (.slice (some ⟨w2.heap.size + 1, 0, none⟩) 0 0) 0 [] := by
  have h := World.alloc_heap_new (w2.alloc o1).drew (.cells #[] 38)
  have e : (w2.alloc o1).drew.heap.size = w2.heap.size + 1 := World.size_alloc _ _
  rw [e] at h
  exact ⟨rfl, .inr ⟨w2.heap.size + 1, 0, #[], rfl, by omega, h, by omega, by unfold maxLen; omega, rfl, rfl⟩⟩
theorem ownsRow_setCell_o {w : World} {base : Nat} {e : TypeId} {size : Nat} {v : Value} {n : Nat} {xs : List Value} (h : w.ownsRow base e size v n xs) {a : Addr} (ha : v.ownBlock ≠ some a.block) (u : Value) : (w.setCell a u).ownsRow base e size v n xs := by
  obtain ⟨h1, h2⟩ := h
  refine ⟨h1, ?_⟩
  rcases h2 with h2 | ⟨g, cap, cur, rfl, hg, hh, r⟩
  · exact .inl h2
  · exact .inr ⟨g, cap, cur, rfl, hg, (setCell_other u (fun e => ha (by rw [← e]; rfl))).trans hh, r⟩

set_option maxRecDepth 100000 in
set_option maxHeartbeats 4000000 in
theorem refAdd_no (h : RbAt w pm v l) (j : Jb) (since : Int) (hl : l.length ≤ 1000000) (hno : (findR l j.id).isSome = true ∨ 4096 ≤ l.length) :
    Calls Try.prog 42 #[.pointer (some ⟨pm, 0, none⟩), (.agg #[.int .i64 (Jb.id j), .int .i64 (Jb.queue j), .int .i64 (Jb.prio j), .int .i64 (Jb.runtime j), .int .i64 (Sh.gpus (Jb.shape j)), .int .i64 (Sh.cpus (Jb.shape j)), .int .i64 (Sh.mn (Jb.shape j)), .int .i64 (Sh.mx (Jb.shape j))]), .int .i64 since] w (RbAdd pm v (addR l j since) w) := by
  have H := Lib.hid h
  have lp := lt_of_block h.head
  obtain ⟨n, hn⟩ : ∃ n, l.length = n := ⟨_, rfl⟩
  cases hf : findR l j.id with
  | some k =>
    have HM := Lib.hid (show addR l j since = ((Rc.zero, 4), l) by unfold addR; rw [if_pos (by rw [hf]; rfl)])
    have HV := Lib.hid (show idV l j.id = k by unfold idV; rw [hf])
    clear h hf hno hn
    rw [HM.out]
    go_enter Try.func42, Try.ntmps42
    go_wp2_with fail
    refine calls_two fun w3 hb k0 k1 hsz => ?_
    refine (refFind_any (H.out.later hb) j.id hl).mono ?_
    rintro e w2 ⟨rfl, rfl⟩
    rw [HV.out]
    have HB := Lib.hid hb; have HZ := Lib.hid k1; have HSZ := Lib.hid hsz
    have z := cell_of_block k1; have zf := frozen_of_block k1; have l2 := lt_of_block k1
    clear hb k0 k1 hsz
    go_wp2_with fail
    clear z zf l2
    refine store16 (x := Rc.zero) (z := Rc.zero) HZ.out fun w2 h2 hf2 => ?_
    (try simp only [Exit.inBlock, Exit.then])
    refine bodyPost_ret (results_row_tmp rfl _ w2 _ _ _ _ _ recUnder rfl rfl h2 (by kernel_rfl)) rfl ?_
    have hB2 := ((Fr.of_below HB.out (fun _ => False)).trans (hf2.mono (by have := HB.out.size; omega) fun q hq e => by omega)).below (Nat.le_refl _) fun q hq => hq.elim
    exact ⟨rfl, v, H.out.later hB2, Fr.of_below hB2 _, fun q hq => .inl hq⟩
  | none =>
    rw [hf] at hno
    have hn4 : 4096 ≤ n := hno.elim (fun h => by simp at h) (fun h => by omega)
    have HM := Lib.hid (show addR l j since = ((Rc.zero, 2), l) by unfold addR; rw [if_neg (by rw [hf]; simp), if_pos (by omega)])
    have HV := Lib.hid (show idV l j.id = -1 by unfold idV; rw [hf])
    have hn4b : decide ((4096 : Int) ≤ n) = true := by simp; omega
    have HN := Lib.hid hn
    clear h hf hno hn
    rw [HM.out]
    go_enter Try.func42, Try.ntmps42
    go_wp2_with fail
    refine calls_two fun w3 hb k0 k1 hsz => ?_
    refine (refFind_any (H.out.later hb) j.id hl).mono ?_
    rintro e w2 ⟨rfl, rfl⟩
    rw [HV.out]
    have hh := (H.out.later hb).head
    obtain ⟨B, _, ho⟩ := H.out.own
    obtain ⟨a, cap, hv⟩ := own_form ho
    rw [HN.out] at hv
    rw [hv] at hh
    have q0 := cell_of_block hh 0; have lp2 := lt_of_block hh
    have HB := Lib.hid hb; have HZ := Lib.hid k1; have HSZ := Lib.hid hsz
    have z := cell_of_block k1; have zf := frozen_of_block k1; have l2 := lt_of_block k1
    clear hb k0 k1 hsz hh ho hv
    go_wp2_with fail
    clear z zf l2 q0
    refine store16 (x := Rc.zero) (z := Rc.zero) HZ.out fun w2 h2 hf2 => ?_
    (try simp only [Exit.inBlock, Exit.then])
    refine bodyPost_ret (results_row_tmp rfl _ w2 _ _ _ _ _ recUnder rfl rfl h2 (by kernel_rfl)) rfl ?_
    have hB2 := ((Fr.of_below HB.out (fun _ => False)).trans (hf2.mono (by have := HB.out.size; omega) fun q hq e => by omega)).below (Nat.le_refl _) fun q hq => hq.elim
    exact ⟨rfl, v, H.out.later hB2, Fr.of_below hB2 _, fun q hq => .inl hq⟩

set_option maxRecDepth 100000 in
set_option maxHeartbeats 4000000 in
theorem refAdd_go (h : RbAt w pm v l) (j : Jb) (since : Int) (hl : l.length < 4096) (hno : findR l j.id = none) :
    Calls Try.prog 42 #[.pointer (some ⟨pm, 0, none⟩), (.agg #[.int .i64 (Jb.id j), .int .i64 (Jb.queue j), .int .i64 (Jb.prio j), .int .i64 (Jb.runtime j), .int .i64 (Sh.gpus (Jb.shape j)), .int .i64 (Sh.cpus (Jb.shape j)), .int .i64 (Sh.mn (Jb.shape j)), .int .i64 (Sh.mx (Jb.shape j))]), .int .i64 since] w (RbAdd pm v (addR l j since) w) := by
  have H := Lib.hid h
  have lp := lt_of_block h.head
  obtain ⟨n, hn⟩ : ∃ n, l.length = n := ⟨_, rfl⟩
  have hn4 : n < 4096 := by omega
  obtain ⟨r, hr⟩ : ∃ r : Rc, r = ⟨j, 1, since, (n : Int) + 1, 0, 0, 0, 0, 0⟩ := ⟨_, rfl⟩
  have HM := Lib.hid (show addR l j since = ((r, 0), l ++ [r]) by unfold addR; rw [if_neg (by rw [hno]; simp), if_neg (by omega), hn, hr])
  have HV := Lib.hid (show idV l j.id = -1 by unfold idV; rw [hno])
  have hn4b : decide ((4096 : Int) ≤ n) = false := by simp; omega
  have HN := Lib.hid hn; have HR := Lib.hid hr
  clear h hno hn hl hr
  rw [HM.out]
  go_enter Try.func42, Try.ntmps42
  go_wp2_with fail
  refine calls_two fun w3 hb k0 k1 hsz => ?_
  refine (refFind_any (H.out.later hb) j.id (by have := HN.out; omega)).mono ?_
  rintro e w2 ⟨rfl, rfl⟩
  rw [HV.out]
  have hh := (H.out.later hb).head
  obtain ⟨B, hB, ho⟩ := (H.out.later hb).own
  obtain ⟨a, cap, hv, hsrc⟩ := BookAt.src (p := 0) (M := 0) ho
  rw [HN.out] at hv hsrc
  rw [hv] at hh
  have q0 : ∀ y : Later w2, y.wd.cell? ⟨pm, 0, none⟩ = some (.slice a n cap) := fun y => (y.cell (lt_of_block hh)).trans (cell_of_block hh 0)
  have q00 := cell_of_block hh 0
  have lp2 := lt_of_block hh
  have HB := Lib.hid hb; have HZ := Lib.hid k1; have HSZ := Lib.hid hsz; have HHD := Lib.hid hh; have HSRC := Lib.hid hsrc
  have HJ := Lib.hid k0
  have j0 : ∀ y : Later w2, y.wd.cell? ⟨w.heap.size, 0, none⟩ = some (.int .i64 j.id) := fun y => (y.cell (lt_of_block HJ.out)).trans (cell_of_block HJ.out 0)
  have j1 : ∀ y : Later w2, y.wd.cell? ⟨w.heap.size, 1, none⟩ = some (.int .i64 j.queue) := fun y => (y.cell (lt_of_block HJ.out)).trans (cell_of_block HJ.out 1)
  have j2 : ∀ y : Later w2, y.wd.cell? ⟨w.heap.size, 2, none⟩ = some (.int .i64 j.prio) := fun y => (y.cell (lt_of_block HJ.out)).trans (cell_of_block HJ.out 2)
  have j3 : ∀ y : Later w2, y.wd.cell? ⟨w.heap.size, 3, none⟩ = some (.int .i64 j.runtime) := fun y => (y.cell (lt_of_block HJ.out)).trans (cell_of_block HJ.out 3)
  have j4 : ∀ y : Later w2, y.wd.cell? ⟨w.heap.size, 4, none⟩ = some (.int .i64 j.shape.gpus) := fun y => (y.cell (lt_of_block HJ.out)).trans (cell_of_block HJ.out 4)
  have j5 : ∀ y : Later w2, y.wd.cell? ⟨w.heap.size, 5, none⟩ = some (.int .i64 j.shape.cpus) := fun y => (y.cell (lt_of_block HJ.out)).trans (cell_of_block HJ.out 5)
  have j6 : ∀ y : Later w2, y.wd.cell? ⟨w.heap.size, 6, none⟩ = some (.int .i64 j.shape.mn) := fun y => (y.cell (lt_of_block HJ.out)).trans (cell_of_block HJ.out 6)
  have j7 : ∀ y : Later w2, y.wd.cell? ⟨w.heap.size, 7, none⟩ = some (.int .i64 j.shape.mx) := fun y => (y.cell (lt_of_block HJ.out)).trans (cell_of_block HJ.out 7)
  clear hb k0 k1 hsz hh ho hv hsrc
  go_wp2_with fail
  have fx0 := (Below.refl w2.heap.size w2).drew
  have hwr : IntKind.i64.wrap ((n : Int) + 1) = (n : Int) + 1 := by rw [wrap_eqI]; unfold wrap64; omega
  refine Rg.wp_region_pick (by kernel_rfl) [0, 1, 2, 3, 4, 5, 6, 7, 8] [9, 10] 10 (by kernel_rfl) (by kernel_rfl) (by kernel_rfl) (fun w' => ∃ y : Later w2, w' = y.wd) (fun c a a' w hd h => ⟨hd.symm.trans h.1, h.2⟩) ⟨⟨_, fx0⟩, rfl⟩ ?_
  simp only [Rg.picks, List.getElem?_cons_succ, List.getElem?_cons_zero, Option.toList, List.cons_append, List.nil_append]
  repeat (quiet_step (fail))
  refine wpQuiet_nil ?_
  clear q0 j0 j1 j2 j3 j4 j5 j6 j7 q00
  simp only [Rg.pickn, List.getElem?_cons_succ, List.getElem?_cons_zero, Option.toList, List.map_cons, List.map_nil, List.cons_append, List.nil_append]
  refine Rg.wpN_step (fun K hK => ?_) ⟨⟨_, fx0⟩, rfl⟩
  go_simp
  have B4 : Below w2.heap.size w2 (w2.alloc (.cells #[.int .i64 (Jb.id (Rc.job (Rc.zero))), .int .i64 (Jb.queue (Rc.job (Rc.zero))), .int .i64 (Jb.prio (Rc.job (Rc.zero))), .int .i64 (Jb.runtime (Rc.job (Rc.zero))), .int .i64 (Sh.gpus (Jb.shape (Rc.job (Rc.zero)))), .int .i64 (Sh.cpus (Jb.shape (Rc.job (Rc.zero)))), .int .i64 (Sh.mn (Jb.shape (Rc.job (Rc.zero)))), .int .i64 (Sh.mx (Jb.shape (Rc.job (Rc.zero)))), .int .i64 (Rc.state (Rc.zero)), .int .i64 (Rc.since (Rc.zero)), .int .i64 (Rc.number (Rc.zero)), .int .i64 (Rc.members (Rc.zero)), .int .i64 (Rc.began (Rc.zero)), .int .i64 (Rc.fin (Rc.zero)), .int .i64 (Rc.limit (Rc.zero)), .int .i64 (Rc.worker (Rc.zero))] 38)).drew := ((Below.refl _ _).alloc (Nat.le_refl _) _).drew
  have k4 : (w2.alloc (.cells #[.int .i64 (Jb.id (Rc.job (Rc.zero))), .int .i64 (Jb.queue (Rc.job (Rc.zero))), .int .i64 (Jb.prio (Rc.job (Rc.zero))), .int .i64 (Jb.runtime (Rc.job (Rc.zero))), .int .i64 (Sh.gpus (Jb.shape (Rc.job (Rc.zero)))), .int .i64 (Sh.cpus (Jb.shape (Rc.job (Rc.zero)))), .int .i64 (Sh.mn (Jb.shape (Rc.job (Rc.zero)))), .int .i64 (Sh.mx (Jb.shape (Rc.job (Rc.zero)))), .int .i64 (Rc.state (Rc.zero)), .int .i64 (Rc.since (Rc.zero)), .int .i64 (Rc.number (Rc.zero)), .int .i64 (Rc.members (Rc.zero)), .int .i64 (Rc.began (Rc.zero)), .int .i64 (Rc.fin (Rc.zero)), .int .i64 (Rc.limit (Rc.zero)), .int .i64 (Rc.worker (Rc.zero))] 38)).drew.heap[w2.heap.size]? = some (.cells #[.int .i64 (Jb.id (Rc.job (Rc.zero))), .int .i64 (Jb.queue (Rc.job (Rc.zero))), .int .i64 (Jb.prio (Rc.job (Rc.zero))), .int .i64 (Jb.runtime (Rc.job (Rc.zero))), .int .i64 (Sh.gpus (Jb.shape (Rc.job (Rc.zero)))), .int .i64 (Sh.cpus (Jb.shape (Rc.job (Rc.zero)))), .int .i64 (Sh.mn (Jb.shape (Rc.job (Rc.zero)))), .int .i64 (Sh.mx (Jb.shape (Rc.job (Rc.zero)))), .int .i64 (Rc.state (Rc.zero)), .int .i64 (Rc.since (Rc.zero)), .int .i64 (Rc.number (Rc.zero)), .int .i64 (Rc.members (Rc.zero)), .int .i64 (Rc.began (Rc.zero)), .int .i64 (Rc.fin (Rc.zero)), .int .i64 (Rc.limit (Rc.zero)), .int .i64 (Rc.worker (Rc.zero))] 38 (0, 0)) := World.alloc_heap_new w2 _
  refine hK _ _ (fun _ => ⟨⟨_, B4⟩, rfl⟩) ?_
  clear hK K
  refine Rg.wpN_list (by decide) ?_
  simp only [List.map_cons, List.map_nil]
  change wpList _ _ _ _ _ ((w2.alloc (.cells #[.int .i64 (Jb.id (Rc.job (Rc.zero))), .int .i64 (Jb.queue (Rc.job (Rc.zero))), .int .i64 (Jb.prio (Rc.job (Rc.zero))), .int .i64 (Jb.runtime (Rc.job (Rc.zero))), .int .i64 (Sh.gpus (Jb.shape (Rc.job (Rc.zero)))), .int .i64 (Sh.cpus (Jb.shape (Rc.job (Rc.zero)))), .int .i64 (Sh.mn (Jb.shape (Rc.job (Rc.zero)))), .int .i64 (Sh.mx (Jb.shape (Rc.job (Rc.zero)))), .int .i64 (Rc.state (Rc.zero)), .int .i64 (Rc.since (Rc.zero)), .int .i64 (Rc.number (Rc.zero)), .int .i64 (Rc.members (Rc.zero)), .int .i64 (Rc.began (Rc.zero)), .int .i64 (Rc.fin (Rc.zero)), .int .i64 (Rc.limit (Rc.zero)), .int .i64 (Rc.worker (Rc.zero))] 38)).drew)
  obtain ⟨A2, hA2⟩ : ∃ A2, w2.heap.size = A2 := ⟨_, rfl⟩
  rw [hA2] at k4 ⊢
  generalize (w2.alloc (.cells #[.int .i64 (Jb.id (Rc.job (Rc.zero))), .int .i64 (Jb.queue (Rc.job (Rc.zero))), .int .i64 (Jb.prio (Rc.job (Rc.zero))), .int .i64 (Jb.runtime (Rc.job (Rc.zero))), .int .i64 (Sh.gpus (Jb.shape (Rc.job (Rc.zero)))), .int .i64 (Sh.cpus (Jb.shape (Rc.job (Rc.zero)))), .int .i64 (Sh.mn (Jb.shape (Rc.job (Rc.zero)))), .int .i64 (Sh.mx (Jb.shape (Rc.job (Rc.zero)))), .int .i64 (Rc.state (Rc.zero)), .int .i64 (Rc.since (Rc.zero)), .int .i64 (Rc.number (Rc.zero)), .int .i64 (Rc.members (Rc.zero)), .int .i64 (Rc.began (Rc.zero)), .int .i64 (Rc.fin (Rc.zero)), .int .i64 (Rc.limit (Rc.zero)), .int .i64 (Rc.worker (Rc.zero))] 38)).drew = w4 at B4 k4 ⊢
  have HB4 := Lib.hid B4; have HK4 := Lib.hid k4
  have zc := cell_of_block k4; have zcf := frozen_of_block k4; have lz4 := lt_of_block k4
  clear B4 k4
  go_upto_region 6 with fail
  clear zc zcf lz4
  refine store16 (x := (⟨j, 1, since, (n : Int) + 1, 0, 0, 0, 0, 0⟩ : Rc)) (z := Rc.zero) HK4.out fun w5 k5 hf5 => ?_
  rw [← HR.out] at k5
  have hb5 : Below w2.heap.size w2 w5 := ((Fr.of_below HB4.out (fun _ => False)).trans (hf5.mono HB4.out.size fun q hq e => by omega)).below (Nat.le_refl _) fun q hq => hq.elim
  have HB5 := Lib.hid hb5; have HK5 := Lib.hid k5
  have HH5 := Lib.hid ((hb5.block _ (lt_of_block HHD.out)).trans HHD.out)
  have HZ5 := Lib.hid ((hb5.block _ (lt_of_block HZ.out)).trans HZ.out)
  have HNE := Lib.hid (show w.heap.size + 1 ≠ pm ∧ A2 ≠ pm by have := HSZ.out; omega)
  have HFIN : Hid (∀ (v9 : Value) (w9 : World), w9.ownsRow w5.heap.size 38 16 v9 (n + 1) (l.flatMap Rc.cells ++ Rc.cells r) → Below w5.heap.size w5 w9 → (w9.setCell ⟨pm, 0, none⟩ v9).heap[w.heap.size + 1]? = some (.cells #[.int .i64 (Jb.id (Rc.job (Rc.zero))), .int .i64 (Jb.queue (Rc.job (Rc.zero))), .int .i64 (Jb.prio (Rc.job (Rc.zero))), .int .i64 (Jb.runtime (Rc.job (Rc.zero))), .int .i64 (Sh.gpus (Jb.shape (Rc.job (Rc.zero)))), .int .i64 (Sh.cpus (Jb.shape (Rc.job (Rc.zero)))), .int .i64 (Sh.mn (Jb.shape (Rc.job (Rc.zero)))), .int .i64 (Sh.mx (Jb.shape (Rc.job (Rc.zero)))), .int .i64 (Rc.state (Rc.zero)), .int .i64 (Rc.since (Rc.zero)), .int .i64 (Rc.number (Rc.zero)), .int .i64 (Rc.members (Rc.zero)), .int .i64 (Rc.began (Rc.zero)), .int .i64 (Rc.fin (Rc.zero)), .int .i64 (Rc.limit (Rc.zero)), .int .i64 (Rc.worker (Rc.zero))] 38 (0, 0)) ∧ (w9.setCell ⟨pm, 0, none⟩ v9).heap[A2]? = some (.cells #[.int .i64 (Jb.id (Rc.job r)), .int .i64 (Jb.queue (Rc.job r)), .int .i64 (Jb.prio (Rc.job r)), .int .i64 (Jb.runtime (Rc.job r)), .int .i64 (Sh.gpus (Jb.shape (Rc.job r))), .int .i64 (Sh.cpus (Jb.shape (Rc.job r))), .int .i64 (Sh.mn (Jb.shape (Rc.job r))), .int .i64 (Sh.mx (Jb.shape (Rc.job r))), .int .i64 (Rc.state r), .int .i64 (Rc.since r), .int .i64 (Rc.number r), .int .i64 (Rc.members r), .int .i64 (Rc.began r), .int .i64 (Rc.fin r), .int .i64 (Rc.limit r), .int .i64 (Rc.worker r)] 38 (0, 0)) ∧ ∀ w8, Fr (w9.setCell ⟨pm, 0, none⟩ v9).heap.size (fun q => q = w.heap.size + 1) (w9.setCell ⟨pm, 0, none⟩ v9) w8 → RbAdd pm v ((r, 0), l ++ [r]) w (.returned (.tuple #[(.agg #[.int .i64 (Jb.id (Rc.job r)), .int .i64 (Jb.queue (Rc.job r)), .int .i64 (Jb.prio (Rc.job r)), .int .i64 (Jb.runtime (Rc.job r)), .int .i64 (Sh.gpus (Jb.shape (Rc.job r))), .int .i64 (Sh.cpus (Jb.shape (Rc.job r))), .int .i64 (Sh.mn (Jb.shape (Rc.job r))), .int .i64 (Sh.mx (Jb.shape (Rc.job r))), .int .i64 (Rc.state r), .int .i64 (Rc.since r), .int .i64 (Rc.number r), .int .i64 (Rc.members r), .int .i64 (Rc.began r), .int .i64 (Rc.fin r), .int .i64 (Rc.limit r), .int .i64 (Rc.worker r)]), .int .i64 0])) w8) := Lib.hid fun v9 w9 ho hb => by
    have hs2 : w.heap.size + 2 ≤ w5.heap.size := by have := HSZ.out; have := HB5.out.size; omega
    have hlen : (l ++ [r]).length = n + 1 := by simp [HN.out]
    have ho' : w9.ownsRow w5.heap.size 38 16 v9 (l ++ [r]).length ((l ++ [r]).flatMap Rc.cells) := by rw [hlen, List.flatMap_append]; simpa using ho
    have hv : ∀ q, v9.ownBlock = some q → w5.heap.size ≤ q ∧ q < w9.heap.size := fun q hq => ho'.lt q hq
    have hsz9 : (w9.setCell ⟨pm, 0, none⟩ v9).heap.size = w9.heap.size := by simp [World.setCell]
    refine ⟨?_, ?_, fun w8 hf8 => ⟨rfl, v9, ⟨?_, w5.heap.size, by omega, ?_⟩, ?_, fun q hq => .inr (by have := (hv q hq).1; omega)⟩⟩
    · rw [setCell_other v9 (show w.heap.size + 1 ≠ pm from HNE.out.1), hb.block _ (lt_of_block HZ5.out)]; exact HZ5.out
    · rw [setCell_other v9 (show A2 ≠ pm from HNE.out.2), hb.block _ (lt_of_block HK5.out)]; exact HK5.out
    · rw [hf8.block pm (by rw [hsz9]; have := hb.size; omega) (fun e => HNE.out.1 e.symm)]
      exact setCell_block ((hb.block _ (lt_of_block HH5.out)).trans HH5.out) 0 v9
    · refine ownsRow_fr (F := fun q => q = w.heap.size + 1) (ownsRow_setCell_o ho' (a := ⟨pm, 0, none⟩) (fun e => by have := (hv _ e).1; simp only at this; omega) v9) hf8 fun g hg => ⟨by rw [hsz9]; exact (hv g hg).2, fun e => by have := (hv g hg).1; omega⟩
    · have h1 : Fr w.heap.size (fun q => q = pm) w (w9.setCell ⟨pm, 0, none⟩ v9) := by
        have h2 := HB.out.trans (HB5.out.mono HB.out.size)
        exact Fr.setCell (F := fun q => q = pm) (Fr.of_below (h2.trans (hb.mono h2.size)) _) (p := ⟨pm, 0, none⟩) (.inr rfl) _
      exact h1.trans (hf8.mono h1.size fun q hq e => by omega)
  obtain ⟨lf, hlf⟩ : ∃ lf, l.flatMap Rc.cells = lf := ⟨_, rfl⟩
  have HL1 := Lib.hid (hlf ▸ recs_one l)
  have HR1 := Lib.hid (show ∀ u ∈ Rc.cells r, u.oneCell' = true from by have := recs_one [r]; simpa using this)
  rw [hlf] at HSRC HFIN
  have q0 : ∀ y : Later w5, y.wd.cell? ⟨pm, 0, none⟩ = some (.slice a n cap) := fun y => (y.cell (lt_of_block HH5.out)).trans (cell_of_block HH5.out 0)
  have r0 : ∀ y : Later w5, y.wd.cell? ⟨A2, 0, none⟩ = some (.int .i64 r.job.id) := fun y => (y.cell (lt_of_block HK5.out)).trans (cell_of_block HK5.out 0)
  have r1 : ∀ y : Later w5, y.wd.cell? ⟨A2, 1, none⟩ = some (.int .i64 r.job.queue) := fun y => (y.cell (lt_of_block HK5.out)).trans (cell_of_block HK5.out 1)
  have r2 : ∀ y : Later w5, y.wd.cell? ⟨A2, 2, none⟩ = some (.int .i64 r.job.prio) := fun y => (y.cell (lt_of_block HK5.out)).trans (cell_of_block HK5.out 2)
  have r3 : ∀ y : Later w5, y.wd.cell? ⟨A2, 3, none⟩ = some (.int .i64 r.job.runtime) := fun y => (y.cell (lt_of_block HK5.out)).trans (cell_of_block HK5.out 3)
  have r4 : ∀ y : Later w5, y.wd.cell? ⟨A2, 4, none⟩ = some (.int .i64 r.job.shape.gpus) := fun y => (y.cell (lt_of_block HK5.out)).trans (cell_of_block HK5.out 4)
  have r5 : ∀ y : Later w5, y.wd.cell? ⟨A2, 5, none⟩ = some (.int .i64 r.job.shape.cpus) := fun y => (y.cell (lt_of_block HK5.out)).trans (cell_of_block HK5.out 5)
  have r6 : ∀ y : Later w5, y.wd.cell? ⟨A2, 6, none⟩ = some (.int .i64 r.job.shape.mn) := fun y => (y.cell (lt_of_block HK5.out)).trans (cell_of_block HK5.out 6)
  have r7 : ∀ y : Later w5, y.wd.cell? ⟨A2, 7, none⟩ = some (.int .i64 r.job.shape.mx) := fun y => (y.cell (lt_of_block HK5.out)).trans (cell_of_block HK5.out 7)
  have r8 : ∀ y : Later w5, y.wd.cell? ⟨A2, 8, none⟩ = some (.int .i64 r.state) := fun y => (y.cell (lt_of_block HK5.out)).trans (cell_of_block HK5.out 8)
  have r9 : ∀ y : Later w5, y.wd.cell? ⟨A2, 9, none⟩ = some (.int .i64 r.since) := fun y => (y.cell (lt_of_block HK5.out)).trans (cell_of_block HK5.out 9)
  have r10 : ∀ y : Later w5, y.wd.cell? ⟨A2, 10, none⟩ = some (.int .i64 r.number) := fun y => (y.cell (lt_of_block HK5.out)).trans (cell_of_block HK5.out 10)
  have r11 : ∀ y : Later w5, y.wd.cell? ⟨A2, 11, none⟩ = some (.int .i64 r.members) := fun y => (y.cell (lt_of_block HK5.out)).trans (cell_of_block HK5.out 11)
  have r12 : ∀ y : Later w5, y.wd.cell? ⟨A2, 12, none⟩ = some (.int .i64 r.began) := fun y => (y.cell (lt_of_block HK5.out)).trans (cell_of_block HK5.out 12)
  have r13 : ∀ y : Later w5, y.wd.cell? ⟨A2, 13, none⟩ = some (.int .i64 r.fin) := fun y => (y.cell (lt_of_block HK5.out)).trans (cell_of_block HK5.out 13)
  have r14 : ∀ y : Later w5, y.wd.cell? ⟨A2, 14, none⟩ = some (.int .i64 r.limit) := fun y => (y.cell (lt_of_block HK5.out)).trans (cell_of_block HK5.out 14)
  have r15 : ∀ y : Later w5, y.wd.cell? ⟨A2, 15, none⟩ = some (.int .i64 r.worker) := fun y => (y.cell (lt_of_block HK5.out)).trans (cell_of_block HK5.out 15)
  obtain ⟨i0, hi0, hz0, hz1, hz2⟩ := info_parts infoRec
  have fx5 := (Below.refl w5.heap.size w5).drew
  clear hb5 k5 hf5 hlf lp lp2 fx0
  go_cut [] from 31 (fun wx => wx.heap[w.heap.size + 1]? = some (.cells #[.int .i64 (Jb.id (Rc.job (Rc.zero))), .int .i64 (Jb.queue (Rc.job (Rc.zero))), .int .i64 (Jb.prio (Rc.job (Rc.zero))), .int .i64 (Jb.runtime (Rc.job (Rc.zero))), .int .i64 (Sh.gpus (Jb.shape (Rc.job (Rc.zero)))), .int .i64 (Sh.cpus (Jb.shape (Rc.job (Rc.zero)))), .int .i64 (Sh.mn (Jb.shape (Rc.job (Rc.zero)))), .int .i64 (Sh.mx (Jb.shape (Rc.job (Rc.zero)))), .int .i64 (Rc.state (Rc.zero)), .int .i64 (Rc.since (Rc.zero)), .int .i64 (Rc.number (Rc.zero)), .int .i64 (Rc.members (Rc.zero)), .int .i64 (Rc.began (Rc.zero)), .int .i64 (Rc.fin (Rc.zero)), .int .i64 (Rc.limit (Rc.zero)), .int .i64 (Rc.worker (Rc.zero))] 38 (0, 0)) ∧ wx.heap[A2]? = some (.cells #[.int .i64 (Jb.id (Rc.job r)), .int .i64 (Jb.queue (Rc.job r)), .int .i64 (Jb.prio (Rc.job r)), .int .i64 (Jb.runtime (Rc.job r)), .int .i64 (Sh.gpus (Jb.shape (Rc.job r))), .int .i64 (Sh.cpus (Jb.shape (Rc.job r))), .int .i64 (Sh.mn (Jb.shape (Rc.job r))), .int .i64 (Sh.mx (Jb.shape (Rc.job r))), .int .i64 (Rc.state r), .int .i64 (Rc.since r), .int .i64 (Rc.number r), .int .i64 (Rc.members r), .int .i64 (Rc.began r), .int .i64 (Rc.fin r), .int .i64 (Rc.limit r), .int .i64 (Rc.worker r)] 38 (0, 0)) ∧ ∀ w8, Fr wx.heap.size (fun q => q = w.heap.size + 1) wx w8 → RbAdd pm v ((r, 0), l ++ [r]) w (.returned (.tuple #[(.agg #[.int .i64 (Jb.id (Rc.job r)), .int .i64 (Jb.queue (Rc.job r)), .int .i64 (Jb.prio (Rc.job r)), .int .i64 (Jb.runtime (Rc.job r)), .int .i64 (Sh.gpus (Jb.shape (Rc.job r))), .int .i64 (Sh.cpus (Jb.shape (Rc.job r))), .int .i64 (Sh.mn (Jb.shape (Rc.job r))), .int .i64 (Sh.mx (Jb.shape (Rc.job r))), .int .i64 (Rc.state r), .int .i64 (Rc.since r), .int .i64 (Rc.number r), .int .i64 (Rc.members r), .int .i64 (Rc.began r), .int .i64 (Rc.fin r), .int .i64 (Rc.limit r), .int .i64 (Rc.worker r)]), .int .i64 0])) w8)
  case rest =>
    obtain ⟨hz, hk, hq⟩ := hcut
    have HZ9 := Lib.hid hz; have HQ9 := Lib.hid hq
    have z := cell_of_block hz; have zf := frozen_of_block hz
    have r0 := cell_of_block hk
    have lz9 := lt_of_block hz; have lk9 := lt_of_block hk
    clear hz hk hq
    go_wp2_with fail
    clear z zf r0 lz9 lk9
    refine store16 (x := r) (z := Rc.zero) HZ9.out fun w8 h8 hf8 => ?_
    (try simp only [Exit.inBlock, Exit.then])
    refine bodyPost_ret (results_row_tmp rfl _ w8 _ _ _ _ _ recUnder rfl rfl h8 (by kernel_rfl)) rfl ?_
    exact HQ9.out w8 hf8
  refine Rg.wp_region_plan (by kernel_rfl) [0, 2, 3, 4, 5, 7] (.two 1 (.two 6 (.one 8 (.fin [9, 10, 11, 12])) 8 (.one 6 (.fin [9, 10, 11, 12]))) 8 (.one 1 (.one 6 (.fin [9, 10, 11, 12])))) 10 (by kernel_rfl) (by kernel_rfl) (by kernel_rfl) (fun w' => ∃ y : Later w5, w' = y.wd) (fun c a a' w hd h => ⟨hd.symm.trans h.1, h.2⟩) ⟨⟨_, fx5⟩, rfl⟩ ?_
  simp only [Rg.picks, List.getElem?_cons_succ, List.getElem?_cons_zero, Option.toList, List.cons_append, List.nil_append]
  repeat (quiet_step (fail))
  refine wpQuiet_nil ?_
  clear q0 r0 r1 r2 r3 r4 r5 r6 r7 r8 r9 r10 r11 r12 r13 r14 r15
  try simp only [Rg.wpP, Rg.pickn, List.getElem?_cons_succ, List.getElem?_cons_zero, Option.toList, List.map_cons, List.map_nil, List.cons_append, List.nil_append]
  constructor
  · refine Rg.wp1_step (fun K hK => ?_) ⟨⟨_, fx5⟩, rfl⟩
    go_simp
    have B6 : Below w5.heap.size w5 (w5.alloc (.cells #[] 38)).drew := ((Below.refl _ _).alloc (Nat.le_refl _) _).drew
    refine hK _ _ (fun _ => ⟨⟨_, B6⟩, rfl⟩) ?_
    clear hK K
    try simp only [Rg.wpP, Rg.pickn, List.getElem?_cons_succ, List.getElem?_cons_zero, Option.toList, List.map_cons, List.map_nil, List.cons_append, List.nil_append]
    constructor
    · skip
      refine Rg.wp1_step (fun K hK => ?_) ⟨⟨_, B6⟩, rfl⟩
      refine step_append_src _ (by rfl) _ _ _ (by rfl) w5.heap.size 38 i0 _ 16 128 Try.underlying46 hi0 hz0 hz1 hz2 rfl (by omega) (.slice (some ⟨w5.heap.size, 0, none⟩) 0 0) 0 [] (by rfl) ((World.ownsRow_made w5 _ 0 (Nat.le_refl _) (by unfold maxLen; omega) rfl).drew)
        a n cap lf (by rfl) (HSRC.out.later (HB5.out.trans (B6.mono HB5.out.size))) HL1.out (by unfold maxLen; omega) (by omega) (by simp) ?_
      intro v7 w7 hown7 hg7 hat7
      have B7 : Below w5.heap.size w5 w7 := (Fr.of_below B6 (fun _ => False)).grown hg7 (by simp <;> omega) (fun k e => .inl (by simp [Value.ownBlock] at e; omega)) |>.below (Nat.le_refl _) (fun _ h => h.elim)
      refine hK _ _ (fun _ => ⟨⟨_, B7⟩, rfl⟩) ?_
      clear hK K
      try simp only [Rg.wpP, Rg.pickn, List.getElem?_cons_succ, List.getElem?_cons_zero, Option.toList, List.map_cons, List.map_nil, List.cons_append, List.nil_append]
      refine Rg.wp1_step (fun K hK => ?_) ⟨⟨_, B7⟩, rfl⟩
      go_simp
      have HBX : Below w5.heap.size w5 (w7.alloc (.cells #[.int .i64 (Jb.id (Rc.job r)), .int .i64 (Jb.queue (Rc.job r)), .int .i64 (Jb.prio (Rc.job r)), .int .i64 (Jb.runtime (Rc.job r)), .int .i64 (Sh.gpus (Jb.shape (Rc.job r))), .int .i64 (Sh.cpus (Jb.shape (Rc.job r))), .int .i64 (Sh.mn (Jb.shape (Rc.job r))), .int .i64 (Sh.mx (Jb.shape (Rc.job r))), .int .i64 (Rc.state r), .int .i64 (Rc.since r), .int .i64 (Rc.number r), .int .i64 (Rc.members r), .int .i64 (Rc.began r), .int .i64 (Rc.fin r), .int .i64 (Rc.limit r), .int .i64 (Rc.worker r)] 38)) := B7.alloc B7.size _
      refine hK _ _ (fun _ => ⟨⟨_, HBX⟩, rfl⟩) ?_
      clear hK K
      have HRM := World.alloc_heap_new w7 (.cells #[.int .i64 (Jb.id (Rc.job r)), .int .i64 (Jb.queue (Rc.job r)), .int .i64 (Jb.prio (Rc.job r)), .int .i64 (Jb.runtime (Rc.job r)), .int .i64 (Sh.gpus (Jb.shape (Rc.job r))), .int .i64 (Sh.cpus (Jb.shape (Rc.job r))), .int .i64 (Sh.mn (Jb.shape (Rc.job r))), .int .i64 (Sh.mx (Jb.shape (Rc.job r))), .int .i64 (Rc.state r), .int .i64 (Rc.since r), .int .i64 (Rc.number r), .int .i64 (Rc.members r), .int .i64 (Rc.began r), .int .i64 (Rc.fin r), .int .i64 (Rc.limit r), .int .i64 (Rc.worker r)] 38)
      have HOM := ownsRow_below hown7 ((Below.refl w7.heap.size w7).alloc (Nat.le_refl _) (.cells #[.int .i64 (Jb.id (Rc.job r)), .int .i64 (Jb.queue (Rc.job r)), .int .i64 (Jb.prio (Rc.job r)), .int .i64 (Jb.runtime (Rc.job r)), .int .i64 (Sh.gpus (Jb.shape (Rc.job r))), .int .i64 (Sh.cpus (Jb.shape (Rc.job r))), .int .i64 (Sh.mn (Jb.shape (Rc.job r))), .int .i64 (Sh.mx (Jb.shape (Rc.job r))), .int .i64 (Rc.state r), .int .i64 (Rc.since r), .int .i64 (Rc.number r), .int .i64 (Rc.members r), .int .i64 (Rc.began r), .int .i64 (Rc.fin r), .int .i64 (Rc.limit r), .int .i64 (Rc.worker r)] 38))
      try simp only [Rg.wpP, Rg.pickn, List.getElem?_cons_succ, List.getElem?_cons_zero, Option.toList, List.map_cons, List.map_nil, List.cons_append, List.nil_append]
      refine Rg.wpN_step (fun K hK => ?_) ⟨⟨_, HBX⟩, rfl⟩
      refine step_append_src _ (by rfl) _ _ _ (by rfl) w5.heap.size 38 i0 _ 16 128 Try.underlying46 hi0 hz0 hz1 hz2 rfl (by omega) v7 (0 + n) ([] ++ _) (by rfl) HOM
        (some ⟨w7.heap.size, 0, none⟩) 1 1 (Rc.cells r) (by rfl) (.inr ⟨_, rfl, by simp [Rc.cells], World.news_of_block (cs := #[.int .i64 (Jb.id (Rc.job r)), .int .i64 (Jb.queue (Rc.job r)), .int .i64 (Jb.prio (Rc.job r)), .int .i64 (Jb.runtime (Rc.job r)), .int .i64 (Sh.gpus (Jb.shape (Rc.job r))), .int .i64 (Sh.cpus (Jb.shape (Rc.job r))), .int .i64 (Sh.mn (Jb.shape (Rc.job r))), .int .i64 (Sh.mx (Jb.shape (Rc.job r))), .int .i64 (Rc.state r), .int .i64 (Rc.since r), .int .i64 (Rc.number r), .int .i64 (Rc.members r), .int .i64 (Rc.began r), .int .i64 (Rc.fin r), .int .i64 (Rc.limit r), .int .i64 (Rc.worker r)]) (t := 38) (fr := (0, 0)) HRM⟩) HR1.out (by unfold maxLen; omega) (by omega) (by have := HBX.size; omega) ?_
      intro v9 w9 hown9 hg9 hat9
      have B9 : Below w5.heap.size w5 w9 := (Fr.of_below HBX (fun _ => False)).grown hg9 HBX.size (fun k e => .inl ((HOM.lt k e).1)) |>.below (Nat.le_refl _) (fun _ h => h.elim)
      refine hK _ _ (fun _ => ⟨⟨_, B9⟩, rfl⟩) ?_
      clear hK K
      refine Rg.wpN_list (by decide) ?_
      simp only [List.map_cons, List.map_nil]
      obtain ⟨a9, c9, hva⟩ := own_form hown9
      have Q := HFIN.out v9 w9 (by simpa using hown9) B9
      have hh9 := (B9.block _ (lt_of_block HH5.out)).trans HH5.out
      obtain ⟨m9, hm9⟩ : ∃ m9, 0 + n + 1 = m9 := ⟨_, rfl⟩
      rw [hm9] at hva
      rw [hva] at Q ⊢
      have HQ := Lib.hid Q
      have e0 := cell_of_block hh9 0; have e1 := frozen_of_block hh9 0
      have lp9 := lt_of_block hh9
      clear HOM HRM hown9 hg9 hat9 hh9 Q B9 hva hm9 HBX
      go_wp2_with fail
      go_meet
      exact HQ.out
    · skip
      refine Rg.wp1_step (fun K hK => ?_) ⟨⟨_, B6⟩, rfl⟩
      go_simp
      have B6' : Below w5.heap.size w5 ((w5.alloc (.cells #[] 38)).drew.alloc (.cells #[.int .i64 (Jb.id (Rc.job r)), .int .i64 (Jb.queue (Rc.job r)), .int .i64 (Jb.prio (Rc.job r)), .int .i64 (Jb.runtime (Rc.job r)), .int .i64 (Sh.gpus (Jb.shape (Rc.job r))), .int .i64 (Sh.cpus (Jb.shape (Rc.job r))), .int .i64 (Sh.mn (Jb.shape (Rc.job r))), .int .i64 (Sh.mx (Jb.shape (Rc.job r))), .int .i64 (Rc.state r), .int .i64 (Rc.since r), .int .i64 (Rc.number r), .int .i64 (Rc.members r), .int .i64 (Rc.began r), .int .i64 (Rc.fin r), .int .i64 (Rc.limit r), .int .i64 (Rc.worker r)] 38)) := B6.alloc B6.size _
      refine hK _ _ (fun _ => ⟨⟨_, B6'⟩, rfl⟩) ?_
      clear hK K
      try simp only [Rg.wpP, Rg.pickn, List.getElem?_cons_succ, List.getElem?_cons_zero, Option.toList, List.map_cons, List.map_nil, List.cons_append, List.nil_append]
      refine Rg.wp1_step (fun K hK => ?_) ⟨⟨_, B6'⟩, rfl⟩
      refine step_append_src _ (by rfl) _ _ _ (by rfl) w5.heap.size 38 i0 _ 16 128 Try.underlying46 hi0 hz0 hz1 hz2 rfl (by omega) (.slice (some ⟨w5.heap.size, 0, none⟩) 0 0) 0 [] (by rfl) (ownsRow_below ((World.ownsRow_made w5 _ 0 (Nat.le_refl _) (by unfold maxLen; omega) rfl).drew) ((Below.refl _ _).alloc (Nat.le_refl _) _))
        a n cap lf (by rfl) (HSRC.out.later (HB5.out.trans (B6'.mono HB5.out.size))) HL1.out (by unfold maxLen; omega) (by omega) (by simp; omega) ?_
      intro v7 w7 hown7 hg7 hat7
      have B7 : Below w5.heap.size w5 w7 := (Fr.of_below B6' (fun _ => False)).grown hg7 (by simp <;> omega) (fun k e => .inl (by simp [Value.ownBlock] at e; omega)) |>.below (Nat.le_refl _) (fun _ h => h.elim)
      refine hK _ _ (fun _ => ⟨⟨_, B7⟩, rfl⟩) ?_
      clear hK K
      try simp only [Rg.wpP, Rg.pickn, List.getElem?_cons_succ, List.getElem?_cons_zero, Option.toList, List.map_cons, List.map_nil, List.cons_append, List.nil_append]
      have HBX := B7
      have HOM := hown7
      have HRM : w7.heap[w5.heap.size + 1]? = some (.cells #[.int .i64 (Jb.id (Rc.job r)), .int .i64 (Jb.queue (Rc.job r)), .int .i64 (Jb.prio (Rc.job r)), .int .i64 (Jb.runtime (Rc.job r)), .int .i64 (Sh.gpus (Jb.shape (Rc.job r))), .int .i64 (Sh.cpus (Jb.shape (Rc.job r))), .int .i64 (Sh.mn (Jb.shape (Rc.job r))), .int .i64 (Sh.mx (Jb.shape (Rc.job r))), .int .i64 (Rc.state r), .int .i64 (Rc.since r), .int .i64 (Rc.number r), .int .i64 (Rc.members r), .int .i64 (Rc.began r), .int .i64 (Rc.fin r), .int .i64 (Rc.limit r), .int .i64 (Rc.worker r)] 38 (0, 0)) := (hg7.block _ (by simp) (by simp [Value.ownBlock])).trans (alloc2_atR _ _ _)
      refine Rg.wpN_step (fun K hK => ?_) ⟨⟨_, HBX⟩, rfl⟩
      refine step_append_src _ (by rfl) _ _ _ (by rfl) w5.heap.size 38 i0 _ 16 128 Try.underlying46 hi0 hz0 hz1 hz2 rfl (by omega) v7 (0 + n) ([] ++ _) (by rfl) HOM
        (some ⟨w5.heap.size + 1, 0, none⟩) 1 1 (Rc.cells r) (by rfl) (.inr ⟨_, rfl, by simp [Rc.cells], World.news_of_block (cs := #[.int .i64 (Jb.id (Rc.job r)), .int .i64 (Jb.queue (Rc.job r)), .int .i64 (Jb.prio (Rc.job r)), .int .i64 (Jb.runtime (Rc.job r)), .int .i64 (Sh.gpus (Jb.shape (Rc.job r))), .int .i64 (Sh.cpus (Jb.shape (Rc.job r))), .int .i64 (Sh.mn (Jb.shape (Rc.job r))), .int .i64 (Sh.mx (Jb.shape (Rc.job r))), .int .i64 (Rc.state r), .int .i64 (Rc.since r), .int .i64 (Rc.number r), .int .i64 (Rc.members r), .int .i64 (Rc.began r), .int .i64 (Rc.fin r), .int .i64 (Rc.limit r), .int .i64 (Rc.worker r)]) (t := 38) (fr := (0, 0)) HRM⟩) HR1.out (by unfold maxLen; omega) (by omega) (by have := HBX.size; omega) ?_
      intro v9 w9 hown9 hg9 hat9
      have B9 : Below w5.heap.size w5 w9 := (Fr.of_below HBX (fun _ => False)).grown hg9 HBX.size (fun k e => .inl ((HOM.lt k e).1)) |>.below (Nat.le_refl _) (fun _ h => h.elim)
      refine hK _ _ (fun _ => ⟨⟨_, B9⟩, rfl⟩) ?_
      clear hK K
      refine Rg.wpN_list (by decide) ?_
      simp only [List.map_cons, List.map_nil]
      obtain ⟨a9, c9, hva⟩ := own_form hown9
      have Q := HFIN.out v9 w9 (by simpa using hown9) B9
      have hh9 := (B9.block _ (lt_of_block HH5.out)).trans HH5.out
      obtain ⟨m9, hm9⟩ : ∃ m9, 0 + n + 1 = m9 := ⟨_, rfl⟩
      rw [hm9] at hva
      rw [hva] at Q ⊢
      have HQ := Lib.hid Q
      have e0 := cell_of_block hh9 0; have e1 := frozen_of_block hh9 0
      have lp9 := lt_of_block hh9
      clear HOM HRM hown9 hg9 hat9 hh9 Q B9 hva hm9 HBX
      go_wp2_with fail
      go_meet
      exact HQ.out
  · refine Rg.wp1_step (fun K hK => ?_) ⟨⟨_, fx5⟩, rfl⟩
    go_simp
    have B6 : Below w5.heap.size w5 (w5.alloc (.cells #[.int .i64 (Jb.id (Rc.job r)), .int .i64 (Jb.queue (Rc.job r)), .int .i64 (Jb.prio (Rc.job r)), .int .i64 (Jb.runtime (Rc.job r)), .int .i64 (Sh.gpus (Jb.shape (Rc.job r))), .int .i64 (Sh.cpus (Jb.shape (Rc.job r))), .int .i64 (Sh.mn (Jb.shape (Rc.job r))), .int .i64 (Sh.mx (Jb.shape (Rc.job r))), .int .i64 (Rc.state r), .int .i64 (Rc.since r), .int .i64 (Rc.number r), .int .i64 (Rc.members r), .int .i64 (Rc.began r), .int .i64 (Rc.fin r), .int .i64 (Rc.limit r), .int .i64 (Rc.worker r)] 38)).drew := ((Below.refl _ _).alloc (Nat.le_refl _) _).drew
    refine hK _ _ (fun _ => ⟨⟨_, B6⟩, rfl⟩) ?_
    clear hK K
    try simp only [Rg.wpP, Rg.pickn, List.getElem?_cons_succ, List.getElem?_cons_zero, Option.toList, List.map_cons, List.map_nil, List.cons_append, List.nil_append]
    refine Rg.wp1_step (fun K hK => ?_) ⟨⟨_, B6⟩, rfl⟩
    go_simp
    have B6' : Below w5.heap.size w5 ((w5.alloc (.cells #[.int .i64 (Jb.id (Rc.job r)), .int .i64 (Jb.queue (Rc.job r)), .int .i64 (Jb.prio (Rc.job r)), .int .i64 (Jb.runtime (Rc.job r)), .int .i64 (Sh.gpus (Jb.shape (Rc.job r))), .int .i64 (Sh.cpus (Jb.shape (Rc.job r))), .int .i64 (Sh.mn (Jb.shape (Rc.job r))), .int .i64 (Sh.mx (Jb.shape (Rc.job r))), .int .i64 (Rc.state r), .int .i64 (Rc.since r), .int .i64 (Rc.number r), .int .i64 (Rc.members r), .int .i64 (Rc.began r), .int .i64 (Rc.fin r), .int .i64 (Rc.limit r), .int .i64 (Rc.worker r)] 38)).drew.alloc (.cells #[] 38)) := B6.alloc B6.size _
    refine hK _ _ (fun _ => ⟨⟨_, B6'⟩, rfl⟩) ?_
    clear hK K
    try simp only [Rg.wpP, Rg.pickn, List.getElem?_cons_succ, List.getElem?_cons_zero, Option.toList, List.map_cons, List.map_nil, List.cons_append, List.nil_append]
    refine Rg.wp1_step (fun K hK => ?_) ⟨⟨_, B6'⟩, rfl⟩
    refine step_append_src _ (by rfl) _ _ _ (by rfl) w5.heap.size 38 i0 _ 16 128 Try.underlying46 hi0 hz0 hz1 hz2 rfl (by omega) (.slice (some ⟨w5.heap.size + 1, 0, none⟩) 0 0) 0 [] (by rfl) (ownsMadeR w5)
      a n cap lf (by rfl) (HSRC.out.later (HB5.out.trans (B6'.mono HB5.out.size))) HL1.out (by unfold maxLen; omega) (by omega) (by simp; omega) ?_
    intro v7 w7 hown7 hg7 hat7
    have B7 : Below w5.heap.size w5 w7 := (Fr.of_below B6' (fun _ => False)).grown hg7 (by simp <;> omega) (fun k e => .inl (by simp [Value.ownBlock] at e; omega)) |>.below (Nat.le_refl _) (fun _ h => h.elim)
    refine hK _ _ (fun _ => ⟨⟨_, B7⟩, rfl⟩) ?_
    clear hK K
    try simp only [Rg.wpP, Rg.pickn, List.getElem?_cons_succ, List.getElem?_cons_zero, Option.toList, List.map_cons, List.map_nil, List.cons_append, List.nil_append]
    have HBX := B7
    have HOM := hown7
    have HRM : w7.heap[w5.heap.size]? = some (.cells #[.int .i64 (Jb.id (Rc.job r)), .int .i64 (Jb.queue (Rc.job r)), .int .i64 (Jb.prio (Rc.job r)), .int .i64 (Jb.runtime (Rc.job r)), .int .i64 (Sh.gpus (Jb.shape (Rc.job r))), .int .i64 (Sh.cpus (Jb.shape (Rc.job r))), .int .i64 (Sh.mn (Jb.shape (Rc.job r))), .int .i64 (Sh.mx (Jb.shape (Rc.job r))), .int .i64 (Rc.state r), .int .i64 (Rc.since r), .int .i64 (Rc.number r), .int .i64 (Rc.members r), .int .i64 (Rc.began r), .int .i64 (Rc.fin r), .int .i64 (Rc.limit r), .int .i64 (Rc.worker r)] 38 (0, 0)) := (hg7.block _ (by simp <;> omega) (by simp [Value.ownBlock])).trans (alloc_other (World.alloc_heap_new w5 _))
    refine Rg.wpN_step (fun K hK => ?_) ⟨⟨_, HBX⟩, rfl⟩
    refine step_append_src _ (by rfl) _ _ _ (by rfl) w5.heap.size 38 i0 _ 16 128 Try.underlying46 hi0 hz0 hz1 hz2 rfl (by omega) v7 (0 + n) ([] ++ _) (by rfl) HOM
      (some ⟨w5.heap.size, 0, none⟩) 1 1 (Rc.cells r) (by rfl) (.inr ⟨_, rfl, by simp [Rc.cells], World.news_of_block (cs := #[.int .i64 (Jb.id (Rc.job r)), .int .i64 (Jb.queue (Rc.job r)), .int .i64 (Jb.prio (Rc.job r)), .int .i64 (Jb.runtime (Rc.job r)), .int .i64 (Sh.gpus (Jb.shape (Rc.job r))), .int .i64 (Sh.cpus (Jb.shape (Rc.job r))), .int .i64 (Sh.mn (Jb.shape (Rc.job r))), .int .i64 (Sh.mx (Jb.shape (Rc.job r))), .int .i64 (Rc.state r), .int .i64 (Rc.since r), .int .i64 (Rc.number r), .int .i64 (Rc.members r), .int .i64 (Rc.began r), .int .i64 (Rc.fin r), .int .i64 (Rc.limit r), .int .i64 (Rc.worker r)]) (t := 38) (fr := (0, 0)) HRM⟩) HR1.out (by unfold maxLen; omega) (by omega) (by have := HBX.size; omega) ?_
    intro v9 w9 hown9 hg9 hat9
    have B9 : Below w5.heap.size w5 w9 := (Fr.of_below HBX (fun _ => False)).grown hg9 HBX.size (fun k e => .inl ((HOM.lt k e).1)) |>.below (Nat.le_refl _) (fun _ h => h.elim)
    refine hK _ _ (fun _ => ⟨⟨_, B9⟩, rfl⟩) ?_
    clear hK K
    refine Rg.wpN_list (by decide) ?_
    simp only [List.map_cons, List.map_nil]
    obtain ⟨a9, c9, hva⟩ := own_form hown9
    have Q := HFIN.out v9 w9 (by simpa using hown9) B9
    have hh9 := (B9.block _ (lt_of_block HH5.out)).trans HH5.out
    obtain ⟨m9, hm9⟩ : ∃ m9, 0 + n + 1 = m9 := ⟨_, rfl⟩
    rw [hm9] at hva
    rw [hva] at Q ⊢
    have HQ := Lib.hid Q
    have e0 := cell_of_block hh9 0; have e1 := frozen_of_block hh9 0
    have lp9 := lt_of_block hh9
    clear HOM HRM hown9 hg9 hat9 hh9 Q B9 hva hm9 HBX
    go_wp2_with fail
    go_meet
    exact HQ.out
end Go.Proofs.Ytaopekoehaccbaa
