/-
  The document's book: Do.
-/
import Derived.Test.YtaopekoehaccbaaRefGang5
import Derived.Test.YtaopekoehaccbaaRefResize
set_option linter.unusedVariables false
set_option linter.unusedSimpArgs false
namespace Go.Proofs.Ytaopekoehaccbaa
open Go.RowKit Go.Maps
variable {w w' : World} {pm : Nat} {v : Value} {l : List Rc}

theorem RbAt.fr {B : Nat} {G : Nat → Prop} (h : RbAt w pm v l) (hf : Fr B G w w') (hG : ∀ q, q = pm ∨ v.ownBlock = some q → q < B ∧ ¬ G q) : RbAt w' pm v l := by
  obtain ⟨B', h1, h2⟩ := h.own
  refine ⟨(hf.block _ (hG pm (.inl rfl)).1 (hG pm (.inl rfl)).2).trans h.head, B', h1, ownsRow_fr h2 hf fun g hg => hG g (.inr hg)⟩
theorem RbAt.lt (h : RbAt w pm v l) {q : Nat} (hq : q = pm ∨ v.ownBlock = some q) : q < w.heap.size := by
  obtain ⟨B, _, h2⟩ := h.own
  rcases hq with rfl | hq
  · exact lt_of_block h.head
  · exact (h2.lt q hq).2
theorem RbAt.ne (h : RbAt w pm v l) : v.ownBlock ≠ some pm := fun e => by
  obtain ⟨B, h1, h2⟩ := h.own
  have := (h2.lt pm e).1
  omega
theorem refTurn_p (h : RbAt w pm v l) (id ev : Int) (hl : l.length ≤ 1000000) :
    Calls Try.prog 45 #[.pointer (some ⟨pm, 0, none⟩), .int .i64 id, .int .i64 ev] w (RbPost pm v (turnR l id ev).2 (.int .i64 (turnR l id ev).1) w) :=
  (refTurn_any h id ev hl).mono fun e w' ⟨w1, hb, he, hr, hf⟩ => ⟨he, hr, (Fr.of_below hb _).trans (hf.mono hb.size fun _ _ e => e)⟩

/-- the document's call -/
def doRef (l : List Rc) (a : Act11) : (Int × Rc × Int) × List Rc :=
  if a.kind = 0 then ((0, (addR l a.j a.n).1.1, (addR l a.j a.n).1.2), (addR l a.j a.n).2)
  else if a.kind = 1 then ((0, Rc.zero, (modR l a.j.id (rReserve a.n a.m a.k)).1), (modR l a.j.id (rReserve a.n a.m a.k)).2)
  else if a.kind = 2 then ((rStartN l a.j.id a.n, Rc.zero, (modR l a.j.id (rStart a.n)).1), (modR l a.j.id (rStart a.n)).2)
  else if a.kind = 3 then ((0, Rc.zero, (turnR l a.j.id a.n).1), (turnR l a.j.id a.n).2)
  else ((0, Rc.zero, (modR l a.j.id (rResize a.n)).1), (modR l a.j.id (rResize a.n)).2)
def RbDo (pm : Nat) (v : Value) (r : (Int × Rc × Int) × List Rc) (w : World) (e : Ending) (w' : World) : Prop :=
  e = .returned (.tuple #[.int .i64 r.1.1, (.agg #[.int .i64 (Jb.id (Rc.job (r.1.2.1))), .int .i64 (Jb.queue (Rc.job (r.1.2.1))), .int .i64 (Jb.prio (Rc.job (r.1.2.1))), .int .i64 (Jb.runtime (Rc.job (r.1.2.1))), .int .i64 (Sh.gpus (Jb.shape (Rc.job (r.1.2.1)))), .int .i64 (Sh.cpus (Jb.shape (Rc.job (r.1.2.1)))), .int .i64 (Sh.mn (Jb.shape (Rc.job (r.1.2.1)))), .int .i64 (Sh.mx (Jb.shape (Rc.job (r.1.2.1)))), .int .i64 (Rc.state (r.1.2.1)), .int .i64 (Rc.since (r.1.2.1)), .int .i64 (Rc.number (r.1.2.1)), .int .i64 (Rc.members (r.1.2.1)), .int .i64 (Rc.began (r.1.2.1)), .int .i64 (Rc.fin (r.1.2.1)), .int .i64 (Rc.limit (r.1.2.1)), .int .i64 (Rc.worker (r.1.2.1))]), .int .i64 r.1.2.2]) ∧ ∃ v', RbAt w' pm v' r.2 ∧ Fr w.heap.size (fun q => q = pm ∨ v.ownBlock = some q) w w' ∧ ∀ q, v'.ownBlock = some q → v.ownBlock = some q ∨ w.heap.size ≤ q

set_option maxRecDepth 100000 in
set_option maxHeartbeats 4000000 in
theorem refDo1 (h : RbAt w pm v l) (a : Act11) (hl : l.length ≤ 1000000) (hk : a.kind = 1) :
    Calls Try.prog 23 #[.pointer (some ⟨pm, 0, none⟩), .agg #[.int .i64 a.kind, .int .i64 a.n, .int .i64 a.m, .int .i64 a.k, .int .i64 a.j.id, .int .i64 a.j.queue, .int .i64 a.j.prio, .int .i64 a.j.runtime, .int .i64 a.j.shape.gpus, .int .i64 a.j.shape.cpus, .int .i64 a.j.shape.mn, .int .i64 a.j.shape.mx]] w (RbDo pm v (doRef l a) w) := by
  have HD := Lib.hid (show doRef l a = ((0, Rc.zero, (modR l a.j.id (rReserve a.n a.m a.k)).1), (modR l a.j.id (rReserve a.n a.m a.k)).2) by unfold doRef; rw [if_neg (by omega), if_pos hk])
  have H := Lib.hid h
  have lp := lt_of_block h.head
  have hk0 : (a.kind == 0) = false := by simp; omega
  have hk1 : (a.kind == 1) = true := by simp; omega
  have hk2 : (a.kind == 2) = false := by simp; omega
  have hk3 : (a.kind == 3) = false := by simp; omega
  clear h hk
  rw [HD.out]
  go_enter Try.func23, Try.ntmps23
  go_wp2_with fail
  refine calls_two fun w3 hb k0 k1 hsz => ?_
  have HB := Lib.hid hb; have HZ := Lib.hid k1; have HSZ := Lib.hid hsz; have HA := Lib.hid k0
  have H3 := Lib.hid (H.out.later hb)
  clear hb k0 k1 hsz
  refine (refReserve_any H3.out a.j.id a.n a.m a.k hl).mono ?_
  rintro e w4 ⟨rfl, h4, hf4⟩
  have hz4 := (hf4.block _ (lt_of_block HZ.out) (fun e => by have := H.out.lt (.inr e); omega)).trans HZ.out
  have HZ4 := Lib.hid hz4; have H4 := Lib.hid h4; have HF4 := Lib.hid hf4
  obtain ⟨ec, hec⟩ : ∃ ec, (modR l a.j.id (rReserve a.n a.m a.k)).1 = ec := ⟨_, rfl⟩
  rw [hec]
  have HEC := Lib.hid hec
  have z := cell_of_block hz4; have zf := frozen_of_block hz4; have l2 := lt_of_block hz4
  have ka := (hf4.block _ (lt_of_block HA.out) (fun e => by have := H.out.lt (.inr e); omega)).trans HA.out
  have a0 := cell_of_block ka; have la := lt_of_block ka
  clear hz4 h4 hf4 hec ka
  go_wp2_with fail
  clear z zf l2 a0 la
  refine store16 (x := Rc.zero) (z := Rc.zero) HZ4.out fun w5 h5 hf5 => ?_
  (try simp only [Exit.inBlock, Exit.then])
  refine bodyPost_ret (results_3 rfl _ w5 _ _ _ _ _ recUnder rfl rfl h5 (by kernel_rfl)) rfl ?_
  refine ⟨by rw [HEC.out]; rfl, v, H4.out.fr hf5 (fun q hq => ⟨H4.out.lt hq, fun e => by have := H.out.lt hq; omega⟩), ?_, fun q hq => .inl hq⟩
  have h1 : Fr w.heap.size (fun q => q = pm ∨ v.ownBlock = some q) w w4 := (Fr.of_below HB.out _).trans (HF4.out.mono HB.out.size fun q _ e => .inr e)
  exact h1.trans (hf5.mono h1.size fun q hq e => by omega)

set_option maxRecDepth 100000 in
set_option maxHeartbeats 4000000 in
theorem refDo2 (h : RbAt w pm v l) (a : Act11) (hl : l.length ≤ 1000000) (hk : a.kind = 2) :
    Calls Try.prog 23 #[.pointer (some ⟨pm, 0, none⟩), .agg #[.int .i64 a.kind, .int .i64 a.n, .int .i64 a.m, .int .i64 a.k, .int .i64 a.j.id, .int .i64 a.j.queue, .int .i64 a.j.prio, .int .i64 a.j.runtime, .int .i64 a.j.shape.gpus, .int .i64 a.j.shape.cpus, .int .i64 a.j.shape.mn, .int .i64 a.j.shape.mx]] w (RbDo pm v (doRef l a) w) := by
  have HD := Lib.hid (show doRef l a = ((rStartN l a.j.id a.n, Rc.zero, (modR l a.j.id (rStart a.n)).1), (modR l a.j.id (rStart a.n)).2) by unfold doRef; rw [if_neg (by omega), if_neg (by omega), if_pos hk])
  have H := Lib.hid h
  have lp := lt_of_block h.head
  have hk0 : (a.kind == 0) = false := by simp; omega
  have hk1 : (a.kind == 1) = false := by simp; omega
  have hk2 : (a.kind == 2) = true := by simp; omega
  have hk3 : (a.kind == 3) = false := by simp; omega
  clear h hk
  rw [HD.out]
  go_enter Try.func23, Try.ntmps23
  go_wp2_with fail
  refine calls_two fun w3 hb k0 k1 hsz => ?_
  have HB := Lib.hid hb; have HZ := Lib.hid k1; have HSZ := Lib.hid hsz; have HA := Lib.hid k0
  have H3 := Lib.hid (H.out.later hb)
  clear hb k0 k1 hsz
  refine (refStart_any H3.out a.j.id a.n hl).mono ?_
  rintro e w4 ⟨rfl, h4, hf4⟩
  have hz4 := (hf4.block _ (lt_of_block HZ.out) (fun e => by have := H.out.lt (.inr e); omega)).trans HZ.out
  have HZ4 := Lib.hid hz4; have H4 := Lib.hid h4; have HF4 := Lib.hid hf4
  obtain ⟨ec, hec⟩ : ∃ ec, (modR l a.j.id (rStart a.n)).1 = ec := ⟨_, rfl⟩
  rw [hec]
  have HEC := Lib.hid hec
  obtain ⟨sn, hsn⟩ : ∃ sn, rStartN l a.j.id a.n = sn := ⟨_, rfl⟩
  rw [hsn]
  have HSN := Lib.hid hsn
  clear hsn
  have z := cell_of_block hz4; have zf := frozen_of_block hz4; have l2 := lt_of_block hz4
  have ka := (hf4.block _ (lt_of_block HA.out) (fun e => by have := H.out.lt (.inr e); omega)).trans HA.out
  have a0 := cell_of_block ka; have la := lt_of_block ka
  clear hz4 h4 hf4 hec ka
  go_wp2_with fail
  clear z zf l2 a0 la
  refine store16 (x := Rc.zero) (z := Rc.zero) HZ4.out fun w5 h5 hf5 => ?_
  (try simp only [Exit.inBlock, Exit.then])
  refine bodyPost_ret (results_3 rfl _ w5 _ _ _ _ _ recUnder rfl rfl h5 (by kernel_rfl)) rfl ?_
  refine ⟨by rw [HEC.out, HSN.out]; rfl, v, H4.out.fr hf5 (fun q hq => ⟨H4.out.lt hq, fun e => by have := H.out.lt hq; omega⟩), ?_, fun q hq => .inl hq⟩
  have h1 : Fr w.heap.size (fun q => q = pm ∨ v.ownBlock = some q) w w4 := (Fr.of_below HB.out _).trans (HF4.out.mono HB.out.size fun q _ e => .inr e)
  exact h1.trans (hf5.mono h1.size fun q hq e => by omega)

set_option maxRecDepth 100000 in
set_option maxHeartbeats 4000000 in
theorem refDo3 (h : RbAt w pm v l) (a : Act11) (hl : l.length ≤ 1000000) (hk : a.kind = 3) :
    Calls Try.prog 23 #[.pointer (some ⟨pm, 0, none⟩), .agg #[.int .i64 a.kind, .int .i64 a.n, .int .i64 a.m, .int .i64 a.k, .int .i64 a.j.id, .int .i64 a.j.queue, .int .i64 a.j.prio, .int .i64 a.j.runtime, .int .i64 a.j.shape.gpus, .int .i64 a.j.shape.cpus, .int .i64 a.j.shape.mn, .int .i64 a.j.shape.mx]] w (RbDo pm v (doRef l a) w) := by
  have HD := Lib.hid (show doRef l a = ((0, Rc.zero, (turnR l a.j.id a.n).1), (turnR l a.j.id a.n).2) by unfold doRef; rw [if_neg (by omega), if_neg (by omega), if_neg (by omega), if_pos hk])
  have H := Lib.hid h
  have lp := lt_of_block h.head
  have hk0 : (a.kind == 0) = false := by simp; omega
  have hk1 : (a.kind == 1) = false := by simp; omega
  have hk2 : (a.kind == 2) = false := by simp; omega
  have hk3 : (a.kind == 3) = true := by simp; omega
  clear h hk
  rw [HD.out]
  go_enter Try.func23, Try.ntmps23
  go_wp2_with fail
  refine calls_two fun w3 hb k0 k1 hsz => ?_
  have HB := Lib.hid hb; have HZ := Lib.hid k1; have HSZ := Lib.hid hsz; have HA := Lib.hid k0
  have H3 := Lib.hid (H.out.later hb)
  clear hb k0 k1 hsz
  refine (refTurn_p H3.out a.j.id a.n hl).mono ?_
  rintro e w4 ⟨rfl, h4, hf4⟩
  have hz4 := (hf4.block _ (lt_of_block HZ.out) (fun e => by have := H.out.lt (.inr e); omega)).trans HZ.out
  have HZ4 := Lib.hid hz4; have H4 := Lib.hid h4; have HF4 := Lib.hid hf4
  obtain ⟨ec, hec⟩ : ∃ ec, (turnR l a.j.id a.n).1 = ec := ⟨_, rfl⟩
  rw [hec]
  have HEC := Lib.hid hec
  have z := cell_of_block hz4; have zf := frozen_of_block hz4; have l2 := lt_of_block hz4
  have ka := (hf4.block _ (lt_of_block HA.out) (fun e => by have := H.out.lt (.inr e); omega)).trans HA.out
  have a0 := cell_of_block ka; have la := lt_of_block ka
  clear hz4 h4 hf4 hec ka
  go_wp2_with fail
  clear z zf l2 a0 la
  refine store16 (x := Rc.zero) (z := Rc.zero) HZ4.out fun w5 h5 hf5 => ?_
  (try simp only [Exit.inBlock, Exit.then])
  refine bodyPost_ret (results_3 rfl _ w5 _ _ _ _ _ recUnder rfl rfl h5 (by kernel_rfl)) rfl ?_
  refine ⟨by rw [HEC.out]; rfl, v, H4.out.fr hf5 (fun q hq => ⟨H4.out.lt hq, fun e => by have := H.out.lt hq; omega⟩), ?_, fun q hq => .inl hq⟩
  have h1 : Fr w.heap.size (fun q => q = pm ∨ v.ownBlock = some q) w w4 := (Fr.of_below HB.out _).trans (HF4.out.mono HB.out.size fun q _ e => .inr e)
  exact h1.trans (hf5.mono h1.size fun q hq e => by omega)

set_option maxRecDepth 100000 in
set_option maxHeartbeats 4000000 in
theorem refDo4 (h : RbAt w pm v l) (a : Act11) (hl : l.length ≤ 1000000) (hk : a.kind ≠ 0 ∧ a.kind ≠ 1 ∧ a.kind ≠ 2 ∧ a.kind ≠ 3) :
    Calls Try.prog 23 #[.pointer (some ⟨pm, 0, none⟩), .agg #[.int .i64 a.kind, .int .i64 a.n, .int .i64 a.m, .int .i64 a.k, .int .i64 a.j.id, .int .i64 a.j.queue, .int .i64 a.j.prio, .int .i64 a.j.runtime, .int .i64 a.j.shape.gpus, .int .i64 a.j.shape.cpus, .int .i64 a.j.shape.mn, .int .i64 a.j.shape.mx]] w (RbDo pm v (doRef l a) w) := by
  have HD := Lib.hid (show doRef l a = ((0, Rc.zero, (modR l a.j.id (rResize a.n)).1), (modR l a.j.id (rResize a.n)).2) by unfold doRef; rw [if_neg (by omega), if_neg (by omega), if_neg (by omega), if_neg (by omega)])
  have H := Lib.hid h
  have lp := lt_of_block h.head
  have hk0 : (a.kind == 0) = false := by simp; omega
  have hk1 : (a.kind == 1) = false := by simp; omega
  have hk2 : (a.kind == 2) = false := by simp; omega
  have hk3 : (a.kind == 3) = false := by simp; omega
  clear h hk
  rw [HD.out]
  go_enter Try.func23, Try.ntmps23
  go_wp2_with fail
  refine calls_two fun w3 hb k0 k1 hsz => ?_
  have HB := Lib.hid hb; have HZ := Lib.hid k1; have HSZ := Lib.hid hsz; have HA := Lib.hid k0
  have H3 := Lib.hid (H.out.later hb)
  clear hb k0 k1 hsz
  refine (refResize_any H3.out a.j.id a.n hl).mono ?_
  rintro e w4 ⟨rfl, h4, hf4⟩
  have hz4 := (hf4.block _ (lt_of_block HZ.out) (fun e => by have := H.out.lt (.inr e); omega)).trans HZ.out
  have HZ4 := Lib.hid hz4; have H4 := Lib.hid h4; have HF4 := Lib.hid hf4
  obtain ⟨ec, hec⟩ : ∃ ec, (modR l a.j.id (rResize a.n)).1 = ec := ⟨_, rfl⟩
  rw [hec]
  have HEC := Lib.hid hec
  have z := cell_of_block hz4; have zf := frozen_of_block hz4; have l2 := lt_of_block hz4
  have ka := (hf4.block _ (lt_of_block HA.out) (fun e => by have := H.out.lt (.inr e); omega)).trans HA.out
  have a0 := cell_of_block ka; have la := lt_of_block ka
  clear hz4 h4 hf4 hec ka
  go_wp2_with fail
  clear z zf l2 a0 la
  refine store16 (x := Rc.zero) (z := Rc.zero) HZ4.out fun w5 h5 hf5 => ?_
  (try simp only [Exit.inBlock, Exit.then])
  refine bodyPost_ret (results_3 rfl _ w5 _ _ _ _ _ recUnder rfl rfl h5 (by kernel_rfl)) rfl ?_
  refine ⟨by rw [HEC.out]; rfl, v, H4.out.fr hf5 (fun q hq => ⟨H4.out.lt hq, fun e => by have := H.out.lt hq; omega⟩), ?_, fun q hq => .inl hq⟩
  have h1 : Fr w.heap.size (fun q => q = pm ∨ v.ownBlock = some q) w w4 := (Fr.of_below HB.out _).trans (HF4.out.mono HB.out.size fun q _ e => .inr e)
  exact h1.trans (hf5.mono h1.size fun q hq e => by omega)

set_option maxRecDepth 100000 in
set_option maxHeartbeats 4000000 in
theorem refDo0 (h : RbAt w pm v l) (a : Act11) (hl : l.length ≤ 1000000) (hk : a.kind = 0) :
    Calls Try.prog 23 #[.pointer (some ⟨pm, 0, none⟩), .agg #[.int .i64 a.kind, .int .i64 a.n, .int .i64 a.m, .int .i64 a.k, .int .i64 a.j.id, .int .i64 a.j.queue, .int .i64 a.j.prio, .int .i64 a.j.runtime, .int .i64 a.j.shape.gpus, .int .i64 a.j.shape.cpus, .int .i64 a.j.shape.mn, .int .i64 a.j.shape.mx]] w (RbDo pm v (doRef l a) w) := by
  have HD := Lib.hid (show doRef l a = ((0, (addR l a.j a.n).1.1, (addR l a.j a.n).1.2), (addR l a.j a.n).2) by unfold doRef; rw [if_pos hk])
  have H := Lib.hid h
  have lp := lt_of_block h.head
  have hk0 : (a.kind == 0) = true := by simp; omega
  have hk1 : (a.kind == 1) = false := by simp; omega
  have hk2 : (a.kind == 2) = false := by simp; omega
  have hk3 : (a.kind == 3) = false := by simp; omega
  clear h hk
  rw [HD.out]
  go_enter Try.func23, Try.ntmps23
  go_wp2_with fail
  refine calls_two fun w3 hb k0 k1 hsz => ?_
  have HB := Lib.hid hb; have HZ := Lib.hid k1; have HSZ := Lib.hid hsz; have HA := Lib.hid k0
  have H3 := Lib.hid (H.out.later hb)
  clear hb k0 k1 hsz
  refine (refAdd_any H3.out a.j a.n hl).mono ?_
  rintro e w4 ⟨rfl, v', h4, hf4, hv4⟩
  obtain ⟨⟨⟨r, e0⟩, l2⟩, hadd⟩ : ∃ x, addR l a.j a.n = x := ⟨_, rfl⟩
  rw [hadd] at h4 ⊢
  have HADD := Lib.hid hadd
  simp only at h4 ⊢
  have hz4 := (hf4.block _ (lt_of_block HZ.out) (fun e => by have := H.out.lt (.inl rfl); omega)).trans HZ.out
  have hsz4 := hf4.size
  have H4 := Lib.hid h4; have HF4 := Lib.hid hf4; have HV4 := Lib.hid hv4
  have ka := (hf4.block _ (lt_of_block HA.out) (fun e => by have := H.out.lt (.inl rfl); omega)).trans HA.out
  have a0 := cell_of_block ka; have la := lt_of_block ka
  have HZ4' := Lib.hid hz4
  clear hz4 h4 hf4 hv4 hadd ka
  go_upto_region 4 with fail
  have hb5 := (Below.refl w4.heap.size w4).alloc (Nat.le_refl _) (.cells #[.int .i64 (Jb.id (Rc.job r)), .int .i64 (Jb.queue (Rc.job r)), .int .i64 (Jb.prio (Rc.job r)), .int .i64 (Jb.runtime (Rc.job r)), .int .i64 (Sh.gpus (Jb.shape (Rc.job r))), .int .i64 (Sh.cpus (Jb.shape (Rc.job r))), .int .i64 (Sh.mn (Jb.shape (Rc.job r))), .int .i64 (Sh.mx (Jb.shape (Rc.job r))), .int .i64 (Rc.state r), .int .i64 (Rc.since r), .int .i64 (Rc.number r), .int .i64 (Rc.members r), .int .i64 (Rc.began r), .int .i64 (Rc.fin r), .int .i64 (Rc.limit r), .int .i64 (Rc.worker r)] 38)
  have k5 := World.alloc_heap_new w4 (.cells #[.int .i64 (Jb.id (Rc.job r)), .int .i64 (Jb.queue (Rc.job r)), .int .i64 (Jb.prio (Rc.job r)), .int .i64 (Jb.runtime (Rc.job r)), .int .i64 (Sh.gpus (Jb.shape (Rc.job r))), .int .i64 (Sh.cpus (Jb.shape (Rc.job r))), .int .i64 (Sh.mn (Jb.shape (Rc.job r))), .int .i64 (Sh.mx (Jb.shape (Rc.job r))), .int .i64 (Rc.state r), .int .i64 (Rc.since r), .int .i64 (Rc.number r), .int .i64 (Rc.members r), .int .i64 (Rc.began r), .int .i64 (Rc.fin r), .int .i64 (Rc.limit r), .int .i64 (Rc.worker r)] 38)
  obtain ⟨A2, hA2⟩ : ∃ A2, w4.heap.size = A2 := ⟨_, rfl⟩
  change Code.wp _ _ _ _ (w4.alloc (.cells #[.int .i64 (Jb.id (Rc.job r)), .int .i64 (Jb.queue (Rc.job r)), .int .i64 (Jb.prio (Rc.job r)), .int .i64 (Jb.runtime (Rc.job r)), .int .i64 (Sh.gpus (Jb.shape (Rc.job r))), .int .i64 (Sh.cpus (Jb.shape (Rc.job r))), .int .i64 (Sh.mn (Jb.shape (Rc.job r))), .int .i64 (Sh.mx (Jb.shape (Rc.job r))), .int .i64 (Rc.state r), .int .i64 (Rc.since r), .int .i64 (Rc.number r), .int .i64 (Rc.members r), .int .i64 (Rc.began r), .int .i64 (Rc.fin r), .int .i64 (Rc.limit r), .int .i64 (Rc.worker r)] 38))
  rw [hA2] at k5
  simp only [hA2]
  generalize w4.alloc (.cells #[.int .i64 (Jb.id (Rc.job r)), .int .i64 (Jb.queue (Rc.job r)), .int .i64 (Jb.prio (Rc.job r)), .int .i64 (Jb.runtime (Rc.job r)), .int .i64 (Sh.gpus (Jb.shape (Rc.job r))), .int .i64 (Sh.cpus (Jb.shape (Rc.job r))), .int .i64 (Sh.mn (Jb.shape (Rc.job r))), .int .i64 (Sh.mx (Jb.shape (Rc.job r))), .int .i64 (Rc.state r), .int .i64 (Rc.since r), .int .i64 (Rc.number r), .int .i64 (Rc.members r), .int .i64 (Rc.began r), .int .i64 (Rc.fin r), .int .i64 (Rc.limit r), .int .i64 (Rc.worker r)] 38) = w5 at hb5 k5 ⊢
  have HZ5 := Lib.hid ((hb5.block _ (lt_of_block HZ4'.out)).trans HZ4'.out)
  have HK5 := Lib.hid k5; have HB5 := Lib.hid hb5
  have HNE : A2 ≠ w.heap.size + 1 := by have := lt_of_block HZ4'.out; omega
  clear hb5 k5 a0 la
  have d0 : ∀ y : LaterF w5 (fun q => q = w.heap.size + 1), y.wd.cell? ⟨A2, 0, none⟩ = some (.int .i64 r.job.id) := fun y => (y.cell (lt_of_block HK5.out) HNE).trans (cell_of_block HK5.out 0)
  have d1 : ∀ y : LaterF w5 (fun q => q = w.heap.size + 1), y.wd.cell? ⟨A2, 1, none⟩ = some (.int .i64 r.job.queue) := fun y => (y.cell (lt_of_block HK5.out) HNE).trans (cell_of_block HK5.out 1)
  have d2 : ∀ y : LaterF w5 (fun q => q = w.heap.size + 1), y.wd.cell? ⟨A2, 2, none⟩ = some (.int .i64 r.job.prio) := fun y => (y.cell (lt_of_block HK5.out) HNE).trans (cell_of_block HK5.out 2)
  have d3 : ∀ y : LaterF w5 (fun q => q = w.heap.size + 1), y.wd.cell? ⟨A2, 3, none⟩ = some (.int .i64 r.job.runtime) := fun y => (y.cell (lt_of_block HK5.out) HNE).trans (cell_of_block HK5.out 3)
  have d4 : ∀ y : LaterF w5 (fun q => q = w.heap.size + 1), y.wd.cell? ⟨A2, 4, none⟩ = some (.int .i64 r.job.shape.gpus) := fun y => (y.cell (lt_of_block HK5.out) HNE).trans (cell_of_block HK5.out 4)
  have d5 : ∀ y : LaterF w5 (fun q => q = w.heap.size + 1), y.wd.cell? ⟨A2, 5, none⟩ = some (.int .i64 r.job.shape.cpus) := fun y => (y.cell (lt_of_block HK5.out) HNE).trans (cell_of_block HK5.out 5)
  have d6 : ∀ y : LaterF w5 (fun q => q = w.heap.size + 1), y.wd.cell? ⟨A2, 6, none⟩ = some (.int .i64 r.job.shape.mn) := fun y => (y.cell (lt_of_block HK5.out) HNE).trans (cell_of_block HK5.out 6)
  have d7 : ∀ y : LaterF w5 (fun q => q = w.heap.size + 1), y.wd.cell? ⟨A2, 7, none⟩ = some (.int .i64 r.job.shape.mx) := fun y => (y.cell (lt_of_block HK5.out) HNE).trans (cell_of_block HK5.out 7)
  have d8 : ∀ y : LaterF w5 (fun q => q = w.heap.size + 1), y.wd.cell? ⟨A2, 8, none⟩ = some (.int .i64 r.state) := fun y => (y.cell (lt_of_block HK5.out) HNE).trans (cell_of_block HK5.out 8)
  have d9 : ∀ y : LaterF w5 (fun q => q = w.heap.size + 1), y.wd.cell? ⟨A2, 9, none⟩ = some (.int .i64 r.since) := fun y => (y.cell (lt_of_block HK5.out) HNE).trans (cell_of_block HK5.out 9)
  have d10 : ∀ y : LaterF w5 (fun q => q = w.heap.size + 1), y.wd.cell? ⟨A2, 10, none⟩ = some (.int .i64 r.number) := fun y => (y.cell (lt_of_block HK5.out) HNE).trans (cell_of_block HK5.out 10)
  have d11 : ∀ y : LaterF w5 (fun q => q = w.heap.size + 1), y.wd.cell? ⟨A2, 11, none⟩ = some (.int .i64 r.members) := fun y => (y.cell (lt_of_block HK5.out) HNE).trans (cell_of_block HK5.out 11)
  have d12 : ∀ y : LaterF w5 (fun q => q = w.heap.size + 1), y.wd.cell? ⟨A2, 12, none⟩ = some (.int .i64 r.began) := fun y => (y.cell (lt_of_block HK5.out) HNE).trans (cell_of_block HK5.out 12)
  have d13 : ∀ y : LaterF w5 (fun q => q = w.heap.size + 1), y.wd.cell? ⟨A2, 13, none⟩ = some (.int .i64 r.fin) := fun y => (y.cell (lt_of_block HK5.out) HNE).trans (cell_of_block HK5.out 13)
  have d14 : ∀ y : LaterF w5 (fun q => q = w.heap.size + 1), y.wd.cell? ⟨A2, 14, none⟩ = some (.int .i64 r.limit) := fun y => (y.cell (lt_of_block HK5.out) HNE).trans (cell_of_block HK5.out 14)
  have d15 : ∀ y : LaterF w5 (fun q => q = w.heap.size + 1), y.wd.cell? ⟨A2, 15, none⟩ = some (.int .i64 r.worker) := fun y => (y.cell (lt_of_block HK5.out) HNE).trans (cell_of_block HK5.out 15)
  have fx0 := (Fr.refl w5.heap.size (fun q => q = w.heap.size + 1) w5).drew
  have z := cell_of_block HZ5.out; have zf := frozen_of_block HZ5.out; have l2 := lt_of_block HZ5.out
  refine Rg.wp_region_pick (by kernel_rfl) [0, 1, 2] [3, 4] 4 (by kernel_rfl) (by kernel_rfl) (by kernel_rfl) (fun w' => ∃ y : LaterF w5 (fun q => q = w.heap.size + 1), w' = y.wd) (fun c a a' w hd h => ⟨hd.symm.trans h.1, h.2⟩) ⟨⟨_, fx0⟩, rfl⟩ ?_
  simp only [Rg.picks, List.getElem?_cons_succ, List.getElem?_cons_zero, Option.toList, List.cons_append, List.nil_append]
  repeat (quiet_step (fail))
  refine wpQuiet_nil ?_
  clear d0 d1 d2 d3 d4 d5 d6 d7 d8 d9 d10 d11 d12 d13 d14 d15
  simp only [Rg.pickn, List.getElem?_cons_succ, List.getElem?_cons_zero, Option.toList, List.map_cons, List.map_nil, List.cons_append, List.nil_append]
  refine Rg.wpN_step (fun K hK => ?_) ⟨⟨_, fx0⟩, rfl⟩
  go_simp
  have hst := store16d_fr (x := r) (z := Rc.zero) HZ5.out
  refine hK _ _ (fun _ => ⟨⟨_, hst⟩, rfl⟩) ?_
  clear hK K z zf l2
  refine Rg.wpN_list (by simp) ?_
  simp only [List.map_cons, List.map_nil]
  go_wp2
  refine store16d (x := r) (z := Rc.zero) HZ5.out fun w6 h6 hf6 => ?_
  (try simp only [Exit.inBlock, Exit.then])
  refine bodyPost_ret (results_3 rfl _ w6.drew _ _ _ _ _ recUnder rfl rfl h6 (by kernel_rfl)) rfl ?_
  have h5 : RbAt w5 pm v' l2 := H4.out.later HB5.out
  rw [HADD.out]
  refine ⟨rfl, v', h5.fr hf6.drew (fun q hq => ⟨h5.lt hq, fun e => ?_⟩), ?_, fun q hq => (HV4.out q hq).imp id fun e => Nat.le_trans HB.out.size e⟩
  · subst e
    rcases hq with hq | hq
    · have := H.out.lt (.inl rfl); omega
    · rcases HV4.out _ hq with h | h
      · have := H.out.lt (.inr h); omega
      · have := HSZ.out; omega
  · have h1 : Fr w.heap.size (fun q => q = pm ∨ v.ownBlock = some q) w w4 := (Fr.of_below HB.out _).trans (HF4.out.mono HB.out.size fun q _ e => .inl e)
    have h2 := h1.trans (Fr.of_below (HB5.out.mono h1.size) _)
    exact (h2.trans (hf6.drew.mono h2.size fun q hq e => by omega))
theorem refDo_any (h : RbAt w pm v l) (a : Act11) (hl : l.length ≤ 1000000) :
    Calls Try.prog 23 #[.pointer (some ⟨pm, 0, none⟩), .agg #[.int .i64 a.kind, .int .i64 a.n, .int .i64 a.m, .int .i64 a.k, .int .i64 a.j.id, .int .i64 a.j.queue, .int .i64 a.j.prio, .int .i64 a.j.runtime, .int .i64 a.j.shape.gpus, .int .i64 a.j.shape.cpus, .int .i64 a.j.shape.mn, .int .i64 a.j.shape.mx]] w (RbDo pm v (doRef l a) w) := by
  by_cases h0 : a.kind = 0
  · exact refDo0 h a hl h0
  by_cases h1 : a.kind = 1
  · exact refDo1 h a hl h1
  by_cases h2 : a.kind = 2
  · exact refDo2 h a hl h2
  by_cases h3 : a.kind = 3
  · exact refDo3 h a hl h3
  · exact refDo4 h a hl ⟨h0, h1, h2, h3⟩
end Go.Proofs.Ytaopekoehaccbaa
