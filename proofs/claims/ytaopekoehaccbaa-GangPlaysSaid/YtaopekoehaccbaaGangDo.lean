/-
  The law's do.
-/
import Derived.Test.YtaopekoehaccbaaGangBook
set_option linter.unusedVariables false
set_option linter.unusedSimpArgs false
namespace Go.Proofs.Ytaopekoehaccbaa
open Go.RowKit Go.Maps

def doR (l : List Rc) (a : Act11) : (Int × Rc × Int) × List Rc :=
  if a.kind = 0 then ((0, (addR l a.j a.n).1.1, (addR l a.j a.n).1.2), (addR l a.j a.n).2)
  else if a.kind = 1 then ((0, Rc.zero, (modR l a.j.id (reserveF a.n a.m a.k)).1), (modR l a.j.id (reserveF a.n a.m a.k)).2)
  else if a.kind = 2 then ((startN l a.j.id a.n, Rc.zero, (modR l a.j.id (startF a.n)).1), (modR l a.j.id (startF a.n)).2)
  else if a.kind = 3 then ((0, Rc.zero, (turnR l a.j.id a.n).1), (turnR l a.j.id a.n).2)
  else ((0, Rc.zero, (modR l a.j.id (fun x => resizeF x a.n)).1), (modR l a.j.id (fun x => resizeF x a.n)).2)
def DoPost (W w : World) (p : Nat) (l : List Rc) (L : List (Nat × Array Value × TypeId)) (a : Act11) (e : Ending) (w' : World) : Prop :=
  e = .returned (.tuple #[.int .i64 (doR l a).1.1, (.agg #[.int .i64 (Jb.id (Rc.job ((doR l a).1.2.1))), .int .i64 (Jb.queue (Rc.job ((doR l a).1.2.1))), .int .i64 (Jb.prio (Rc.job ((doR l a).1.2.1))), .int .i64 (Jb.runtime (Rc.job ((doR l a).1.2.1))), .int .i64 (Sh.gpus (Jb.shape (Rc.job ((doR l a).1.2.1)))), .int .i64 (Sh.cpus (Jb.shape (Rc.job ((doR l a).1.2.1)))), .int .i64 (Sh.mn (Jb.shape (Rc.job ((doR l a).1.2.1)))), .int .i64 (Sh.mx (Jb.shape (Rc.job ((doR l a).1.2.1)))), .int .i64 (Rc.state ((doR l a).1.2.1)), .int .i64 (Rc.since ((doR l a).1.2.1)), .int .i64 (Rc.number ((doR l a).1.2.1)), .int .i64 (Rc.members ((doR l a).1.2.1)), .int .i64 (Rc.began ((doR l a).1.2.1)), .int .i64 (Rc.fin ((doR l a).1.2.1)), .int .i64 (Rc.limit ((doR l a).1.2.1)), .int .i64 (Rc.worker ((doR l a).1.2.1))]), .int .i64 (doR l a).1.2.2]) ∧ GK W w' p (doR l a).2 L
theorem GK.new1 {W w : World} {p : Nat} {l : List Rc} {L : List (Nat × Array Value × TypeId)} {G : World → Prop} {cs : Array Value} {t : TypeId} (h : GK W w p l L) (K : ∀ w3, GK W w3 p l ((w.heap.size, cs, t) :: L) → G w3) : G (w.alloc (.cells cs t)) := K _ (h.new cs t)
theorem results_3 {P : Program} {fn : Func} {p u u1 : Tmp} {ty : TypeId} (h : fn.results = #[.tmp u1, .cell p ty, .tmp u]) (tmps : Array Value) (w : World) (g : Nat) (t : TypeId) (cs : Array Value) (fr : Nat × Nat) (d : TypeDesc)
    (hu : P.underlying ty = some d) (hd : (match d with | .struct _ | .array _ _ => true | _ => false) = true)
    (hp : tmps.getD p undef = .pointer (some ⟨g, 0, none⟩)) (hg : w.heap[g]? = some (.cells cs t fr)) (hi : (P.info? ty).map (·.size) = some cs.size) :
    (results fn tmps).run P w = .ok (.tuple #[tmps.getD u1 undef, .agg cs, tmps.getD u undef]) w := by
  have hp' : tmps[p]?.getD undef = .pointer (some ⟨g, 0, none⟩) := by simpa using hp
  simp [results, h, Sem.run_bind, Result.andThen, hp', asAddr, run_loadVar_row w g t ty cs fr d hg hu hd hi]
variable {W w w' : World} {p : Nat} {l : List Rc} {L : List (Nat × Array Value × TypeId)}

set_option maxHeartbeats 2000000 in
theorem GK.do1 (h : GK W w p l L) (a : Act11) (hid : okInt a.j.id) (hl : l.length ≤ 1000000) (hk : a.kind = 1) :
    Calls Try.prog 21 #[.pointer (some ⟨p, 0, none⟩), .agg #[.int .i64 a.kind, .int .i64 a.n, .int .i64 a.m, .int .i64 a.k, .int .i64 a.j.id, .int .i64 a.j.queue, .int .i64 a.j.prio, .int .i64 a.j.runtime, .int .i64 a.j.shape.gpus, .int .i64 a.j.shape.cpus, .int .i64 a.j.shape.mn, .int .i64 a.j.shape.mx]] w (DoPost W w p l L a) := by
  have HD := Lib.hid (show doR l a = ((0, Rc.zero, (modR l a.j.id (reserveF a.n a.m a.k)).1), (modR l a.j.id (reserveF a.n a.m a.k)).2) by unfold doR; simp [hk])
  have hfr := (h.new #[.int .i64 a.kind, .int .i64 a.n, .int .i64 a.m, .int .i64 a.k, .int .i64 a.j.id, .int .i64 a.j.queue, .int .i64 a.j.prio, .int .i64 a.j.runtime, .int .i64 a.j.shape.gpus, .int .i64 a.j.shape.cpus, .int .i64 a.j.shape.mn, .int .i64 a.j.shape.mx] 51).fresh
  rw [World.size_alloc] at hfr
  have HN := Lib.hid hfr
  have HW := Lib.hid h.below.size
  clear hfr
  have G1 := (h.new #[.int .i64 a.kind, .int .i64 a.n, .int .i64 a.m, .int .i64 a.k, .int .i64 a.j.id, .int .i64 a.j.queue, .int .i64 a.j.prio, .int .i64 a.j.runtime, .int .i64 a.j.shape.gpus, .int .i64 a.j.shape.cpus, .int .i64 a.j.shape.mn, .int .i64 a.j.shape.mx] 51).new #[.int .i64 (Jb.id (Rc.job (Rc.zero))), .int .i64 (Jb.queue (Rc.job (Rc.zero))), .int .i64 (Jb.prio (Rc.job (Rc.zero))), .int .i64 (Jb.runtime (Rc.job (Rc.zero))), .int .i64 (Sh.gpus (Jb.shape (Rc.job (Rc.zero)))), .int .i64 (Sh.cpus (Jb.shape (Rc.job (Rc.zero)))), .int .i64 (Sh.mn (Jb.shape (Rc.job (Rc.zero)))), .int .i64 (Sh.mx (Jb.shape (Rc.job (Rc.zero)))), .int .i64 (Rc.state (Rc.zero)), .int .i64 (Rc.since (Rc.zero)), .int .i64 (Rc.number (Rc.zero)), .int .i64 (Rc.members (Rc.zero)), .int .i64 (Rc.began (Rc.zero)), .int .i64 (Rc.fin (Rc.zero)), .int .i64 (Rc.limit (Rc.zero)), .int .i64 (Rc.worker (Rc.zero))] 38
  rw [World.size_alloc] at G1
  have hl0 := h.lt
  have HG := Lib.hid G1
  clear h G1
  have hk0 : (a.kind == 0) = false := by simp [hk]
  have hk1 : (a.kind == 1) = true := by simp [hk]
  have hk2 : (a.kind == 2) = false := by simp [hk]
  have hk3 : (a.kind == 3) = false := by simp [hk]
  clear hk
  go_enter Try.func21, Try.ntmps21
  go_wp2_with fail
  refine (HG.out.reserve a.j.id a.n a.m a.k hid hl).mono ?_
  rintro e w1 ⟨rfl, G2⟩
  have HG2 := Lib.hid G2
  clear G2
  have z := HG2.out.kept.cells 0 rfl
  have zf := HG2.out.kept.frozen 0 rfl
  have lz := HG2.out.kept.lt 0 rfl
  go_wp2
  refine store16 (x := Rc.zero) (z := Rc.zero) (HG2.out.kept.blk _ (List.mem_cons_self ..)) fun w2 h2 hf2 => ?_
  have G3 := HG2.out.over hf2 h2 (Nat.le_succ_of_le HW.out) HN.out
  (try simp only [Exit.inBlock, Exit.then])
  refine bodyPost_ret (results_3 rfl _ w2 _ _ _ _ _ recUnder rfl rfl h2 (by kernel_rfl)) rfl ?_
  unfold DoPost
  rw [HD.out]
  exact ⟨rfl, G3.sub (fun x hx => by simp [hx])⟩
set_option maxHeartbeats 2000000 in
theorem GK.do2 (h : GK W w p l L) (a : Act11) (hid : okInt a.j.id) (hl : l.length ≤ 1000000) (hk : a.kind = 2) :
    Calls Try.prog 21 #[.pointer (some ⟨p, 0, none⟩), .agg #[.int .i64 a.kind, .int .i64 a.n, .int .i64 a.m, .int .i64 a.k, .int .i64 a.j.id, .int .i64 a.j.queue, .int .i64 a.j.prio, .int .i64 a.j.runtime, .int .i64 a.j.shape.gpus, .int .i64 a.j.shape.cpus, .int .i64 a.j.shape.mn, .int .i64 a.j.shape.mx]] w (DoPost W w p l L a) := by
  have HD := Lib.hid (show doR l a = ((startN l a.j.id a.n, Rc.zero, (modR l a.j.id (startF a.n)).1), (modR l a.j.id (startF a.n)).2) by unfold doR; simp [hk])
  have hfr := (h.new #[.int .i64 a.kind, .int .i64 a.n, .int .i64 a.m, .int .i64 a.k, .int .i64 a.j.id, .int .i64 a.j.queue, .int .i64 a.j.prio, .int .i64 a.j.runtime, .int .i64 a.j.shape.gpus, .int .i64 a.j.shape.cpus, .int .i64 a.j.shape.mn, .int .i64 a.j.shape.mx] 51).fresh
  rw [World.size_alloc] at hfr
  have HN := Lib.hid hfr
  have HW := Lib.hid h.below.size
  clear hfr
  have G1 := (h.new #[.int .i64 a.kind, .int .i64 a.n, .int .i64 a.m, .int .i64 a.k, .int .i64 a.j.id, .int .i64 a.j.queue, .int .i64 a.j.prio, .int .i64 a.j.runtime, .int .i64 a.j.shape.gpus, .int .i64 a.j.shape.cpus, .int .i64 a.j.shape.mn, .int .i64 a.j.shape.mx] 51).new #[.int .i64 (Jb.id (Rc.job (Rc.zero))), .int .i64 (Jb.queue (Rc.job (Rc.zero))), .int .i64 (Jb.prio (Rc.job (Rc.zero))), .int .i64 (Jb.runtime (Rc.job (Rc.zero))), .int .i64 (Sh.gpus (Jb.shape (Rc.job (Rc.zero)))), .int .i64 (Sh.cpus (Jb.shape (Rc.job (Rc.zero)))), .int .i64 (Sh.mn (Jb.shape (Rc.job (Rc.zero)))), .int .i64 (Sh.mx (Jb.shape (Rc.job (Rc.zero)))), .int .i64 (Rc.state (Rc.zero)), .int .i64 (Rc.since (Rc.zero)), .int .i64 (Rc.number (Rc.zero)), .int .i64 (Rc.members (Rc.zero)), .int .i64 (Rc.began (Rc.zero)), .int .i64 (Rc.fin (Rc.zero)), .int .i64 (Rc.limit (Rc.zero)), .int .i64 (Rc.worker (Rc.zero))] 38
  rw [World.size_alloc] at G1
  have hl0 := h.lt
  have HG := Lib.hid G1
  clear h G1
  have hk0 : (a.kind == 0) = false := by simp [hk]
  have hk1 : (a.kind == 1) = false := by simp [hk]
  have hk2 : (a.kind == 2) = true := by simp [hk]
  have hk3 : (a.kind == 3) = false := by simp [hk]
  clear hk
  go_enter Try.func21, Try.ntmps21
  go_wp2_with fail
  refine (HG.out.begin a.j.id a.n hid hl).mono ?_
  rintro e w1 ⟨rfl, G2⟩
  have HG2 := Lib.hid G2
  clear G2
  have z := HG2.out.kept.cells 0 rfl
  have zf := HG2.out.kept.frozen 0 rfl
  have lz := HG2.out.kept.lt 0 rfl
  go_wp2
  refine store16 (x := Rc.zero) (z := Rc.zero) (HG2.out.kept.blk _ (List.mem_cons_self ..)) fun w2 h2 hf2 => ?_
  have G3 := HG2.out.over hf2 h2 (Nat.le_succ_of_le HW.out) HN.out
  (try simp only [Exit.inBlock, Exit.then])
  refine bodyPost_ret (results_3 rfl _ w2 _ _ _ _ _ recUnder rfl rfl h2 (by kernel_rfl)) rfl ?_
  unfold DoPost
  rw [HD.out]
  exact ⟨rfl, G3.sub (fun x hx => by simp [hx])⟩
set_option maxHeartbeats 2000000 in
theorem GK.do3 (h : GK W w p l L) (a : Act11) (hid : okInt a.j.id) (hl : l.length ≤ 1000000) (hk : a.kind = 3) :
    Calls Try.prog 21 #[.pointer (some ⟨p, 0, none⟩), .agg #[.int .i64 a.kind, .int .i64 a.n, .int .i64 a.m, .int .i64 a.k, .int .i64 a.j.id, .int .i64 a.j.queue, .int .i64 a.j.prio, .int .i64 a.j.runtime, .int .i64 a.j.shape.gpus, .int .i64 a.j.shape.cpus, .int .i64 a.j.shape.mn, .int .i64 a.j.shape.mx]] w (DoPost W w p l L a) := by
  have HD := Lib.hid (show doR l a = ((0, Rc.zero, (turnR l a.j.id a.n).1), (turnR l a.j.id a.n).2) by unfold doR; simp [hk])
  have hfr := (h.new #[.int .i64 a.kind, .int .i64 a.n, .int .i64 a.m, .int .i64 a.k, .int .i64 a.j.id, .int .i64 a.j.queue, .int .i64 a.j.prio, .int .i64 a.j.runtime, .int .i64 a.j.shape.gpus, .int .i64 a.j.shape.cpus, .int .i64 a.j.shape.mn, .int .i64 a.j.shape.mx] 51).fresh
  rw [World.size_alloc] at hfr
  have HN := Lib.hid hfr
  have HW := Lib.hid h.below.size
  clear hfr
  have G1 := (h.new #[.int .i64 a.kind, .int .i64 a.n, .int .i64 a.m, .int .i64 a.k, .int .i64 a.j.id, .int .i64 a.j.queue, .int .i64 a.j.prio, .int .i64 a.j.runtime, .int .i64 a.j.shape.gpus, .int .i64 a.j.shape.cpus, .int .i64 a.j.shape.mn, .int .i64 a.j.shape.mx] 51).new #[.int .i64 (Jb.id (Rc.job (Rc.zero))), .int .i64 (Jb.queue (Rc.job (Rc.zero))), .int .i64 (Jb.prio (Rc.job (Rc.zero))), .int .i64 (Jb.runtime (Rc.job (Rc.zero))), .int .i64 (Sh.gpus (Jb.shape (Rc.job (Rc.zero)))), .int .i64 (Sh.cpus (Jb.shape (Rc.job (Rc.zero)))), .int .i64 (Sh.mn (Jb.shape (Rc.job (Rc.zero)))), .int .i64 (Sh.mx (Jb.shape (Rc.job (Rc.zero)))), .int .i64 (Rc.state (Rc.zero)), .int .i64 (Rc.since (Rc.zero)), .int .i64 (Rc.number (Rc.zero)), .int .i64 (Rc.members (Rc.zero)), .int .i64 (Rc.began (Rc.zero)), .int .i64 (Rc.fin (Rc.zero)), .int .i64 (Rc.limit (Rc.zero)), .int .i64 (Rc.worker (Rc.zero))] 38
  rw [World.size_alloc] at G1
  have hl0 := h.lt
  have HG := Lib.hid G1
  clear h G1
  have hk0 : (a.kind == 0) = false := by simp [hk]
  have hk1 : (a.kind == 1) = false := by simp [hk]
  have hk2 : (a.kind == 2) = false := by simp [hk]
  have hk3 : (a.kind == 3) = true := by simp [hk]
  clear hk
  go_enter Try.func21, Try.ntmps21
  go_wp2_with fail
  refine (HG.out.turn a.j.id a.n hid hl).mono ?_
  rintro e w1 ⟨rfl, G2⟩
  have HG2 := Lib.hid G2
  clear G2
  have z := HG2.out.kept.cells 0 rfl
  have zf := HG2.out.kept.frozen 0 rfl
  have lz := HG2.out.kept.lt 0 rfl
  go_wp2
  refine store16 (x := Rc.zero) (z := Rc.zero) (HG2.out.kept.blk _ (List.mem_cons_self ..)) fun w2 h2 hf2 => ?_
  have G3 := HG2.out.over hf2 h2 (Nat.le_succ_of_le HW.out) HN.out
  (try simp only [Exit.inBlock, Exit.then])
  refine bodyPost_ret (results_3 rfl _ w2 _ _ _ _ _ recUnder rfl rfl h2 (by kernel_rfl)) rfl ?_
  unfold DoPost
  rw [HD.out]
  exact ⟨rfl, G3.sub (fun x hx => by simp [hx])⟩
set_option maxHeartbeats 2000000 in
theorem GK.do4 (h : GK W w p l L) (a : Act11) (hid : okInt a.j.id) (hl : l.length ≤ 1000000) (hk : a.kind ≠ 0 ∧ a.kind ≠ 1 ∧ a.kind ≠ 2 ∧ a.kind ≠ 3) :
    Calls Try.prog 21 #[.pointer (some ⟨p, 0, none⟩), .agg #[.int .i64 a.kind, .int .i64 a.n, .int .i64 a.m, .int .i64 a.k, .int .i64 a.j.id, .int .i64 a.j.queue, .int .i64 a.j.prio, .int .i64 a.j.runtime, .int .i64 a.j.shape.gpus, .int .i64 a.j.shape.cpus, .int .i64 a.j.shape.mn, .int .i64 a.j.shape.mx]] w (DoPost W w p l L a) := by
  have HD := Lib.hid (show doR l a = ((0, Rc.zero, (modR l a.j.id (fun x => resizeF x a.n)).1), (modR l a.j.id (fun x => resizeF x a.n)).2) by unfold doR; simp [hk])
  have hfr := (h.new #[.int .i64 a.kind, .int .i64 a.n, .int .i64 a.m, .int .i64 a.k, .int .i64 a.j.id, .int .i64 a.j.queue, .int .i64 a.j.prio, .int .i64 a.j.runtime, .int .i64 a.j.shape.gpus, .int .i64 a.j.shape.cpus, .int .i64 a.j.shape.mn, .int .i64 a.j.shape.mx] 51).fresh
  rw [World.size_alloc] at hfr
  have HN := Lib.hid hfr
  have HW := Lib.hid h.below.size
  clear hfr
  have G1 := (h.new #[.int .i64 a.kind, .int .i64 a.n, .int .i64 a.m, .int .i64 a.k, .int .i64 a.j.id, .int .i64 a.j.queue, .int .i64 a.j.prio, .int .i64 a.j.runtime, .int .i64 a.j.shape.gpus, .int .i64 a.j.shape.cpus, .int .i64 a.j.shape.mn, .int .i64 a.j.shape.mx] 51).new #[.int .i64 (Jb.id (Rc.job (Rc.zero))), .int .i64 (Jb.queue (Rc.job (Rc.zero))), .int .i64 (Jb.prio (Rc.job (Rc.zero))), .int .i64 (Jb.runtime (Rc.job (Rc.zero))), .int .i64 (Sh.gpus (Jb.shape (Rc.job (Rc.zero)))), .int .i64 (Sh.cpus (Jb.shape (Rc.job (Rc.zero)))), .int .i64 (Sh.mn (Jb.shape (Rc.job (Rc.zero)))), .int .i64 (Sh.mx (Jb.shape (Rc.job (Rc.zero)))), .int .i64 (Rc.state (Rc.zero)), .int .i64 (Rc.since (Rc.zero)), .int .i64 (Rc.number (Rc.zero)), .int .i64 (Rc.members (Rc.zero)), .int .i64 (Rc.began (Rc.zero)), .int .i64 (Rc.fin (Rc.zero)), .int .i64 (Rc.limit (Rc.zero)), .int .i64 (Rc.worker (Rc.zero))] 38
  rw [World.size_alloc] at G1
  have hl0 := h.lt
  have HG := Lib.hid G1
  clear h G1
  have hk0 : (a.kind == 0) = false := by simp [hk]
  have hk1 : (a.kind == 1) = false := by simp [hk]
  have hk2 : (a.kind == 2) = false := by simp [hk]
  have hk3 : (a.kind == 3) = false := by simp [hk]
  clear hk
  go_enter Try.func21, Try.ntmps21
  go_wp2_with fail
  refine (HG.out.resize a.j.id a.n hid hl).mono ?_
  rintro e w1 ⟨rfl, G2⟩
  have HG2 := Lib.hid G2
  clear G2
  have z := HG2.out.kept.cells 0 rfl
  have zf := HG2.out.kept.frozen 0 rfl
  have lz := HG2.out.kept.lt 0 rfl
  go_wp2
  refine store16 (x := Rc.zero) (z := Rc.zero) (HG2.out.kept.blk _ (List.mem_cons_self ..)) fun w2 h2 hf2 => ?_
  have G3 := HG2.out.over hf2 h2 (Nat.le_succ_of_le HW.out) HN.out
  (try simp only [Exit.inBlock, Exit.then])
  refine bodyPost_ret (results_3 rfl _ w2 _ _ _ _ _ recUnder rfl rfl h2 (by kernel_rfl)) rfl ?_
  unfold DoPost
  rw [HD.out]
  exact ⟨rfl, G3.sub (fun x hx => by simp [hx])⟩
set_option maxHeartbeats 2000000 in
theorem GK.do0 (h : GK W w p l L) (a : Act11) (hid : okInt a.j.id) (hl : l.length ≤ 1000000) (hk : a.kind = 0) :
    Calls Try.prog 21 #[.pointer (some ⟨p, 0, none⟩), .agg #[.int .i64 a.kind, .int .i64 a.n, .int .i64 a.m, .int .i64 a.k, .int .i64 a.j.id, .int .i64 a.j.queue, .int .i64 a.j.prio, .int .i64 a.j.runtime, .int .i64 a.j.shape.gpus, .int .i64 a.j.shape.cpus, .int .i64 a.j.shape.mn, .int .i64 a.j.shape.mx]] w (DoPost W w p l L a) := by
  have HD := Lib.hid (show doR l a = ((0, (addR l a.j a.n).1.1, (addR l a.j a.n).1.2), (addR l a.j a.n).2) by unfold doR; simp [hk])
  have hfr := (h.new #[.int .i64 a.kind, .int .i64 a.n, .int .i64 a.m, .int .i64 a.k, .int .i64 a.j.id, .int .i64 a.j.queue, .int .i64 a.j.prio, .int .i64 a.j.runtime, .int .i64 a.j.shape.gpus, .int .i64 a.j.shape.cpus, .int .i64 a.j.shape.mn, .int .i64 a.j.shape.mx] 51).fresh
  rw [World.size_alloc] at hfr
  have HN := Lib.hid hfr
  have HW := Lib.hid h.below.size
  clear hfr
  have G1 := (h.new #[.int .i64 a.kind, .int .i64 a.n, .int .i64 a.m, .int .i64 a.k, .int .i64 a.j.id, .int .i64 a.j.queue, .int .i64 a.j.prio, .int .i64 a.j.runtime, .int .i64 a.j.shape.gpus, .int .i64 a.j.shape.cpus, .int .i64 a.j.shape.mn, .int .i64 a.j.shape.mx] 51).new #[.int .i64 (Jb.id (Rc.job (Rc.zero))), .int .i64 (Jb.queue (Rc.job (Rc.zero))), .int .i64 (Jb.prio (Rc.job (Rc.zero))), .int .i64 (Jb.runtime (Rc.job (Rc.zero))), .int .i64 (Sh.gpus (Jb.shape (Rc.job (Rc.zero)))), .int .i64 (Sh.cpus (Jb.shape (Rc.job (Rc.zero)))), .int .i64 (Sh.mn (Jb.shape (Rc.job (Rc.zero)))), .int .i64 (Sh.mx (Jb.shape (Rc.job (Rc.zero)))), .int .i64 (Rc.state (Rc.zero)), .int .i64 (Rc.since (Rc.zero)), .int .i64 (Rc.number (Rc.zero)), .int .i64 (Rc.members (Rc.zero)), .int .i64 (Rc.began (Rc.zero)), .int .i64 (Rc.fin (Rc.zero)), .int .i64 (Rc.limit (Rc.zero)), .int .i64 (Rc.worker (Rc.zero))] 38
  rw [World.size_alloc] at G1
  have hl0 := h.lt
  have HG := Lib.hid G1
  clear h G1
  have hk0 : (a.kind == 0) = true := by simp [hk]
  have hk1 : (a.kind == 1) = false := by simp [hk]
  have hk2 : (a.kind == 2) = false := by simp [hk]
  have hk3 : (a.kind == 3) = false := by simp [hk]
  clear hk
  go_enter Try.func21, Try.ntmps21
  go_wp2_with fail
  refine (HG.out.add a.j a.n hid hl).mono ?_
  rintro e w1 ⟨rfl, G2⟩
  obtain ⟨⟨⟨r, e0⟩, l2⟩, hadd⟩ : ∃ x, addR l a.j a.n = x := ⟨_, rfl⟩
  have HD2 := Lib.hid (show doR l a = ((0, r, e0), l2) by rw [HD.out, hadd])
  rw [hadd] at G2 ⊢
  clear HD hadd
  have hfr2 := G2.fresh
  have HN2 := Lib.hid hfr2
  have HG2 := Lib.hid G2
  have hb1 : w1.heap.size ≠ w.heap.size + 1 := fun e => hfr2 _ (List.mem_cons_self ..) e.symm
  have HB1 := Lib.hid hb1
  have z0 := G2.kept.cells 0 rfl
  have z0l := G2.kept.lt 0 rfl
  clear G2 hfr2 hb1
  go_wp2_with fail
  refine HG2.out.new1 fun w3 G3 => ?_
  have HG3 := Lib.hid G3
  clear z0 z0l
  have d := G3.kept.cells 0 rfl
  have ld := G3.kept.lt 0 rfl
  have z := G3.kept.cells 1 rfl
  have zf := G3.kept.frozen 1 rfl
  have lz := G3.kept.lt 1 rfl
  clear G3
  have d0 : ∀ y : LaterF w3 (fun q => q = w.heap.size + 1), y.wd.cell? ⟨w1.heap.size, 0, none⟩ = some (.int .i64 r.job.id) := fun y => (y.cell ld HB1.out).trans (d 0)
  have d1 : ∀ y : LaterF w3 (fun q => q = w.heap.size + 1), y.wd.cell? ⟨w1.heap.size, 1, none⟩ = some (.int .i64 r.job.queue) := fun y => (y.cell ld HB1.out).trans (d 1)
  have d2 : ∀ y : LaterF w3 (fun q => q = w.heap.size + 1), y.wd.cell? ⟨w1.heap.size, 2, none⟩ = some (.int .i64 r.job.prio) := fun y => (y.cell ld HB1.out).trans (d 2)
  have d3 : ∀ y : LaterF w3 (fun q => q = w.heap.size + 1), y.wd.cell? ⟨w1.heap.size, 3, none⟩ = some (.int .i64 r.job.runtime) := fun y => (y.cell ld HB1.out).trans (d 3)
  have d4 : ∀ y : LaterF w3 (fun q => q = w.heap.size + 1), y.wd.cell? ⟨w1.heap.size, 4, none⟩ = some (.int .i64 r.job.shape.gpus) := fun y => (y.cell ld HB1.out).trans (d 4)
  have d5 : ∀ y : LaterF w3 (fun q => q = w.heap.size + 1), y.wd.cell? ⟨w1.heap.size, 5, none⟩ = some (.int .i64 r.job.shape.cpus) := fun y => (y.cell ld HB1.out).trans (d 5)
  have d6 : ∀ y : LaterF w3 (fun q => q = w.heap.size + 1), y.wd.cell? ⟨w1.heap.size, 6, none⟩ = some (.int .i64 r.job.shape.mn) := fun y => (y.cell ld HB1.out).trans (d 6)
  have d7 : ∀ y : LaterF w3 (fun q => q = w.heap.size + 1), y.wd.cell? ⟨w1.heap.size, 7, none⟩ = some (.int .i64 r.job.shape.mx) := fun y => (y.cell ld HB1.out).trans (d 7)
  have d8 : ∀ y : LaterF w3 (fun q => q = w.heap.size + 1), y.wd.cell? ⟨w1.heap.size, 8, none⟩ = some (.int .i64 r.state) := fun y => (y.cell ld HB1.out).trans (d 8)
  have d9 : ∀ y : LaterF w3 (fun q => q = w.heap.size + 1), y.wd.cell? ⟨w1.heap.size, 9, none⟩ = some (.int .i64 r.since) := fun y => (y.cell ld HB1.out).trans (d 9)
  have d10 : ∀ y : LaterF w3 (fun q => q = w.heap.size + 1), y.wd.cell? ⟨w1.heap.size, 10, none⟩ = some (.int .i64 r.number) := fun y => (y.cell ld HB1.out).trans (d 10)
  have d11 : ∀ y : LaterF w3 (fun q => q = w.heap.size + 1), y.wd.cell? ⟨w1.heap.size, 11, none⟩ = some (.int .i64 r.members) := fun y => (y.cell ld HB1.out).trans (d 11)
  have d12 : ∀ y : LaterF w3 (fun q => q = w.heap.size + 1), y.wd.cell? ⟨w1.heap.size, 12, none⟩ = some (.int .i64 r.began) := fun y => (y.cell ld HB1.out).trans (d 12)
  have d13 : ∀ y : LaterF w3 (fun q => q = w.heap.size + 1), y.wd.cell? ⟨w1.heap.size, 13, none⟩ = some (.int .i64 r.fin) := fun y => (y.cell ld HB1.out).trans (d 13)
  have d14 : ∀ y : LaterF w3 (fun q => q = w.heap.size + 1), y.wd.cell? ⟨w1.heap.size, 14, none⟩ = some (.int .i64 r.limit) := fun y => (y.cell ld HB1.out).trans (d 14)
  have d15 : ∀ y : LaterF w3 (fun q => q = w.heap.size + 1), y.wd.cell? ⟨w1.heap.size, 15, none⟩ = some (.int .i64 r.worker) := fun y => (y.cell ld HB1.out).trans (d 15)
  have fx0 := (Fr.refl w3.heap.size (fun q => q = w.heap.size + 1) w3).drew
  clear d
  refine Rg.wp_region_pick (by kernel_rfl) [0, 1, 2] [3, 4] 4 (by kernel_rfl) (by kernel_rfl) (by kernel_rfl) (fun w' => ∃ y : LaterF w3 (fun q => q = w.heap.size + 1), w' = y.wd) (fun c a a' w hd h => ⟨hd.symm.trans h.1, h.2⟩) ⟨⟨_, fx0⟩, rfl⟩ ?_
  simp only [Rg.picks, List.getElem?_cons_succ, List.getElem?_cons_zero, Option.toList, List.cons_append, List.nil_append]
  repeat (quiet_step (fail))
  refine wpQuiet_nil ?_
  clear d0 d1 d2 d3 d4 d5 d6 d7 d8 d9 d10 d11 d12 d13 d14 d15
  simp only [Rg.pickn, List.getElem?_cons_succ, List.getElem?_cons_zero, Option.toList, List.map_cons, List.map_nil, List.cons_append, List.nil_append]
  refine Rg.wpN_step (fun K hK => ?_) ⟨⟨_, fx0⟩, rfl⟩
  go_simp
  have hst := store16d_fr (x := r) (z := Rc.zero) (HG3.out.kept.blk _ (List.mem_cons_of_mem _ (List.mem_cons_self ..)))
  refine hK _ _ (fun _ => ⟨⟨_, hst⟩, rfl⟩) ?_
  clear hK K
  refine Rg.wpN_list (by simp) ?_
  simp only [List.map_cons, List.map_nil]
  go_wp2
  refine store16d (x := r) (z := Rc.zero) (HG3.out.kept.blk _ (List.mem_cons_of_mem _ (List.mem_cons_self ..))) fun w2 h2 hf2 => ?_
  have G4 := ((HG3.out.sub (fun x hx => List.mem_cons_of_mem _ hx)).over hf2 h2 (Nat.le_succ_of_le HW.out) HN.out).drew
  (try simp only [Exit.inBlock, Exit.then])
  refine bodyPost_ret (results_3 rfl _ w2.drew _ _ _ _ _ recUnder rfl rfl h2 (by kernel_rfl)) rfl ?_
  unfold DoPost
  rw [HD2.out]
  exact ⟨rfl, G4.sub (fun x hx => by simp [hx])⟩

theorem GK.doAny (h : GK W w p l L) (a : Act11) (hid : okInt a.j.id) (hl : l.length ≤ 1000000) :
    Calls Try.prog 21 #[.pointer (some ⟨p, 0, none⟩), .agg #[.int .i64 a.kind, .int .i64 a.n, .int .i64 a.m, .int .i64 a.k, .int .i64 a.j.id, .int .i64 a.j.queue, .int .i64 a.j.prio, .int .i64 a.j.runtime, .int .i64 a.j.shape.gpus, .int .i64 a.j.shape.cpus, .int .i64 a.j.shape.mn, .int .i64 a.j.shape.mx]] w (DoPost W w p l L a) := by
  by_cases h0 : a.kind = 0
  · exact h.do0 a hid hl h0
  by_cases h1 : a.kind = 1
  · exact h.do1 a hid hl h1
  by_cases h2 : a.kind = 2
  · exact h.do2 a hid hl h2
  by_cases h3 : a.kind = 3
  · exact h.do3 a hid hl h3
  · exact h.do4 a hid hl ⟨h0, h1, h2, h3⟩
end Go.Proofs.Ytaopekoehaccbaa
