/-
  gang's with, to.
-/
import Derived.Test.YtaopekoehaccbaaGangCl2
set_option linter.unusedVariables false
set_option linter.unusedSimpArgs false
namespace Go.Proofs.Ytaopekoehaccbaa
open Go.RowKit Go.Maps

theorem intKey : Mp.KeyEnc Try.prog 3 okInt (Value.int .i64) where
  law := int_keyed Try.underlying3
  key := fun k hk => ⟨_, keyOf_int_mk Try.underlying3 hk⟩
  inj := fun a b h => by simpa using h
theorem mapUnder : Try.prog.underlying 68 = some (.map 3 3) := by kernel_rfl

theorem BookAt.look {w : World} {base p M : Nat} {v : Value} {l : List Rc} (h : BookAt w base p M v l) {id : Int} (hid : okInt id) :
    (Instr.lookup 68 (.map (some M)) (.int .i64 id) true).run Try.prog w = .ok (.tuple #[(match findR l id with | some k => .int .i64 (k : Nat) | none => .int .i64 0), .bool (findR l id).isSome]) w := by
  obtain ⟨es, c, m1, m2⟩ := h.map
  have := Mp.lookup_ok (zero := .int .i64 0) intKey mapUnder (fun w => by kernel_rfl) m1 m2 hid
  rw [look_idxR] at this
  rw [this]
  cases findR l id <;> simp

theorem with_none (base p M : Nat) (v : Value) (l : List Rc) (id : Int) (fv : Value) (w : World) (h : BookAt w base p M v l) (hid : okInt id) (hf : findR l id = none) :
    Calls Try.prog 34 #[.pointer (some ⟨p, 0, none⟩), .int .i64 id, fv] w fun e w' => e = .returned (.int .i64 3) ∧ w = w' := by
  have hl := h.look hid
  rw [hf] at hl
  simp only [Option.isSome] at hl
  have c0 : w.cell? ⟨p, 1, none⟩ = some (.map (some M)) := cell_of_block h.head 1
  clear h hf
  go_enter Try.func34, Try.ntmps34
  go_wp2
  go_ret
  exact ⟨rfl, rfl⟩

/-- a Go function of the program, called by its value -/
def Enters (F : FuncId) : Prop := ∀ (args : Array Value) (w : World), (callFunc F args).run Try.prog w = .ok (.enter F args) w
theorem enters_r1 : Enters 30 := fun args w => by kernel_rfl
theorem enters_to1 : Enters 48 := fun args w => by kernel_rfl

theorem with_some (base p M R cap : Nat) (l : List Rc) (id : Int) (F : FuncId) (caps : Array Value) (w : World) (Post : Value → World → Prop) (h : BookAt w base p M (.slice (some ⟨R, 0, none⟩) l.length cap) l) (hid : okInt id) (k : Nat) (hf : findR l id = some k)
    (hl : l.length ≤ 1000000) (hF : Enters F) (hcall : Calls Try.prog F (#[.pointer (some ⟨R, k * 16, none⟩)] ++ caps) w fun e w' => ∃ v, e = .returned v ∧ Post v w') :
    Calls Try.prog 34 #[.pointer (some ⟨p, 0, none⟩), .int .i64 id, .func (.func F) #[] caps] w fun e w' => ∃ v, e = .returned v ∧ Post v w' := by
  obtain ⟨hk, hid2⟩ := findR_some hf
  have hlk := h.look hid
  rw [hf] at hlk
  simp only [Option.isSome] at hlk
  have c0 : w.cell? ⟨p, 1, none⟩ = some (.map (some M)) := cell_of_block h.head 1
  have c1 : w.cell? ⟨p, 0, none⟩ = some (.slice (some ⟨R, 0, none⟩) l.length cap) := cell_of_block h.head 0
  have i0 : (k : Int) < l.length := by omega
  have HC := Lib.hid hcall
  have hcf := hF #[.pointer (some ⟨R, k * 16, none⟩)]
  have hcg := hF (#[.pointer (some ⟨R, k * 16, none⟩)] ++ caps) w
  clear h hf hid2 hcall
  go_enter Try.func34, Try.ntmps34
  go_wp2_with fail
  refine HC.out.mono ?_
  rintro e w1 ⟨v, rfl, hP⟩
  have HP := Lib.hid hP
  clear hP
  go_wp2_with fail
  go_ret
  exact ⟨v, rfl, HP.out⟩
theorem next_q (s ev a b : Int) (w : World) (h : nextF s ev = (a, b)) : Calls Try.prog 10 #[.int .i64 s, .int .i64 ev] w fun e w' => e = .returned (.tuple #[.int .i64 a, .int .i64 b]) ∧ Below w.heap.size w w' :=
  (next_any s ev w).mono fun e w' hp => by
    unfold NextPost at hp
    rw [h] at hp
    exact hp

def To1Post (e0 : Int) (rb : Bool) (Post : World → Prop) (w : World) (e : Ending) (w' : World) : Prop :=
  (e0 ≠ 0 ∧ e = .returned (.int .i64 e0) ∧ Below w.heap.size w w') ∨ (e0 = 0 ∧ rb = false ∧ e = .returned (.int .i64 1) ∧ Below w.heap.size w w') ∨ (e0 = 0 ∧ rb = true ∧ e = .returned (.int .i64 0) ∧ Post w')

set_option maxHeartbeats 2000000 in
theorem to1_any (R o : Nat) (x : Rc) (b1 b2 b3 : Nat) (ev s e0 : Int) (F1 F2 : FuncId) (caps1 caps2 : Array Value) (w : World) (Post : World → Prop) (h : RecAt w R o x) (h1 : w.cell? ⟨b1, 0, none⟩ = some (.int .i64 ev)) (h2 : w.cell? ⟨b2, 0, none⟩ = some (.func (.func F1) #[] caps1))
    (h3 : w.cell? ⟨b3, 0, none⟩ = some (.func (.func F2) #[] caps2)) (n3 : b3 ≠ R) (hn : nextF x.state ev = (s, e0)) (hF1 : Enters F1) (hF2 : Enters F2) (rb : Bool)
    (hright : ∀ y : Later w, Calls Try.prog F1 (#[(.agg #[.int .i64 (Jb.id (Rc.job x)), .int .i64 (Jb.queue (Rc.job x)), .int .i64 (Jb.prio (Rc.job x)), .int .i64 (Jb.runtime (Rc.job x)), .int .i64 (Sh.gpus (Jb.shape (Rc.job x))), .int .i64 (Sh.cpus (Jb.shape (Rc.job x))), .int .i64 (Sh.mn (Jb.shape (Rc.job x))), .int .i64 (Sh.mx (Jb.shape (Rc.job x))), .int .i64 (Rc.state x), .int .i64 (Rc.since x), .int .i64 (Rc.number x), .int .i64 (Rc.members x), .int .i64 (Rc.began x), .int .i64 (Rc.fin x), .int .i64 (Rc.limit x), .int .i64 (Rc.worker x)])] ++ caps1) y.wd fun e w' => e = .returned (.bool rb) ∧ Below y.wd.heap.size y.wd w')
    (hset : e0 = 0 → rb = true → ∀ w1 : World, Below w.heap.size w w1 → Calls Try.prog F2 (#[.pointer (some ⟨R, o, none⟩)] ++ caps2) (w1.setCell ⟨R, o + 8, none⟩ (.int .i64 s)) fun e w' => e = .returned (.tuple #[]) ∧ Post w') :
    Calls Try.prog 48 #[.pointer (some ⟨R, o, none⟩), .pointer (some ⟨b1, 0, none⟩), .pointer (some ⟨b2, 0, none⟩), .pointer (some ⟨b3, 0, none⟩)] w (To1Post e0 rb Post w) := by
  have c0 : w.cell? ⟨R, o, none⟩ = some (.int .i64 x.job.id) := (h 0 (by omega)).1
  have lb1 := World.block_lt_of_cell? w _ h1; have lb2 := World.block_lt_of_cell? w _ h2; have lb3 := World.block_lt_of_cell? w _ h3; have lR := World.block_lt_of_cell? w _ c0
  simp only at lb1 lb2 lb3 lR
  have d8 : ∀ y : Later w, y.wd.cell? ⟨R, o + 8, none⟩ = some (.int .i64 x.state) := fun y => (y.cell lR).trans (h 8 (by omega)).1
  have d1 : ∀ y : Later w, y.wd.cell? ⟨b1, 0, none⟩ = some (.int .i64 ev) := fun y => (y.cell lb1).trans h1
  have H := Lib.hid h; have H2 := Lib.hid h2; have H3 := Lib.hid h3; have HN := Lib.hid hn; have HRt := Lib.hid hright; have HSt := Lib.hid hset
  clear h h1 h2 h3 hn hright hset
  have lR2 := lR
  go_enter Try.func48, Try.ntmps48
  go_wp2_with fail
  refine wp_region_later (by kernel_rfl) (by kernel_rfl) ?_
  repeat (quiet_step (first | (go_at_call 10; exact Calls.later (next_q _ _ _ _ _ HN.out))))
  refine wpQuiet_nil ?_
  rintro w2 ⟨⟨_, hb2⟩, rfl⟩
  have HB2 := Lib.hid hb2
  clear d8 d1 hb2
  by_cases he : e0 = 0
  case neg =>
    have hne : (e0 != 0) = true := by simpa using he
    have HE := Lib.hid he
    clear he
    go_wp2
    go_ret
    exact .inl ⟨HE.out, rfl, HB2.out⟩
  subst he
  have k2 : ∀ y : Later w2, y.wd.cell? ⟨b2, 0, none⟩ = some (.func (.func F1) #[] caps1) := fun y => (y.cell (Nat.lt_of_lt_of_le lb2 HB2.out.size)).trans ((HB2.out.cell (p := ⟨b2, 0, none⟩) lb2).trans H2.out)
  have kk : ∀ j, j < 16 → ∀ y : Later w2, y.wd.cell? ⟨R, o + j, none⟩ = (Rc.cells x)[j]? := fun j hj y => (y.cell (Nat.lt_of_lt_of_le lR HB2.out.size)).trans ((HB2.out.cell (p := ⟨R, o + j, none⟩) lR).trans (H.out j hj).1)
  have r0 : ∀ y : Later w2, y.wd.cell? ⟨R, o, none⟩ = some (.int .i64 x.job.id) := kk 0 (by omega)
  have r1 : ∀ y : Later w2, y.wd.cell? ⟨R, o + 1, none⟩ = some (.int .i64 x.job.queue) := kk 1 (by omega)
  have r2 : ∀ y : Later w2, y.wd.cell? ⟨R, o + 2, none⟩ = some (.int .i64 x.job.prio) := kk 2 (by omega)
  have r3 : ∀ y : Later w2, y.wd.cell? ⟨R, o + 3, none⟩ = some (.int .i64 x.job.runtime) := kk 3 (by omega)
  have r4 : ∀ y : Later w2, y.wd.cell? ⟨R, o + 4, none⟩ = some (.int .i64 x.job.shape.gpus) := kk 4 (by omega)
  have r5 : ∀ y : Later w2, y.wd.cell? ⟨R, o + 5, none⟩ = some (.int .i64 x.job.shape.cpus) := kk 5 (by omega)
  have r6 : ∀ y : Later w2, y.wd.cell? ⟨R, o + 6, none⟩ = some (.int .i64 x.job.shape.mn) := kk 6 (by omega)
  have r7 : ∀ y : Later w2, y.wd.cell? ⟨R, o + 7, none⟩ = some (.int .i64 x.job.shape.mx) := kk 7 (by omega)
  have r8 : ∀ y : Later w2, y.wd.cell? ⟨R, o + 8, none⟩ = some (.int .i64 x.state) := kk 8 (by omega)
  have r9 : ∀ y : Later w2, y.wd.cell? ⟨R, o + 9, none⟩ = some (.int .i64 x.since) := kk 9 (by omega)
  have r10 : ∀ y : Later w2, y.wd.cell? ⟨R, o + 10, none⟩ = some (.int .i64 x.number) := kk 10 (by omega)
  have r11 : ∀ y : Later w2, y.wd.cell? ⟨R, o + 11, none⟩ = some (.int .i64 x.members) := kk 11 (by omega)
  have r12 : ∀ y : Later w2, y.wd.cell? ⟨R, o + 12, none⟩ = some (.int .i64 x.began) := kk 12 (by omega)
  have r13 : ∀ y : Later w2, y.wd.cell? ⟨R, o + 13, none⟩ = some (.int .i64 x.fin) := kk 13 (by omega)
  have r14 : ∀ y : Later w2, y.wd.cell? ⟨R, o + 14, none⟩ = some (.int .i64 x.limit) := kk 14 (by omega)
  have r15 : ∀ y : Later w2, y.wd.cell? ⟨R, o + 15, none⟩ = some (.int .i64 x.worker) := kk 15 (by omega)
  have hcg : ∀ y : Later w2, (callFunc F1 (#[(.agg #[.int .i64 (Jb.id (Rc.job x)), .int .i64 (Jb.queue (Rc.job x)), .int .i64 (Jb.prio (Rc.job x)), .int .i64 (Jb.runtime (Rc.job x)), .int .i64 (Sh.gpus (Jb.shape (Rc.job x))), .int .i64 (Sh.cpus (Jb.shape (Rc.job x))), .int .i64 (Sh.mn (Jb.shape (Rc.job x))), .int .i64 (Sh.mx (Jb.shape (Rc.job x))), .int .i64 (Rc.state x), .int .i64 (Rc.since x), .int .i64 (Rc.number x), .int .i64 (Rc.members x), .int .i64 (Rc.began x), .int .i64 (Rc.fin x), .int .i64 (Rc.limit x), .int .i64 (Rc.worker x)])] ++ caps1)).run Try.prog y.wd = .ok (.enter F1 (#[(.agg #[.int .i64 (Jb.id (Rc.job x)), .int .i64 (Jb.queue (Rc.job x)), .int .i64 (Jb.prio (Rc.job x)), .int .i64 (Jb.runtime (Rc.job x)), .int .i64 (Sh.gpus (Jb.shape (Rc.job x))), .int .i64 (Sh.cpus (Jb.shape (Rc.job x))), .int .i64 (Sh.mn (Jb.shape (Rc.job x))), .int .i64 (Sh.mx (Jb.shape (Rc.job x))), .int .i64 (Rc.state x), .int .i64 (Rc.since x), .int .i64 (Rc.number x), .int .i64 (Rc.members x), .int .i64 (Rc.began x), .int .i64 (Rc.fin x), .int .i64 (Rc.limit x), .int .i64 (Rc.worker x)])] ++ caps1)) y.wd := fun y => hF1 _ _
  have hrt : ∀ y : Later w2, Calls Try.prog F1 (#[(.agg #[.int .i64 (Jb.id (Rc.job x)), .int .i64 (Jb.queue (Rc.job x)), .int .i64 (Jb.prio (Rc.job x)), .int .i64 (Jb.runtime (Rc.job x)), .int .i64 (Sh.gpus (Jb.shape (Rc.job x))), .int .i64 (Sh.cpus (Jb.shape (Rc.job x))), .int .i64 (Sh.mn (Jb.shape (Rc.job x))), .int .i64 (Sh.mx (Jb.shape (Rc.job x))), .int .i64 (Rc.state x), .int .i64 (Rc.since x), .int .i64 (Rc.number x), .int .i64 (Rc.members x), .int .i64 (Rc.began x), .int .i64 (Rc.fin x), .int .i64 (Rc.limit x), .int .i64 (Rc.worker x)])] ++ caps1) y.wd fun e w' => e = .returned (.bool rb) ∧ Below y.wd.heap.size y.wd w' := fun y => HRt.out ⟨y.wd, HB2.out.trans (y.bel.mono HB2.out.size)⟩
  have HRT := Lib.hid hrt
  have lR3 := Nat.lt_of_lt_of_le lR HB2.out.size
  clear kk hrt
  go_wp2_with fail
  refine wp_region_later (by kernel_rfl) (by kernel_rfl) ?_
  repeat (quiet_step (exact Calls.later (HRT.out _)))
  refine wpQuiet_nil ?_
  rintro w3 ⟨⟨_, hb3⟩, rfl⟩
  have HB3 := Lib.hid (HB2.out.trans (hb3.mono HB2.out.size))
  clear k2 r0 r1 r2 r3 r4 r5 r6 r7 r8 r9 r10 r11 r12 r13 r14 r15 hcg hb3
  cases rb with
  | false =>
    go_wp2
    go_ret
    exact .inr (.inl ⟨rfl, rfl, rfl, HB3.out⟩)
  | true =>
    have z0 : w3.cell? ⟨R, o + 8, none⟩ = some (.int .i64 x.state) := (HB3.out.cell (p := ⟨R, o + 8, none⟩) lR).trans (H.out 8 (by omega)).1
    have z1 : w3.frozen? ⟨R, o + 8, none⟩ = false := (HB3.out.frozen (p := ⟨R, o + 8, none⟩) lR).trans (H.out 8 (by omega)).2
    have z2 : w3.cell? ⟨R, o, none⟩ = some (.int .i64 x.job.id) := (HB3.out.cell (p := ⟨R, o, none⟩) lR).trans (H.out 0 (by omega)).1
    have z3 : w3.cell? ⟨b3, 0, none⟩ = some (.func (.func F2) #[] caps2) := (HB3.out.cell (p := ⟨b3, 0, none⟩) lb3).trans H3.out
    have lR4 := Nat.lt_of_lt_of_le lR HB3.out.size
    have hcg2 : ∀ w' : World, (callFunc F2 (#[.pointer (some ⟨R, o, none⟩)] ++ caps2)).run Try.prog w' = .ok (.enter F2 (#[.pointer (some ⟨R, o, none⟩)] ++ caps2)) w' := fun w' => hF2 _ _
    go_wp2_with fail
    refine (HSt.out (by first | rfl | trivial) (by first | rfl | trivial) w3 HB3.out).mono ?_
    rintro e w4 ⟨rfl, hP⟩
    have HP := Lib.hid hP
    clear hP
    go_wp2
    go_ret
    exact .inr (.inr ⟨rfl, rfl, rfl, HP.out⟩)
end Go.Proofs.Ytaopekoehaccbaa
