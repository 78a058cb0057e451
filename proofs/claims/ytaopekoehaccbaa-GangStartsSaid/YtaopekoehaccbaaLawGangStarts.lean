/-
  The law GangStarts.
-/
import Derived.Test.YtaopekoehaccbaaGangBook
import Derived.Test.YtaopekoehaccbaaGangAwake
set_option linter.unusedVariables false
set_option linter.unusedSimpArgs false
namespace Go.Proofs.Ytaopekoehaccbaa
open Go.RowKit Go.Maps

/-- the one record -/
def rS (j : Jb) (st members limit worker began fin : Int) : Rc := ⟨j, st, 0, 1, members, began, fin, limit, worker⟩
theorem findR_one (r : Rc) (id : Int) (h : r.job.id = id) : findR [r] id = some 0 := by simp [findR, h]
theorem modR_one (r : Rc) (id : Int) (h : r.job.id = id) (f : Rc → Int × Rc) : modR [r] id f = ((f r).1, [(f r).2]) := by
  simp only [modR, findR_one r id h]
  rfl
theorem modR_rS (j : Jb) (st m li wo be fi : Int) (f : Rc → Int × Rc) : modR [rS j st m li wo be fi] j.id f = ((f (rS j st m li wo be fi)).1, [(f (rS j st m li wo be fi)).2]) := modR_one (rS j st m li wo be fi) j.id rfl f
theorem starts_add (j : Jb) : addR [] j 0 = ((rS j 1 0 0 0 0 0, 0), [rS j 1 0 0 0 0 0]) := rfl
theorem nx11 : nextF 1 1 = (2, 0) := rfl
theorem nx22 : nextF 2 2 = (3, 0) := rfl
theorem nx34 : nextF 3 4 = (4, 0) := rfl
theorem nx46 : nextF 4 6 = (0, 8) := rfl
theorem starts_reserve (j : Jb) (m : Int) (h : inB m j.shape.mn j.shape.mx = true) : modR [rS j 1 0 0 0 0 0] j.id (reserveF m 3 1) = (0, [rS j 2 m 3 1 0 0]) := by
  rw [modR_rS]
  unfold reserveF toF
  rw [show (rS j 1 0 0 0 0 0).state = 1 from rfl, nx11, if_neg (by simp), if_neg (by simp [rS, h])]
  rfl
theorem starts_startF (j : Jb) (m now : Int) (h : inB now 0 1073741824 = true) : startF now (rS j 2 m 3 1 0 0) = (0, rS j 3 m 0 0 now (IntKind.i64.wrap (now + j.runtime))) := by
  unfold startF toF
  rw [show (rS j 2 m 3 1 0 0).state = 2 from rfl, nx22, if_neg (by simp), if_neg (by simp [h])]
  rfl
theorem starts_start (j : Jb) (m now : Int) (h : inB now 0 1073741824 = true) : modR [rS j 2 m 3 1 0 0] j.id (startF now) = (0, [rS j 3 m 0 0 now (IntKind.i64.wrap (now + j.runtime))]) := by
  rw [modR_rS, starts_startF j m now h]
theorem starts_startN (j : Jb) (m now : Int) (h : inB now 0 1073741824 = true) : startN [rS j 2 m 3 1 0 0] j.id now = IntKind.i64.wrap (now + j.runtime) := by
  unfold startN
  simp only [findR_one (rS j 2 m 3 1 0 0) j.id rfl, List.getElem?_cons_zero, starts_startF j m now h, if_true]
  rfl
theorem starts_resize (j : Jb) (m b now e : Int) (hb : b = 1 ∨ b = -1) (hm : 0 ≤ m ∧ m ≤ 1000) : modR [rS j 3 m 0 0 now e] j.id (fun x => resizeF x b) = if inB (m + b) j.shape.mn j.shape.mx = true then (0, [rS j 3 (m + b) 0 0 now e]) else (1, [rS j 3 m 0 0 now e]) := by
  rw [modR_rS]
  have hw : IntKind.i64.wrap (m + b) = m + b := by rw [wrap_eq]; unfold wrap64; omega
  unfold resizeF
  rw [if_neg (by simp [rS]), if_neg (by omega)]
  simp only [rS, hw]
  cases inB (m + b) j.shape.mn j.shape.mx <;> rfl
theorem starts_get (r : Rc) (id : Int) (h : r.job.id = id) : getR [r] id = (r, 0) := by
  unfold getR
  simp only [findR_one r id h, List.getElem?_cons_zero]
theorem starts_finish (j : Jb) (m now e : Int) : turnR [rS j 3 m 0 0 now e] j.id 4 = (0, [rS j 4 0 0 0 now e]) := by
  unfold turnR
  rw [if_neg (by simp [inB]), modR_rS]
  unfold turnF toF
  rw [show (rS j 3 m 0 0 now e).state = 3 from rfl, nx34, if_neg (by simp), if_neg (by simp)]
  rfl
theorem starts_cancel (j : Jb) (m now e : Int) : (turnR [rS j 4 m 0 0 now e] j.id 6).1 = 8 := by
  unfold turnR
  rw [if_neg (by simp [inB]), modR_rS]
  unfold turnF toF
  rw [show (rS j 4 m 0 0 now e).state = 4 from rfl, nx46, if_pos (by simp)]

set_option maxRecDepth 100000 in
set_option maxHeartbeats 4000000 in
theorem gangStarts_walk (j : Jb) (wj : j.wf) (members : Int) (_ : (Lit.int .i64 members).wf = true) (now : Int) (_ : (Lit.int .i64 now).wf = true) (v : Value) (xs : List Bool) (W : World) (s : Rd.SliceOf W v 1 Bo.cells xs) (_ : ∀ x ∈ xs, Bo.wf x) :
    Calls Try.prog 4 #[(.agg #[.int .i64 (Jb.id j), .int .i64 (Jb.queue j), .int .i64 (Jb.prio j), .int .i64 (Jb.runtime j), .int .i64 (Sh.gpus (Jb.shape j)), .int .i64 (Sh.cpus (Jb.shape j)), .int .i64 (Sh.mn (Jb.shape j)), .int .i64 (Sh.mx (Jb.shape j))]), .int .i64 members, .int .i64 now, v] W fun e w' => e = .returned (.bool true) ∧ Below W.heap.size W w' := by
  obtain ⟨a0, cap0, hv0⟩ := s.form
  obtain ⟨n, hn⟩ : ∃ n, xs.length = n := ⟨_, rfl⟩
  have HS := Lib.hid s; have HN := Lib.hid hn
  rw [hn] at hv0
  subst hv0
  clear s hn
  by_cases hgood : 1 ≤ j.shape.mn ∧ j.shape.mx ≤ 1000 ∧ j.shape.mn ≤ members ∧ members ≤ j.shape.mx ∧ 0 ≤ now ∧ now ≤ 1073741824 ∧ 0 ≤ j.runtime ∧ j.runtime ≤ 1073741824 ∧ (n : Int) ≤ 60
  · obtain ⟨g1, g2, g3, g4, g5, g6, g7, g8, g9⟩ := hgood
    go_enter Try.func4, Try.ntmps4
    go_wp2_with fail
    refine (awake_any _).mono ?_
    rintro e w1 ⟨rfl, hb1⟩
    have K1 := ((Kept.start W).new #[.int .i64 (Jb.id j), .int .i64 (Jb.queue j), .int .i64 (Jb.prio j), .int .i64 (Jb.runtime j), .int .i64 (Sh.gpus (Jb.shape j)), .int .i64 (Sh.cpus (Jb.shape j)), .int .i64 (Sh.mn (Jb.shape j)), .int .i64 (Sh.mx (Jb.shape j))] 33).later hb1
    clear hb1
    have q := K1.cells 0 rfl; have l := K1.lt 0 rfl
    try simp only [World.size_alloc] at q l
    go_wp2_with fail
    have K2 := K1.new #[.int .i64 j.shape.gpus, .int .i64 j.shape.cpus, .int .i64 j.shape.mn, .int .i64 j.shape.mx] 31
    refine (GK.start K2).mono ?_
    rintro e w2 ⟨p, rfl, G2⟩
    clear q l K1 K2
    have q0 := G2.kept.cells 0 rfl; have l0 := G2.kept.lt 0 rfl
    have q1 := G2.kept.cells 1 rfl; have l1 := G2.kept.lt 1 rfl
    have HG := Lib.hid G2
    clear G2
    go_wp2_with fail
    refine (HG.out.add j 0 wj.1 (by simp)).mono ?_
    rintro e w3 ⟨rfl, G3⟩
    rw [starts_add] at G3 ⊢
    have G3 := G3.new #[.int .i64 (Jb.id (Rc.job ((rS j 1 0 0 0 0 0)))), .int .i64 (Jb.queue (Rc.job ((rS j 1 0 0 0 0 0)))), .int .i64 (Jb.prio (Rc.job ((rS j 1 0 0 0 0 0)))), .int .i64 (Jb.runtime (Rc.job ((rS j 1 0 0 0 0 0)))), .int .i64 (Sh.gpus (Jb.shape (Rc.job ((rS j 1 0 0 0 0 0))))), .int .i64 (Sh.cpus (Jb.shape (Rc.job ((rS j 1 0 0 0 0 0))))), .int .i64 (Sh.mn (Jb.shape (Rc.job ((rS j 1 0 0 0 0 0))))), .int .i64 (Sh.mx (Jb.shape (Rc.job ((rS j 1 0 0 0 0 0))))), .int .i64 (Rc.state ((rS j 1 0 0 0 0 0))), .int .i64 (Rc.since ((rS j 1 0 0 0 0 0))), .int .i64 (Rc.number ((rS j 1 0 0 0 0 0))), .int .i64 (Rc.members ((rS j 1 0 0 0 0 0))), .int .i64 (Rc.began ((rS j 1 0 0 0 0 0))), .int .i64 (Rc.fin ((rS j 1 0 0 0 0 0))), .int .i64 (Rc.limit ((rS j 1 0 0 0 0 0))), .int .i64 (Rc.worker ((rS j 1 0 0 0 0 0)))] 38
    have HG3 := Lib.hid G3
    clear q0 q1 l0 l1 HG
    have q0 := G3.kept.cells 1 rfl; have l0 := G3.kept.lt 1 rfl
    have q1 := G3.kept.cells 2 rfl; have l1 := G3.kept.lt 2 rfl
    clear G3
    have hin1 : inB members j.shape.mn j.shape.mx = true := by simp [inB, g3, g4]
    have hin2 : inB now 0 1073741824 = true := by simp [inB, g5, g6]
    have hw : IntKind.i64.wrap (now + j.runtime) = now + j.runtime := by rw [wrap_eq]; unfold wrap64; omega
    have E1 := Lib.hid (starts_reserve j members hin1)
    have E2 := Lib.hid (show modR [rS j 2 members 3 1 0 0] j.id (startF now) = (0, [rS j 3 members 0 0 now (now + j.runtime)]) by rw [starts_start j members now hin2, hw])
    have E3 := Lib.hid (show startN [rS j 2 members 3 1 0 0] j.id now = now + j.runtime by rw [starts_startN j members now hin2, hw])
    clear hin1 hin2 hw
    go_wp2_with fail
    refine (HG3.out.reserve j.id members 3 1 wj.1 (by simp)).mono ?_
    rintro e w4 ⟨rfl, G4⟩
    rw [E1.out] at G4 ⊢
    have HG4 := Lib.hid G4
    clear q0 q1 l0 l1 HG3
    have q0 := G4.kept.cells 1 rfl; have l0 := G4.kept.lt 1 rfl
    have q1 := G4.kept.cells 2 rfl; have l1 := G4.kept.lt 2 rfl
    clear G4
    go_wp2_with fail
    refine (HG4.out.begin j.id now wj.1 (by simp)).mono ?_
    rintro e w5 ⟨rfl, G5⟩
    rw [E2.out, E3.out] at *
    have HG5 := Lib.hid G5
    clear q0 q1 l0 l1 HG4
    have q0 := G5.kept.cells 1 rfl; have l0 := G5.kept.lt 1 rfl
    have q1 := G5.kept.cells 2 rfl; have l1 := G5.kept.lt 2 rfl
    clear G5
    go_wp2_with fail
    clear q0 q1 l0 l1
    have HI := Lib.hid (show j.shape.mn ≤ members ∧ members ≤ j.shape.mx from ⟨g3, g4⟩)
    go_loopw [15, 16] (fun nv i wr => ∃ (k : Nat) (m : Int), nv = .int .i64 m ∧ k ≤ n ∧ i = .int .i64 k ∧ j.shape.mn ≤ m ∧ m ≤ j.shape.mx ∧ GK W wr p [rS j 3 m 0 0 now (now + j.runtime)] [(w3.heap.size, #[.int .i64 (Jb.id (Rc.job ((rS j 1 0 0 0 0 0)))), .int .i64 (Jb.queue (Rc.job ((rS j 1 0 0 0 0 0)))), .int .i64 (Jb.prio (Rc.job ((rS j 1 0 0 0 0 0)))), .int .i64 (Jb.runtime (Rc.job ((rS j 1 0 0 0 0 0)))), .int .i64 (Sh.gpus (Jb.shape (Rc.job ((rS j 1 0 0 0 0 0))))), .int .i64 (Sh.cpus (Jb.shape (Rc.job ((rS j 1 0 0 0 0 0))))), .int .i64 (Sh.mn (Jb.shape (Rc.job ((rS j 1 0 0 0 0 0))))), .int .i64 (Sh.mx (Jb.shape (Rc.job ((rS j 1 0 0 0 0 0))))), .int .i64 (Rc.state ((rS j 1 0 0 0 0 0))), .int .i64 (Rc.since ((rS j 1 0 0 0 0 0))), .int .i64 (Rc.number ((rS j 1 0 0 0 0 0))), .int .i64 (Rc.members ((rS j 1 0 0 0 0 0))), .int .i64 (Rc.began ((rS j 1 0 0 0 0 0))), .int .i64 (Rc.fin ((rS j 1 0 0 0 0 0))), .int .i64 (Rc.limit ((rS j 1 0 0 0 0 0))), .int .i64 (Rc.worker ((rS j 1 0 0 0 0 0)))], 38), (w1.heap.size, #[.int .i64 j.shape.gpus, .int .i64 j.shape.cpus, .int .i64 j.shape.mn, .int .i64 j.shape.mx], 31), (W.heap.size, #[.int .i64 (Jb.id j), .int .i64 (Jb.queue j), .int .i64 (Jb.prio j), .int .i64 (Jb.runtime j), .int .i64 (Sh.gpus (Jb.shape j)), .int .i64 (Sh.cpus (Jb.shape j)), .int .i64 (Sh.mn (Jb.shape j)), .int .i64 (Sh.mx (Jb.shape j))], 33)]) (fun _ i _ => n - (intOf i).toNat)
    case atStart => exact ⟨0, members, rfl, Nat.zero_le _, rfl, HI.out.1, HI.out.2, HG5.out⟩
    case round =>
      obtain ⟨k, m, rfl, hk, rfl, hm1, hm2, GR⟩ := hrel
      have HGR := Lib.hid GR
      have q0 := GR.kept.cells 1 rfl; have l0 := GR.kept.lt 1 rfl
      have q1 := GR.kept.cells 2 rfl; have l1 := GR.kept.lt 2 rfl
      have HBW := Lib.hid GR.below
      clear GR
      by_cases hlt : k < n
      · have hlq : k < xs.length := by rw [HN.out]; exact hlt
        obtain ⟨x, hx⟩ : ∃ x, xs[k] = x := ⟨_, rfl⟩
        obtain ⟨b, off, cap3, hv, _, _, hb, hcell⟩ := HS.out.plain (by intro e; rw [e] at hlq; simp at hlq) (by intro x _; simp [Bo.cells])
        simp only [Value.slice.injEq] at hv
        obtain ⟨rfl, -, rfl⟩ := hv
        have hc := hcell k hlq 0 (by simp [Bo.cells])
        simp only [Nat.mul_one, Nat.add_zero, hx, Bo.cells, List.getElem_cons_zero] at hc
        have c0 : wr.cell? ⟨b, off + k, none⟩ = some (.bool x) := (HBW.out.cell (p := ⟨b, off + k, none⟩) hb).trans hc
        clear hcell hx hc
        cases x with
        | true =>
          by_cases hi : m + 1 ≤ j.shape.mx
          · have hI : inB (m + 1) j.shape.mn j.shape.mx = true := by simp [inB]; omega
            have E5 := Lib.hid (show modR [rS j 3 m 0 0 now (now + j.runtime)] j.id (fun x => resizeF x (1)) = (0, [rS j 3 (m + 1) 0 0 now (now + j.runtime)]) by rw [starts_resize j m _ now (now + j.runtime) (by decide) (by omega), hI]; rfl)
            clear hI
            go_wp2_with fail
            refine (HGR.out.resize j.id (1) wj.1 (by simp)).mono ?_
            rintro e w6 ⟨rfl, G6⟩
            rw [E5.out] at G6 ⊢
            have HG6 := Lib.hid G6
            clear G6 q0 q1 l0 l1 c0
            go_wp2
            refine ⟨⟨k + 1, m + 1, by first | rfl | (congr 1; omega), by omega, by go_num, by omega, by omega, HG6.out⟩, by simp [intOf]; omega⟩
          · have hI : inB (m + 1) j.shape.mn j.shape.mx = false := by simp [inB]; omega
            have E5 := Lib.hid (show modR [rS j 3 m 0 0 now (now + j.runtime)] j.id (fun x => resizeF x (1)) = (1, [rS j 3 (m) 0 0 now (now + j.runtime)]) by rw [starts_resize j m _ now (now + j.runtime) (by decide) (by omega), hI]; rfl)
            clear hI
            go_wp2_with fail
            refine (HGR.out.resize j.id (1) wj.1 (by simp)).mono ?_
            rintro e w6 ⟨rfl, G6⟩
            rw [E5.out] at G6 ⊢
            have HG6 := Lib.hid G6
            clear G6 q0 q1 l0 l1 c0
            go_wp2
            refine ⟨⟨k + 1, m, by first | rfl | (congr 1; omega), by omega, by go_num, by omega, by omega, HG6.out⟩, by simp [intOf]; omega⟩
        | false =>
          by_cases hi : j.shape.mn ≤ m + -1
          · have hI : inB (m + -1) j.shape.mn j.shape.mx = true := by simp [inB]; omega
            have E5 := Lib.hid (show modR [rS j 3 m 0 0 now (now + j.runtime)] j.id (fun x => resizeF x (-1)) = (0, [rS j 3 (m + -1) 0 0 now (now + j.runtime)]) by rw [starts_resize j m _ now (now + j.runtime) (by decide) (by omega), hI]; rfl)
            clear hI
            go_wp2_with fail
            refine (HGR.out.resize j.id (-1) wj.1 (by simp)).mono ?_
            rintro e w6 ⟨rfl, G6⟩
            rw [E5.out] at G6 ⊢
            have HG6 := Lib.hid G6
            clear G6 q0 q1 l0 l1 c0
            go_wp2
            refine ⟨⟨k + 1, m + -1, by first | rfl | (congr 1; omega), by omega, by go_num, by omega, by omega, HG6.out⟩, by simp [intOf]; omega⟩
          · have hI : inB (m + -1) j.shape.mn j.shape.mx = false := by simp [inB]; omega
            have E5 := Lib.hid (show modR [rS j 3 m 0 0 now (now + j.runtime)] j.id (fun x => resizeF x (-1)) = (1, [rS j 3 (m) 0 0 now (now + j.runtime)]) by rw [starts_resize j m _ now (now + j.runtime) (by decide) (by omega), hI]; rfl)
            clear hI
            go_wp2_with fail
            refine (HGR.out.resize j.id (-1) wj.1 (by simp)).mono ?_
            rintro e w6 ⟨rfl, G6⟩
            rw [E5.out] at G6 ⊢
            have HG6 := Lib.hid G6
            clear G6 q0 q1 l0 l1 c0
            go_wp2
            refine ⟨⟨k + 1, m, by first | rfl | (congr 1; omega), by omega, by go_num, by omega, by omega, HG6.out⟩, by simp [intOf]; omega⟩
      · obtain rfl : k = n := by omega
        clear hlt hk
        go_wp2_with fail
        refine (HGR.out.get j.id wj.1 (by simp)).mono ?_
        rintro e w6 ⟨rfl, G6⟩
        have hG6 := G6
        rw [starts_get (rS j 3 m 0 0 now (now + j.runtime)) j.id rfl]
        simp only [rS]
        have G6 := G6.new #[.int .i64 j.id, .int .i64 j.queue, .int .i64 j.prio, .int .i64 j.runtime, .int .i64 j.shape.gpus, .int .i64 j.shape.cpus, .int .i64 j.shape.mn, .int .i64 j.shape.mx, .int .i64 3, .int .i64 0, .int .i64 1, .int .i64 m, .int .i64 now, .int .i64 (now + j.runtime), .int .i64 0, .int .i64 0] 38
        have HG6 := Lib.hid G6
        have HBW6 := Lib.hid (show W.heap.size ≤ w6.heap.size from hG6.kept.size)
        have HN6 := Lib.hid hG6.fresh
        clear q0 q1 l0 l1 HGR hG6
        have q0 := G6.kept.cells 3 rfl; have l0 := G6.kept.lt 3 rfl
        have q1 := G6.kept.cells 0 rfl; have l1 := G6.kept.lt 0 rfl
        clear G6
        go_wp2_with fail
        refine (HG6.out.turn j.id 4 wj.1 (by simp)).mono ?_
        rintro e w7 ⟨rfl, G7⟩
        rw [starts_finish] at G7 ⊢
        have HG7 := Lib.hid G7
        clear q0 q1 l0 l1 HG6
        have q0 := G7.kept.cells 3 rfl; have l0 := G7.kept.lt 3 rfl
        clear G7
        go_wp2_with fail
        refine (HG7.out.get j.id wj.1 (by simp)).mono ?_
        rintro e w8 ⟨rfl, G8⟩
        rw [starts_get (rS j 4 0 0 0 now (now + j.runtime)) j.id rfl]
        simp only [rS]
        have HG8 := Lib.hid G8
        clear q0 l0 HG7
        have q0 := G8.kept.cells 3 rfl; have l0 := G8.kept.lt 3 rfl
        have q1 := G8.kept.cells 0 rfl; have l1 := G8.kept.lt 0 rfl; have f1 := G8.kept.frozen 0 rfl
        clear G8
        go_wp2_with fail
        refine calls_store16 (x := rS j 4 0 0 0 now (now + j.runtime)) (z := rS j 3 m 0 0 now (now + j.runtime)) (HG8.out.kept.blk _ (List.mem_cons_self ..)) fun w9 h9 f9 => ?_
        have G9 := HG8.out.over f9 h9 HBW6.out HN6.out
        clear q0 q1 l0 l1 f1 f9 h9 HG8
        have q0 : w9.cell? ⟨W.heap.size, 0, none⟩ = some (.int .i64 j.id) := G9.kept.cells 3 rfl 0
        have q1 : w9.cell? ⟨w6.heap.size, 11, none⟩ = some (.int .i64 0) := G9.kept.cells 0 rfl 11
        have l0 := G9.kept.lt 3 rfl; have l1 := G9.kept.lt 0 rfl
        have HG9 := Lib.hid G9
        clear G9
        refine (over_any _ _).mono ?_
        rintro e w10 ⟨rfl, rfl⟩
        rw [show inB 4 4 6 = true from rfl]
        go_wp2_with fail
        refine (HG9.out.turn j.id 6 wj.1 (by simp)).mono ?_
        rintro e w11 ⟨rfl, G11⟩
        rw [starts_cancel]
        have HB11 := Lib.hid G11.below
        clear G11
        go_wp2
        go_ret
        exact ⟨rfl, HB11.out⟩
  · go_enter Try.func4, Try.ntmps4
    go_wp2_with fail
    refine (awake_any _).mono ?_
    rintro e w1 ⟨rfl, hb1⟩
    have K1 := ((Kept.start W).new #[.int .i64 (Jb.id j), .int .i64 (Jb.queue j), .int .i64 (Jb.prio j), .int .i64 (Jb.runtime j), .int .i64 (Sh.gpus (Jb.shape j)), .int .i64 (Sh.cpus (Jb.shape j)), .int .i64 (Sh.mn (Jb.shape j)), .int .i64 (Sh.mx (Jb.shape j))] 33).later hb1
    clear hb1
    have q := K1.cells 0 rfl; have l := K1.lt 0 rfl
    try simp only [World.size_alloc] at q l
    have HB := Lib.hid K1.below
    clear K1
    go_wp2_with fail
    all_goals
      go_ret
      exact ⟨rfl, HB.out.alloc HB.out.size _⟩
end Go.Proofs.Ytaopekoehaccbaa
