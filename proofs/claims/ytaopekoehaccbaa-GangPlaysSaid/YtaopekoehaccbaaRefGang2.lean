/-
  The document's book: Start, Resize, Turn.
-/
import Derived.Test.YtaopekoehaccbaaRefGang
set_option linter.unusedVariables false
set_option linter.unusedSimpArgs false
namespace Go.Proofs.Ytaopekoehaccbaa
open Go.RowKit Go.Maps
variable {w w' : World} {pm : Nat} {v : Value} {l : List Rc}
theorem wrap_eqI (n : Int) : IntKind.i64.wrap n = wrap64 n := by first | rfl | (rw [IntKind.wrap_i64]; done) | (rw [IntKind.wrap_i64]; rfl) | (rw [IntKind.wrap_i64]; unfold wrap64; omega)
/-- Start's number, the document's -/
def rStartN (l : List Rc) (id now : Int) : Int := match findR l id with
  | none => 0
  | some k => match l[k]? with
    | none => 0
    | some x => if (rStart now x).1 = 0 then wrap64 (now + x.job.runtime) else 0
theorem rStartN_at {l : List Rc} {id now : Int} {k : Nat} {x : Rc} (h : findR l id = some k) (hk : k < l.length) (hx : l[k] = x) : rStartN l id now = if (rStart now x).1 = 0 then wrap64 (now + x.job.runtime) else 0 := by
  unfold rStartN; rw [h]; simp only [List.getElem?_eq_getElem hk, hx]
theorem rStartN_no {l : List Rc} {id now : Int} (h : findR l id = none) : rStartN l id now = 0 := by unfold rStartN; rw [h]

set_option maxHeartbeats 4000000 in
theorem refStart_any (h : RbAt w pm v l) (id now : Int) (hl : l.length ≤ 1000000) :
    Calls Try.prog 44 #[.pointer (some ⟨pm, 0, none⟩), .int .i64 id, .int .i64 now] w (RbPost pm v (modR l id (rStart now)).2 (.tuple #[.int .i64 (rStartN l id now), .int .i64 (modR l id (rStart now)).1]) w) := by
  have H := Lib.hid h
  have HF := Lib.hid (refFind_any h id hl)
  cases hf : findR l id with
  | none =>
    have HM := Lib.hid (modR_no (rStart now) hf)
    have HV := Lib.hid (show idV l id = -1 by unfold idV; rw [hf])
    have HS := Lib.hid (rStartN_no (now := now) hf)
    rw [HS.out]
    clear h hf
    rw [HM.out]
    go_enter Try.func44, Try.ntmps44
    go_wp2_with fail
    refine HF.out.mono ?_
    rintro e w1 ⟨rfl, rfl⟩
    rw [HV.out]
    go_wp2_with fail
    refine bodyPost_ret (results_tmp2 rfl _ _ _) rfl ?_
    exact RbPost.same H.out _
  | some k =>
    have q0 := cell_of_block h.head 0
    have lp := lt_of_block h.head
    obtain ⟨R, cap, x, rfl, ⟨hk, hx⟩, lR, hpR, hrec⟩ := h.open hf
    have HV := Lib.hid (show idV l id = k by unfold idV; rw [hf])
    have c3 : w.cell? ⟨R, k * 16 + 3, none⟩ = some (.int .i64 x.job.runtime) := (hrec 3 (by omega)).1
    have c8 : w.cell? ⟨R, k * 16 + 8, none⟩ = some (.int .i64 x.state) := (hrec 8 (by omega)).1
    have c12 : w.cell? ⟨R, k * 16 + 12, none⟩ = some (.int .i64 x.began) := (hrec 12 (by omega)).1
    have c13 : w.cell? ⟨R, k * 16 + 13, none⟩ = some (.int .i64 x.fin) := (hrec 13 (by omega)).1
    have c14 : w.cell? ⟨R, k * 16 + 14, none⟩ = some (.int .i64 x.limit) := (hrec 14 (by omega)).1
    have c15 : w.cell? ⟨R, k * 16 + 15, none⟩ = some (.int .i64 x.worker) := (hrec 15 (by omega)).1
    have z8 := (hrec 8 (by omega)).2
    have z12 := (hrec 12 (by omega)).2
    have z13 := (hrec 13 (by omega)).2
    have z14 := (hrec 14 (by omega)).2
    have z15 := (hrec 15 (by omega)).2
    have HKEEP : Hid (∀ e, rStart now x = (e, x) → modR l id (rStart now) = (e, l)) := Lib.hid fun e he => modR_keep _ hf hk (by rw [hx]; exact he)
    have HSET : Hid (∀ y, rStart now x = (0, y) → modR l id (rStart now) = (0, l.set k y)) := Lib.hid fun y hy => by rw [modR_at' _ hf hk, hx, hy]
    have HP : Hid (∀ w' y, RecSet w w' R (k * 16) (fun _ => False) x y → ∀ r, RbPost pm (.slice (some ⟨R, 0, none⟩) l.length cap) (l.set k y) r w (.returned r) w') := Lib.hid fun w' y hs r => RbPost.set h hk (by rw [hx]; exact hs) r
    have HSN : Hid (rStartN l id now = if (rStart now x).1 = 0 then wrap64 (now + x.job.runtime) else 0) := Lib.hid (rStartN_at hf hk hx)
    obtain ⟨n, hn⟩ : ∃ n, l.length = n := ⟨_, rfl⟩
    rw [hn] at q0 hk hl
    have HN := Lib.hid hn
    clear h hf hx hrec hn
    by_cases hs : x.state = 2
    · have hsb : (x.state != 2) = false := by simpa using hs
      by_cases h1 : now < 0
      · have h1b : decide (now < 0) = true := by simpa using h1
        have hres : rStart now x = (1, x) := by unfold rStart; rw [if_neg (by simpa using hs), if_pos (.inl h1)]
        rw [HKEEP.out _ hres, HSN.out, hres, if_neg (by simp)]
        clear hres hs h1
        go_enter Try.func44, Try.ntmps44
        go_wp2_with fail
        refine HF.out.mono ?_
        rintro e w1 ⟨rfl, rfl⟩
        rw [HV.out]
        go_wp2_with fail
        refine bodyPost_ret (results_tmp2 rfl _ _ _) rfl ?_
        exact RbPost.same H.out _
      · have h1b : decide (now < 0) = false := by simpa using h1
        by_cases h2 : 1073741824 < now
        · have h2b : decide ((1073741824 : Int) < now) = true := by simpa using h2
          have hres : rStart now x = (1, x) := by unfold rStart; rw [if_neg (by simpa using hs), if_pos (.inr h2)]
          rw [HKEEP.out _ hres, HSN.out, hres, if_neg (by simp)]
          clear hres hs h1 h2
          go_enter Try.func44, Try.ntmps44
          go_wp2_with fail
          refine HF.out.mono ?_
          rintro e w1 ⟨rfl, rfl⟩
          rw [HV.out]
          go_wp2_with fail
          refine bodyPost_ret (results_tmp2 rfl _ _ _) rfl ?_
          exact RbPost.same H.out _
        · have h2b : decide ((1073741824 : Int) < now) = false := by simpa using h2
          have hres : rStart now x = (0, { x with state := 3, began := now, fin := wrap64 (now + x.job.runtime), limit := 0, worker := 0 }) := by unfold rStart; rw [if_neg (by simpa using hs), if_neg (fun e => e.elim h1 h2)]
          rw [HSET.out _ hres, HSN.out, hres, if_pos rfl]
          clear hres hs h1 h2
          go_enter Try.func44, Try.ntmps44
          go_wp2_with fail
          refine HF.out.mono ?_
          rintro e w1 ⟨rfl, rfl⟩
          rw [HV.out]
          go_wp2_with fail
          refine bodyPost_ret (results_tmp2 rfl _ _ _) rfl ?_
          refine HP.out _ _ ?_ _
          exact (((((RecSet.refl _ R (k * 16) (fun _ => False) x).store (y' := { x with state := 3 }) 8 (by omega) _ rfl).store (y' := { x with state := 3, began := now }) 12 (by omega) _ rfl).store (y' := { x with state := 3, began := now, fin := wrap64 (now + x.job.runtime) }) 13 (by omega) _ rfl).store (y' := { x with state := 3, began := now, fin := wrap64 (now + x.job.runtime), limit := 0 }) 14 (by omega) _ rfl).store 15 (by omega) _ rfl
    · have hsb : (x.state != 2) = true := by simpa using hs
      have hres : rStart now x = (8, x) := by unfold rStart; rw [if_pos hs]
      rw [HKEEP.out _ hres, HSN.out, hres, if_neg (by simp)]
      clear hres hs
      go_enter Try.func44, Try.ntmps44
      go_wp2_with fail
      refine HF.out.mono ?_
      rintro e w1 ⟨rfl, rfl⟩
      rw [HV.out]
      go_wp2_with fail
      refine bodyPost_ret (results_tmp2 rfl _ _ _) rfl ?_
      exact RbPost.same H.out _
theorem rTurn_cases (ev : Int) (x : Rc) : turnF ev x = if (nextF x.state ev).2 ≠ 0 then ((nextF x.state ev).2, x) else (0, { x with state := (nextF x.state ev).1, members := 0, limit := 0, worker := 0 }) := by unfold turnF toF; simp
theorem turnR_out {l : List Rc} {id ev : Int} (h : ev < 3 ∨ 6 < ev) {k : Nat} (hf : findR l id = some k) : turnR l id ev = (1, l) := by unfold turnR; rw [if_pos ⟨by rw [hf]; rfl, by unfold inB; simp; omega⟩]
theorem turnR_in {l : List Rc} {id ev : Int} (h : ¬ (ev < 3 ∨ 6 < ev)) : turnR l id ev = modR l id (turnF ev) := by unfold turnR; rw [if_neg (fun e => by have := e.2; unfold inB at this; simp at this; omega)]
theorem turnR_no {l : List Rc} {id ev : Int} (hf : findR l id = none) : turnR l id ev = (3, l) := by unfold turnR; rw [if_neg (fun e => by have := e.1; rw [hf] at this; simp at this)]; exact modR_no _ hf
set_option maxHeartbeats 4000000 in
theorem refTurn_any (h : RbAt w pm v l) (id ev : Int) (hl : l.length ≤ 1000000) :
    Calls Try.prog 45 #[.pointer (some ⟨pm, 0, none⟩), .int .i64 id, .int .i64 ev] w fun e w' => ∃ w1, Below w.heap.size w w1 ∧ RbPost pm v (turnR l id ev).2 (.int .i64 (turnR l id ev).1) w1 e w' := by
  have H := Lib.hid h
  have HF := Lib.hid (refFind_any h id hl)
  cases hf : findR l id with
  | none =>
    have HM := Lib.hid (turnR_no (ev := ev) hf)
    have HV := Lib.hid (show idV l id = -1 by unfold idV; rw [hf])
    clear h hf
    rw [HM.out]
    go_enter Try.func45, Try.ntmps45
    go_wp2_with fail
    refine HF.out.mono ?_
    rintro e w1 ⟨rfl, rfl⟩
    rw [HV.out]
    go_wp2_with fail
    go_ret
    exact ⟨_, Below.refl _ _, RbPost.same H.out _⟩
  | some k =>
    have HV := Lib.hid (show idV l id = k by unfold idV; rw [hf])
    by_cases h3 : ev < 3 ∨ 6 < ev
    · rw [turnR_out h3 hf]
      by_cases h4 : ev < 3
      · have h4b : decide (ev < 3) = true := by simpa using h4
        clear h hf h3 h4
        go_enter Try.func45, Try.ntmps45
        go_wp2_with fail
        refine HF.out.mono ?_
        rintro e w1 ⟨rfl, rfl⟩
        rw [HV.out]
        go_wp2_with fail
        go_ret
        exact ⟨_, Below.refl _ _, RbPost.same H.out _⟩
      · have h4b : decide (ev < 3) = false := by simpa using h4
        have h5b : decide ((6 : Int) < ev) = true := by simp; omega
        clear h hf h3 h4
        go_enter Try.func45, Try.ntmps45
        go_wp2_with fail
        refine HF.out.mono ?_
        rintro e w1 ⟨rfl, rfl⟩
        rw [HV.out]
        go_wp2_with fail
        go_ret
        exact ⟨_, Below.refl _ _, RbPost.same H.out _⟩
    rw [turnR_in h3]
    have h4b : decide (ev < 3) = false := by simp; omega
    have h5b : decide ((6 : Int) < ev) = false := by simp; omega
    have q0 := cell_of_block h.head 0
    have lp := lt_of_block h.head
    obtain ⟨R, cap, x, rfl, ⟨hk, hx⟩, lR, hpR, hrec⟩ := h.open hf
    have c8 : w.cell? ⟨R, k * 16 + 8, none⟩ = some (.int .i64 x.state) := (hrec 8 (by omega)).1
    have HKEEP : Hid (∀ e, turnF ev x = (e, x) → modR l id (turnF ev) = (e, l)) := Lib.hid fun e he => modR_keep _ hf hk (by rw [hx]; exact he)
    have HSET : Hid (∀ y, turnF ev x = (0, y) → modR l id (turnF ev) = (0, l.set k y)) := Lib.hid fun y hy => by rw [modR_at' _ hf hk, hx, hy]
    obtain ⟨n, hn⟩ : ∃ n, l.length = n := ⟨_, rfl⟩
    have hkl := hk
    rw [hn] at q0 hk hl
    have HN := Lib.hid hn; have HX := Lib.hid hx; have HKL := Lib.hid hkl
    clear h hf hx hrec hn h3
    obtain ⟨s', es, hnx⟩ : ∃ s' es, nextF x.state ev = (s', es) := ⟨_, _, rfl⟩
    have HT := Lib.hid (rTurn_cases ev x)
    have HNX := Lib.hid hnx
    have HC := Lib.hid (refNext_any x.state ev w)
    clear hnx
    by_cases he : es = 0
    · have heb : (es != 0) = false := by simpa using he
      have HY := Lib.hid (HSET.out { x with state := s', members := 0, limit := 0, worker := 0 } (by rw [HT.out, HNX.out, if_neg (by simpa using he)]))
      clear he
      rw [HY.out]
      go_enter Try.func45, Try.ntmps45
      go_wp2_with fail
      refine HF.out.mono ?_
      rintro e w1 ⟨rfl, rfl⟩
      rw [HV.out]
      go_wp2_with fail
      refine HC.out.mono ?_
      rintro e w2 ⟨rfl, hb2⟩
      rw [HNX.out]
      have H2 := Lib.hid (H.out.later hb2)
      obtain ⟨R', cap', cs, hv, _, hbk, hc⟩ := H2.out.row HKL.out
      simp only [Value.slice.injEq, Option.some.injEq, Addr.mk.injEq, and_true, true_and] at hv
      obtain ⟨rfl, -⟩ := hv
      have hrec := H2.out.recAt HKL.out
      rw [HX.out] at hrec
      have q2 := cell_of_block H2.out.head 0
      rw [HN.out] at q2
      have lp2 := lt_of_block H2.out.head
      have lR2 := lt_of_block hbk
      have c8 : w2.cell? ⟨R, k * 16 + 8, none⟩ = some (.int .i64 x.state) := (hrec 8 (by omega)).1
      have c11 : w2.cell? ⟨R, k * 16 + 11, none⟩ = some (.int .i64 x.members) := (hrec 11 (by omega)).1
      have c14 : w2.cell? ⟨R, k * 16 + 14, none⟩ = some (.int .i64 x.limit) := (hrec 14 (by omega)).1
      have c15 : w2.cell? ⟨R, k * 16 + 15, none⟩ = some (.int .i64 x.worker) := (hrec 15 (by omega)).1
      have z8 := (hrec 8 (by omega)).2; have z11 := (hrec 11 (by omega)).2; have z14 := (hrec 14 (by omega)).2; have z15 := (hrec 15 (by omega)).2
      have HB2 := Lib.hid hb2
      clear hb2 hc hbk hrec
      go_wp2_with fail
      go_ret
      refine ⟨w2, HB2.out, RbPost.set H2.out HKL.out ?_ _⟩
      rw [HX.out]
      exact ((((RecSet.refl _ R (k * 16) (fun _ => False) x).store (y' := { x with state := s' }) 8 (by omega) _ rfl).store (y' := { x with state := s', members := 0 }) 11 (by omega) _ rfl).store (y' := { x with state := s', members := 0, limit := 0 }) 14 (by omega) _ rfl).store 15 (by omega) _ rfl
    · have heb : (es != 0) = true := by simpa using he
      have HY := Lib.hid (HKEEP.out es (by rw [HT.out, HNX.out, if_pos he]))
      clear he
      rw [HY.out]
      go_enter Try.func45, Try.ntmps45
      go_wp2_with fail
      refine HF.out.mono ?_
      rintro e w1 ⟨rfl, rfl⟩
      rw [HV.out]
      go_wp2_with fail
      refine HC.out.mono ?_
      rintro e w2 ⟨rfl, hb2⟩
      rw [HNX.out]
      have HB2 := Lib.hid hb2
      have H2 := Lib.hid (H.out.later hb2)
      clear hb2
      go_wp2_with fail
      go_ret
      exact ⟨w2, HB2.out, RbPost.same H2.out _⟩
end Go.Proofs.Ytaopekoehaccbaa
