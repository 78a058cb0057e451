/-
  queue: a law's queues; the document's Right; awake.
-/
import Derived.Test.YtobdbjkhajinbaaQueue12
set_option linter.unusedVariables false
set_option linter.unusedSimpArgs false
namespace Go.Proofs.Ytobdbjkhajinbaa
open Go.RowKit
/-- the queues of a law that began in W -/
structure QK (W w : World) (base p R M : Nat) (rows : List (List Wt)) (rooms : List Int) : Prop where
  bas : W.heap.size ≤ base
  below : Below W.heap.size W w
  at' : ∃ vs, QAt w base p R M vs rows rooms
  ok : ∀ r ∈ rooms, 0 ≤ r ∧ r ≤ 16
  few : ∀ l ∈ rows, l.length ≤ 1000
section
variable {W w w' : World} {base p R M : Nat} {rows rows' : List (List Wt)} {rooms : List Int}
theorem QK.later (h : QK W w base p R M rows rooms) (hb : Below w.heap.size w w') : QK W w' base p R M rows rooms := by
  obtain ⟨vs, hq⟩ := h.at'
  exact ⟨h.bas, h.below.trans (hb.mono h.below.size), ⟨vs, hq.later hb⟩, h.ok, h.few⟩
theorem QK.step {vs : List Value} (h : QK W w base p R M rows rooms) (hq : QAt w base p R M vs rows rooms) (hs : StepQ base p R M vs rows' rooms w w') (hf : ∀ l ∈ rows', l.length ≤ 1000) : QK W w' base p R M rows' rooms := by
  obtain ⟨vs', hq', hfr, _⟩ := hs
  exact ⟨h.bas, h.below.trans (hfr.below h.below.size fun g hg => Nat.le_trans h.bas (hq.lt hg).1), ⟨vs', hq'⟩, h.ok, hf⟩
theorem QK.add (h : QK W w base p R M rows rooms) (x : Wt) (hf : ∀ l ∈ (addQ rows rooms x).2, l.length ≤ 1000) :
    Calls Try.prog 11 #[.pointer (some ⟨p, 0, none⟩), (.agg #[.int .i64 (Jb.id (Wt.job x)), .int .i64 (Jb.queue (Wt.job x)), .int .i64 (Jb.prio (Wt.job x)), .int .i64 (Jb.runtime (Wt.job x)), .int .i64 (Sh.gpus (Jb.shape (Wt.job x))), .int .i64 (Sh.cpus (Jb.shape (Wt.job x))), .int .i64 (Sh.mn (Jb.shape (Wt.job x))), .int .i64 (Sh.mx (Jb.shape (Wt.job x))), .int .i64 (Wt.since x), .int .i64 (Wt.number x)])] w fun e w' => e = .returned (.int .i64 (addQ rows rooms x).1) ∧ QK W w' base p R M (addQ rows rooms x).2 rooms := by
  obtain ⟨vs, hq⟩ := h.at'
  exact (add_any hq x h.ok h.few).mono fun e w' ⟨he, hs⟩ => ⟨he, h.step hq hs hf⟩
theorem few_set {rows : List (List Wt)} {i : Nat} {l : List Wt} (h : ∀ l ∈ rows, l.length ≤ 1000) (hl : l.length ≤ 1000) : ∀ x ∈ rows.set i l, x.length ≤ 1000 := by
  intro x hx
  rcases List.mem_or_eq_of_mem_set hx with hx | rfl
  · exact h x hx
  · exact hl
/-- Remove's result, with the queues behind it -/
def TakeK (rem : Bool) (W : World) (base p R M : Nat) (rows : List (List Wt)) (rooms : List Int) (id : Int) (e : Ending) (w' : World) : Prop :=
  ∃ (y : Wt) (cd : Int) (rows' : List (List Wt)), e = .returned (.tuple #[wtV y, .int .i64 cd]) ∧ QK W w' base p R M rows' rooms ∧
    ((hasQ rows id = false ∧ y = zeroWt ∧ cd = 3 ∧ rows' = rows) ∨ (∃ (i k : Nat) (hi : i < rows.length) (hk : k < rows[i].length), (rows[i][k]).job.id = id ∧ y = rows[i][k] ∧ cd = 0 ∧ rows' = if rem = true then rows.set i (rows[i].eraseIdx k) else rows))
theorem QK.take {rem : Bool} {vs : List Value} {id : Int} {e : Ending} (h : QK W w base p R M rows rooms) (hq : QAt w base p R M vs rows rooms) (ht : TakeP rem base p R M vs rows rooms id w e w') : TakeK rem W base p R M rows rooms id e w' := by
  obtain ⟨y, cd, rows', he, hs, hc⟩ := ht
  refine ⟨y, cd, rows', he, h.step hq hs ?_, hc⟩
  rcases hc with ⟨_, _, _, rfl⟩ | ⟨i, k, hi, hk, _, _, _, rfl⟩
  · exact h.few
  · split
    · refine few_set h.few ?_
      have := h.few _ (List.getElem_mem hi)
      rw [List.length_eraseIdx, if_pos hk]; omega
    · exact h.few
theorem QK.remove (h : QK W w base p R M rows rooms) (id : Int) : Calls Try.prog 14 #[.pointer (some ⟨p, 0, none⟩), .int .i64 id] w (TakeK true W base p R M rows rooms id) := by
  obtain ⟨vs, hq⟩ := h.at'
  exact (remove_any hq id h.few).mono fun e w' ht => h.take hq ht
theorem QK.get (h : QK W w base p R M rows rooms) (id : Int) : Calls Try.prog 35 #[.pointer (some ⟨p, 0, none⟩), .int .i64 id] w (TakeK false W base p R M rows rooms id) := by
  obtain ⟨vs, hq⟩ := h.at'
  exact (get_any hq id h.few).mono fun e w' ht => h.take hq ht
theorem QK.len (h : QK W w base p R M rows rooms) (q : Int) : Calls Try.prog 13 #[.pointer (some ⟨p, 0, none⟩), .int .i64 q] w fun e w' => e = .returned (.int .i64 (lenQ rows q)) ∧ w' = w := by
  obtain ⟨vs, hq⟩ := h.at'
  exact len_any hq q
theorem QK.room (h : QK W w base p R M rows rooms) (q : Int) : Calls Try.prog 12 #[.pointer (some ⟨p, 0, none⟩), .int .i64 q] w fun e w' => e = .returned (.int .i64 (roomQ rows rooms q)) ∧ Below w.heap.size w w' := by
  obtain ⟨vs, hq⟩ := h.at'
  exact room_any hq q h.ok
theorem QK.all (h : QK W w base p R M rows rooms) : Calls Try.prog 15 #[.pointer (some ⟨p, 0, none⟩)] w fun e w' => ∃ v, e = .returned v ∧ w'.ownsRow w.heap.size 35 10 v rows.flatten.length (rows.flatten.flatMap Wt.cells) ∧ Below w.heap.size w w' := by
  obtain ⟨vs, hq⟩ := h.at'
  exact all_any hq h.few
end
theorem right_ok {rooms : List Int} (h : rightQ rooms = true) : ∀ r ∈ rooms, 0 ≤ r ∧ r ≤ 16 := by
  intro r hr
  unfold rightQ at h
  simp only [Bool.and_eq_true, Bool.not_eq_true', List.any_eq_false] at h
  have := h.2 r hr
  unfold badN at this
  simp at this
  omega
/-- New, for a law that began in W -/
theorem newK (v : Value) (rooms : List Int) (W w : World) (h : Rd.SliceOf w v 1 I64.cells rooms) (hl : rooms.length ≤ maxLen) (hb : Below W.heap.size W w) (hr : rightQ rooms = true) :
    Calls Try.prog 10 #[v] w fun e w' => ∃ base p R M, e = .returned (.tuple #[.pointer (some ⟨p, 0, none⟩), .int .i64 0]) ∧ QK W w' base p R M (List.replicate rooms.length []) rooms := by
  refine (new_any v rooms w h hl).mono ?_
  rintro e w' ⟨hbw, hc⟩
  rw [if_pos hr] at hc
  obtain ⟨p, R, M, he, hq⟩ := hc
  refine ⟨_, p, R, M, he, hb.size, hb.trans (hbw.mono hb.size), ⟨_, hq⟩, right_ok hr, fun l hl => ?_⟩
  rw [List.eq_of_mem_replicate hl]; exact Nat.zero_le _
set_option maxHeartbeats 1000000 in
theorem right_any (v : Value) (rooms : List Int) (w : World) (h : Rd.SliceOf w v 1 I64.cells rooms) (hl : rooms.length ≤ maxLen) :
    Calls Try.prog 9 #[v] w fun e w' => e = .returned (.bool (rightQ rooms)) ∧ w' = w := by
  obtain ⟨a, cap, rfl⟩ := h.form
  obtain ⟨n, hn⟩ : ∃ n, rooms.length = n := ⟨_, rfl⟩
  have hl63 : n ≤ 9223372036854775807 := hn ▸ hl
  have H := Lib.hid h; have HN := Lib.hid hn
  obtain ⟨res, hres⟩ : ∃ b, rightQ rooms = b := ⟨_, rfl⟩
  have HRES := Lib.hid (show res = (decide (1 ≤ n) && decide (n ≤ 8) && !rooms.any badN) by rw [← hres, ← hn]; rfl)
  rw [hres, hn]
  clear h hn hl hres
  by_cases h1 : n < 1
  · have d1 : decide ((n : Int) < 1) = true := by simp; omega
    have hr : res = false := by rw [HRES.out, decide_eq_false (show ¬ 1 ≤ n by omega)]; rfl
    subst hr
    clear h1
    go_enter Try.func9, Try.ntmps9
    go_wp2_with fail
    go_ret
    exact ⟨rfl, rfl⟩
  by_cases h2 : 8 < n
  · have d1 : decide ((n : Int) < 1) = false := by simp; omega
    have d2 : decide (8 < (n : Int)) = true := by simp; omega
    have hr : res = false := by rw [HRES.out, decide_eq_false (show ¬ n ≤ 8 by omega), Bool.and_false, Bool.false_and]
    subst hr
    clear h1 h2
    go_enter Try.func9, Try.ntmps9
    go_wp2_with fail
    go_ret
    exact ⟨rfl, rfl⟩
  have d1 : decide ((n : Int) < 1) = false := by simp; omega
  have d2 : decide (8 < (n : Int)) = false := by simp; omega
  have hr : res = !rooms.any badN := by rw [HRES.out, decide_eq_true (show 1 ≤ n by omega), decide_eq_true (show n ≤ 8 by omega)]; rfl
  have HR := Lib.hid hr
  clear h1 h2 hr
  go_enter Try.func9, Try.ntmps9
  go_wp2_with fail
  go_loopw [3] (fun i wr => ∃ k : Nat, k ≤ n ∧ i = .int .i64 k ∧ Hid (∀ x ∈ rooms.take k, badN x = false) ∧ wr = w) (fun i _ => n - (intOf i).toNat)
  case atStart => exact ⟨0, Nat.zero_le _, rfl, Lib.hid (fun x h => by simp at h), rfl⟩
  case round =>
    obtain ⟨k, hk, rfl, hI, rfl⟩ := hrel
    by_cases hlt : k < n
    · have hkx : k < rooms.length := by rw [HN.out]; exact hlt
      obtain ⟨x, hx⟩ : ∃ x, rooms[k]? = some x := ⟨_, List.getElem?_eq_getElem hkx⟩
      obtain ⟨b, off, hv, hb, hat⟩ := I64.at (cap := cap) (n := n) (a := a) (by have := H.out; rw [HN.out] at this; exact this) hx
      subst hv
      have c0 := hat wr (Below.refl _ _)
      have htk : rooms.take (k + 1) = rooms.take k ++ [x] := by rw [List.take_add_one, hx]; rfl
      by_cases hb1 : x < 0
      · have e1 : decide (x < 0) = true := by simp; omega
        have hrf : res = false := by
          rw [HR.out]
          have : rooms.any badN = true := by rw [List.any_eq_true]; exact ⟨x, List.mem_of_getElem? hx, by unfold badN; rw [e1]; rfl⟩
          rw [this]; rfl
        subst hrf
        clear hx hat htk hb1
        go_wp2_with fail
        go_ret
        exact ⟨rfl, rfl⟩
      by_cases hb2 : 16 < x
      · have e1 : decide (x < 0) = false := by simp; omega
        have e2 : decide (16 < x) = true := by simp; omega
        have hrf : res = false := by
          rw [HR.out]
          have : rooms.any badN = true := by rw [List.any_eq_true]; exact ⟨x, List.mem_of_getElem? hx, by unfold badN; rw [e1, e2]; rfl⟩
          rw [this]; rfl
        subst hrf
        clear hx hat htk hb1 hb2
        go_wp2_with fail
        go_ret
        exact ⟨rfl, rfl⟩
      have e1 : decide (x < 0) = false := by simp; omega
      have e2 : decide (16 < x) = false := by simp; omega
      have HNX := Lib.hid (show ∀ y ∈ rooms.take (k + 1), badN y = false from fun y hy => by
        rw [htk] at hy
        rcases List.mem_append.1 hy with hy | hy
        · exact hI.out y hy
        · simp only [List.mem_singleton] at hy; subst hy; unfold badN; rw [e1, e2]; rfl)
      clear hx hat htk hb1 hb2
      go_wp2_with fail
      exact ⟨⟨k + 1, by omega, by go_num, Lib.hid HNX.out, by first | rfl | trivial⟩, by simp [intOf]; omega⟩
    · obtain rfl : k = n := by omega
      have hrt : res = true := by
        rw [HR.out]
        have : rooms.any badN = false := by
          rw [List.any_eq_false]
          intro x hx
          rw [hI.out x (by rw [List.take_of_length_le (by rw [HN.out]; exact Nat.le_refl _)]; exact hx)]
          decide
        rw [this]; rfl
      subst hrt
      go_wp2_with fail
      go_ret
      exact ⟨rfl, rfl⟩
def wq (id q : Int) : Wt := ⟨⟨id, q, 0, 0, ⟨0, 0, 0, 0⟩⟩, 0, 0⟩
set_option maxRecDepth 100000 in
set_option maxHeartbeats 2000000 in
theorem awake_any (w : World) : Calls Try.prog 8 #[] w fun e w' => e = .returned (.bool true) ∧ Below w.heap.size w w' := by
  have a1 : addQ [[], []] [1, 2] (wq 5 0) = (0, [[wq 5 0], []]) := by rfl
  have a2 : addQ [[wq 5 0], []] [1, 2] (wq 6 0) = (2, [[wq 5 0], []]) := by rfl
  have a3 : addQ [[wq 5 0], []] [1, 2] (wq 5 1) = (4, [[wq 5 0], []]) := by rfl
  have a4 : lenQ [[wq 5 0], []] 0 = 1 := by rfl
  have a5 : roomQ [[wq 5 0], []] [1, 2] 1 = 2 := by rfl
  have A1 := Lib.hid a1; have A2 := Lib.hid a2; have A3 := Lib.hid a3; have A4 := Lib.hid a4; have A5 := Lib.hid a5
  have hb1 := (Below.refl w.heap.size w).alloc (Nat.le_refl _) (.cells #[.int .i64 1, .int .i64 2] 3)
  have kS := World.alloc_heap_new w (.cells #[.int .i64 1, .int .i64 2] 3)
  have hsl : Rd.SliceOf (w.alloc (.cells #[.int .i64 1, .int .i64 2] 3)) (.slice (some ⟨w.heap.size, 0, none⟩) 2 2) 1 I64.cells [1, 2] :=
    Rd.SliceOf.of_block (xs := [1, 2]) kS (by unfold maxLen; decide) (fun i hi j hj => by
      simp [I64.cells] at hj
      subst hj
      simp at hi
      rcases i with _ | _ | i <;> first | rfl | omega)
  have HN := Lib.hid (newK _ [1, 2] w _ hsl (by decide) hb1 (by rfl))
  clear a1 a2 a3 a4 a5 hb1 kS hsl
  go_enter Try.func8, Try.ntmps8
  go_wp2_with fail
  refine HN.out.mono ?_
  rintro e w1 ⟨base, p, R, M, rfl, hk⟩
  have hk1 : QK w w1 base p R M [[], []] [1, 2] := hk
  have K1 := Lib.hid hk1
  clear hk hk1 HN
  go_wp2_with fail
  have hA := K1.out.add (wq 5 0) (by rw [A1.out]; intro l hl; simp at hl; rcases hl with rfl | rfl <;> simp)
  rw [A1.out] at hA
  refine hA.mono ?_
  rintro e w2 ⟨rfl, hk⟩
  have K2 := Lib.hid hk
  clear hA hk
  go_wp2_with fail
  have hA := K2.out.add (wq 6 0) (by rw [A2.out]; intro l hl; simp at hl; rcases hl with rfl | rfl <;> simp)
  rw [A2.out] at hA
  refine hA.mono ?_
  rintro e w3 ⟨rfl, hk⟩
  have K3 := Lib.hid hk
  clear hA hk
  go_wp2_with fail
  have hA := K3.out.add (wq 5 1) (by rw [A3.out]; intro l hl; simp at hl; rcases hl with rfl | rfl <;> simp)
  rw [A3.out] at hA
  refine hA.mono ?_
  rintro e w4 ⟨rfl, hk⟩
  have K4 := Lib.hid hk
  clear hA hk
  go_wp2_with fail
  have hL := K4.out.len 0
  rw [A4.out] at hL
  refine hL.mono ?_
  rintro e z ⟨rfl, hz⟩
  replace hz := hz.symm
  subst hz
  clear hL
  go_wp2_with fail
  have hL := K4.out.room 1
  rw [A5.out] at hL
  refine hL.mono ?_
  rintro e w5 ⟨rfl, hb⟩
  have K5 := Lib.hid (K4.out.later hb)
  clear hL hb
  go_wp2_with fail
  go_ret
  exact ⟨rfl, K5.out.below⟩
end Go.Proofs.Ytobdbjkhajinbaa
