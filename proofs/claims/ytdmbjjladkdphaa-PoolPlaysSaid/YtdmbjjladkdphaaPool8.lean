/-
  The laws' few, do, awake of a pool.
-/
import Derived.Test.YtdmbjjladkdphaaPool7
set_option linter.unusedVariables false
set_option linter.unusedSimpArgs false
namespace Go.Proofs.Ytdmbjjladkdphaa
open Go.RowKit Go.Maps
variable {W w w' : World} {p nn : Nat} {A fr : List Fe} {dr : List Int} {L : List (Nat × Array Value × TypeId)}

def fewA (xs : List Ac3) : Bool := decide (xs.length ≤ 60) && xs.all fun x => decide (x.slots.length ≤ 40)
theorem fewA_parts {xs : List Ac3} (h : fewA xs = true) : xs.length ≤ 60 ∧ ∀ x ∈ xs, x.slots.length ≤ 40 := by
  unfold fewA at h
  simpa using h
set_option maxHeartbeats 1000000 in
theorem fewA_any (v : Value) (xs : List Ac3) (w : World) (s : ActsOf w v xs) (r : Bool) (hr : fewA xs = r) :
    Calls Try.prog 11 #[v] w fun e w' => e = .returned (.bool r) ∧ Below w.heap.size w w' := by
  subst hr
  obtain ⟨a0, cap0, hv0, hm⟩ := s.form
  obtain ⟨n, hn⟩ : ∃ n, xs.length = n := ⟨_, rfl⟩
  have HS := Lib.hid s; have HN := Lib.hid hn
  rw [hn] at hv0 hm
  subst hv0
  have hbig : n ≤ 9223372036854775807 := by unfold maxLen at hm; omega
  clear s hm
  by_cases h60 : n ≤ 60
  case neg =>
    have HF := Lib.hid (show fewA xs = false by unfold fewA; rw [decide_eq_false (by omega)]; rfl)
    have h61 : (60 : Int) < n := by omega
    rw [HF.out]
    clear h60 hn
    go_enter Try.func11, Try.ntmps11
    go_wp2
    go_ret
    exact ⟨rfl, Below.refl _ _⟩
  clear hn
  go_enter Try.func11, Try.ntmps11
  go_wp2_with fail
  go_loopw [3] (fun i wr => ∃ k : Nat, k ≤ n ∧ i = .int .i64 k ∧ Hid ((xs.take k).all (fun x => decide (x.slots.length ≤ 40)) = true) ∧ Below w.heap.size w wr) (fun i _ => n - (intOf i).toNat)
  case atStart => exact ⟨0, Nat.zero_le _, rfl, Lib.hid (by simp), Below.refl _ _⟩
  case round =>
    obtain ⟨k, hk, rfl, hall, hB⟩ := hrel
    have HB := Lib.hid hB
    by_cases hlt : k < n
    · have hkl : k < xs.length := by rw [HN.out]; exact hlt
      obtain ⟨x, hx⟩ : ∃ x, xs[k] = x := ⟨_, rfl⟩
      obtain ⟨b, off, cap3, u, hv, _, _, hb, hsl, hcell⟩ := HS.out.at hkl hx
      simp only [Value.slice.injEq] at hv
      obtain ⟨rfl, -, rfl⟩ := hv
      obtain ⟨c0, c1, c2⟩ := hcell wr hB
      obtain ⟨au, capu, rfl⟩ := hsl.form
      obtain ⟨m, hm⟩ : ∃ m, x.slots.length = m := ⟨_, rfl⟩
      rw [hm] at c2
      have lb := Nat.lt_of_lt_of_le hb hB.size
      have HX := Lib.hid hx; have HM := Lib.hid hm
      clear hsl hcell hx hm hB
      by_cases h4 : m ≤ 40
      · go_wp2_with fail
        refine ⟨⟨k + 1, by omega, by go_num, Lib.hid ?_, HB.out⟩, by simp [intOf]; omega⟩
        rw [List.take_succ_eq_append_getElem hkl, List.all_append, hall.out, HX.out]
        simp [HM.out, h4]
      · have HF := Lib.hid (show fewA xs = false by
          have : xs.all (fun x => decide (x.slots.length ≤ 40)) = false := by
            rw [List.all_eq_false]
            exact ⟨xs[k], List.getElem_mem _, by rw [HX.out, HM.out]; simp [h4]⟩
          unfold fewA; rw [this, Bool.and_false])
        have h5 : (40 : Int) < m := by omega
        clear h4
        go_wp2
        go_ret
        rw [HF.out]
        exact ⟨rfl, HB.out⟩
    · obtain rfl : k = n := by omega
      have HF := Lib.hid (show fewA xs = true by
        have h1 := hall.out
        rw [List.take_of_length_le (by rw [HN.out]; exact Nat.le_refl _)] at h1
        unfold fewA; rw [h1, Bool.and_true, HN.out]; simpa using h60)
      clear hlt hk
      go_wp2
      go_ret
      rw [HF.out]
      exact ⟨rfl, HB.out⟩

/-- what a call tells, what is free behind it, which nodes are drained -/
def doP (nn : Nat) (A : List Fe) (st : List Fe × List Int) (a : Ac3) : Int × List Fe × List Int :=
  if a.kind = 0 then ((eachF (opT st.2) A st.1 a.slots).1, (eachF (opT st.2) A st.1 a.slots).2, st.2)
  else if a.kind = 1 then ((eachF (opG A) A st.1 a.slots).1, (eachF (opG A) A st.1 a.slots).2, st.2)
  else if a.kind = 2 then ((drainF nn st.2 a.node).1, st.1, (drainF nn st.2 a.node).2)
  else ((undrainF nn st.2 a.node).1, st.1, (undrainF nn st.2 a.node).2)
def DoP (W : World) (p nn : Nat) (A : List Fe) (L : List (Nat × Array Value × TypeId)) (r : Int × List Fe × List Int) (e : Ending) (w' : World) : Prop :=
  e = .returned (.int .i64 r.1) ∧ PK W w' p nn A r.2.1 r.2.2 L
theorem slots_own {u : Value} {xs : List Sl} (s : Rd.SliceOf W u 4 Sl.cells xs) : ∀ q, u.ownBlock = some q → xs ≠ [] → (q < W.heap.size) ∨ ∃ x ∈ L, x.1 = q := fun q hq hn => by
  rcases SlRow.blk s with e | e
  · exact absurd e hn
  · exact .inl (e q hq)
set_option maxHeartbeats 1000000 in
theorem PK.do (h : PK W w p nn A fr dr L) (a : Ac3) (hw : a.wf) (u : Value) (s : Rd.SliceOf W u 4 Sl.cells a.slots) (hl : A.length ≤ 1000000) :
    Calls Try.prog 13 #[.pointer (some ⟨p, 0, none⟩), .agg #[.int .i64 a.kind, .int .i64 a.node, u]] w (DoP W p nn A L (doP nn A (fr, dr) a)) := by
  have h1 := h.new #[.int .i64 a.kind, .int .i64 a.node, u] 36
  have hok : ∀ s ∈ a.slots, SlOk s := fun s hs => Sl.ok (hw.2 s hs)
  have hnd := hw.1
  have hs1 := SlRow.of (s.later h1.below)
  have HT := Lib.hid (h1.take hs1 (slots_own s) hok hl)
  have HG := Lib.hid (h1.give hs1 (slots_own s) hok hl)
  have HDR := Lib.hid (h1.drain a.node hnd)
  have HUN := Lib.hid (h1.undrain a.node hnd)
  obtain ⟨au, capu, rfl⟩ := s.form
  obtain ⟨m, hm⟩ : ∃ m, a.slots.length = m := ⟨_, rfl⟩
  rw [hm] at HT HG HDR HUN ⊢
  clear h h1 hok hnd hs1 s hw hm
  by_cases h0 : a.kind = 0
  · have HD := Lib.hid (show doP nn A (fr, dr) a = ((eachF (opT dr) A fr a.slots).1, (eachF (opT dr) A fr a.slots).2, dr) by unfold doP; rw [if_pos h0])
    rw [HD.out]
    have hk0 : (a.kind == 0) = true := by simpa using h0
    clear h0
    go_enter Try.func13, Try.ntmps13
    go_wp2_with fail
    refine HT.out.mono ?_
    rintro e w1 ⟨rfl, hp⟩
    have HP := Lib.hid hp
    clear hp
    go_wp2
    go_ret
    exact ⟨rfl, HP.out.sub fun x hx => List.mem_cons_of_mem _ hx⟩
  by_cases h1 : a.kind = 1
  · have HD := Lib.hid (show doP nn A (fr, dr) a = ((eachF (opG A) A fr a.slots).1, (eachF (opG A) A fr a.slots).2, dr) by unfold doP; rw [if_neg h0, if_pos h1])
    rw [HD.out]
    have hk0 : (a.kind == 0) = false := by simpa using h0
    have hk1 : (a.kind == 1) = true := by simpa using h1
    clear h0 h1
    go_enter Try.func13, Try.ntmps13
    go_wp2_with fail
    refine HG.out.mono ?_
    rintro e w1 ⟨rfl, hp⟩
    have HP := Lib.hid hp
    clear hp
    go_wp2
    go_ret
    exact ⟨rfl, HP.out.sub fun x hx => List.mem_cons_of_mem _ hx⟩
  by_cases h2 : a.kind = 2
  · have HD := Lib.hid (show doP nn A (fr, dr) a = ((drainF nn dr a.node).1, fr, (drainF nn dr a.node).2) by unfold doP; rw [if_neg h0, if_neg h1, if_pos h2])
    rw [HD.out]
    have hk0 : (a.kind == 0) = false := by simpa using h0
    have hk1 : (a.kind == 1) = false := by simpa using h1
    have hk2 : (a.kind == 2) = true := by simpa using h2
    clear h0 h1 h2
    go_enter Try.func13, Try.ntmps13
    go_wp2_with fail
    refine HDR.out.mono ?_
    rintro e w1 ⟨rfl, hp⟩
    have HP := Lib.hid hp
    clear hp
    go_wp2
    go_ret
    exact ⟨rfl, HP.out.sub fun x hx => List.mem_cons_of_mem _ hx⟩
  · have HD := Lib.hid (show doP nn A (fr, dr) a = ((undrainF nn dr a.node).1, fr, (undrainF nn dr a.node).2) by unfold doP; rw [if_neg h0, if_neg h1, if_neg h2])
    rw [HD.out]
    have hk0 : (a.kind == 0) = false := by simpa using h0
    have hk1 : (a.kind == 1) = false := by simpa using h1
    have hk2 : (a.kind == 2) = false := by simpa using h2
    clear h0 h1 h2
    go_enter Try.func13, Try.ntmps13
    go_wp2_with fail
    refine HUN.out.mono ?_
    rintro e w1 ⟨rfl, hp⟩
    have HP := Lib.hid hp
    clear hp
    go_wp2
    go_ret
    exact ⟨rfl, HP.out.sub fun x hx => List.mem_cons_of_mem _ hx⟩
end Go.Proofs.Ytdmbjjladkdphaa
