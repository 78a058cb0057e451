/-
  queue: the document's All.
-/
import Derived.Test.YtobdbjkhajinbaaRefQLaw
set_option linter.unusedVariables false
set_option linter.unusedSimpArgs false
namespace Go.Proofs.Ytobdbjkhajinbaa
open Go.RowKit
theorem splitQ_succ (k : Nat) (L : List Wt) : (splitQ (k + 1) L).flatten = (splitQ k L).flatten ++ ofQ L k := by
  unfold splitQ
  rw [List.range_succ, List.map_append, List.flatten_append]
  simp
theorem splitQ_le (L : List Wt) : ∀ k : Nat, (splitQ k L).flatten.length ≤ k * L.length := by
  intro k
  induction k with
  | zero => simp [splitQ]
  | succ k ih =>
    rw [splitQ_succ, List.length_append]
    have : (ofQ L k).length ≤ L.length := List.length_filter_le _ _
    rw [Nat.succ_mul]
    omega
theorem ofQ_take (L : List Wt) (q : Int) {i : Nat} (h : i < L.length) : ofQ (L.take (i + 1)) q = ofQ (L.take i) q ++ (if L[i].job.queue = q then [L[i]] else []) := by
  unfold ofQ
  rw [List.take_succ_eq_append_getElem h, List.filter_append]
  by_cases e : L[i].job.queue = q
  · simp [List.filter, e]
  · simp [List.filter, e]
section
variable {W w w' : World} {p : Nat} {ra : Option Addr} {rc : Nat} {v : Value} {rooms : List Int} {L : List Wt}
set_option maxRecDepth 100000 in
set_option maxHeartbeats 4000000 in
theorem dall_any (h : DAt W w p ra rc v rooms L) :
    Calls Try.prog 19 #[.pointer (some ⟨p, 0, none⟩)] w fun e w' => ∃ v', e = .returned v' ∧ w'.ownsRow w.heap.size 35 10 v' (splitQ rooms.length L).flatten.length ((splitQ rooms.length L).flatten.flatMap Wt.cells) ∧ Below w.heap.size w w' := by
  obtain ⟨i0, hi0, hz0, hz1, hz2⟩ := info_parts infoWt
  obtain ⟨a, c, rfl, hs, c0, c1, lp⟩ := h.at
  have hfew := h.few
  have hrl := h.rlen
  obtain ⟨n, hn⟩ : ∃ n, L.length = n := ⟨_, rfl⟩
  obtain ⟨nr, hnr⟩ : ∃ nr, rooms.length = nr := ⟨_, rfl⟩
  rw [hn] at c1 hfew
  rw [hnr] at c0 hrl
  have HSL := Lib.hid (fun k => splitQ_le L k)
  rw [hn] at HSL
  have HS := Lib.hid hs; have HN := Lib.hid hn; have HNR := Lib.hid hnr; have HC0 := Lib.hid c0; have HC1 := Lib.hid c1
  rw [hnr]
  clear h hs hn hnr c0 c1
  go_enter Try.func19, Try.ntmps19
  go_wp2_with fail
  go_loopw [3, 4] (fun v' iv wr => ∃ (k : Nat) (v : Value), v = v' ∧ k ≤ nr ∧ iv = .int .i64 k ∧ wr.ownsRow w.heap.size 35 10 v (splitQ k L).flatten.length ((splitQ k L).flatten.flatMap Wt.cells) ∧ Below w.heap.size w wr) (fun _ iv _ => nr - (intOf iv).toNat)
  case atStart => exact ⟨0, _, rfl, Nat.zero_le _, rfl, World.ownsRow_nil _ _ _ _, Below.refl _ _⟩
  case round =>
    obtain ⟨k, v, rfl, hk, rfl, hown, hB⟩ := hrel
    have q0 := (hB.cell (p := ⟨p, 0, none⟩) lp).trans HC0.out
    have lpr := Nat.lt_of_lt_of_le lp hB.size
    have HO := Lib.hid hown; have HB := Lib.hid hB
    clear hown hB
    by_cases hlt : k < nr
    · have dlt : decide ((k : Int) < nr) = true := by simp; omega
      go_wp2_with fail
      go_loopw [3, 5] (fun v' iv wx => ∃ (i : Nat) (v : Value), v = v' ∧ i ≤ n ∧ iv = .int .i64 i ∧ wx.ownsRow w.heap.size 35 10 v ((splitQ k L).flatten ++ ofQ (L.take i) k).length (((splitQ k L).flatten ++ ofQ (L.take i) k).flatMap Wt.cells) ∧ Below w.heap.size w wx) (fun _ iv _ => n - (intOf iv).toNat)
      case atStart => exact ⟨0, _, rfl, Nat.zero_le _, rfl, by simpa [ofQ] using HO.out, HB.out⟩
      case round =>
        obtain ⟨i, v, rfl, hi, rfl, hown, hB⟩ := hrel
        clear q0 lpr
        have q0 := (hB.cell (p := ⟨p, 0, none⟩) lp).trans HC0.out
        have q1 := (hB.cell (p := ⟨p, 1, none⟩) lp).trans HC1.out
        have lpr := Nat.lt_of_lt_of_le lp hB.size
        by_cases hin : i < n
        · have hil : i < L.length := by rw [HN.out]; exact hin
          obtain ⟨x, hx⟩ : ∃ x, L[i] = x := ⟨_, rfl⟩
          obtain ⟨b, off, cap, hv, _, _, hb, hat⟩ := Wt.at HS.out hil hx
          rw [HN.out] at hv
          simp only [Value.slice.injEq] at hv
          obtain ⟨rfl, -, rfl⟩ := hv
          obtain ⟨r0, r1, r2, r3, r4, r5, r6, r7, r8, r9⟩ := hat wr hB
          have lR : b < wr.heap.size := Nat.lt_of_lt_of_le hb hB.size
          have hT : (splitQ k L).flatten ++ ofQ (L.take (i + 1)) k = ((splitQ k L).flatten ++ ofQ (L.take i) k) ++ (if x.job.queue = (k : Int) then [x] else []) := by rw [ofQ_take L k hil, hx, List.append_assoc]
          have hlen2 : ((splitQ k L).flatten ++ ofQ (L.take i) k).length ≤ 20000000 := by
            have h1 := HSL.out k
            have h2 : (ofQ (L.take i) k).length ≤ (L.take i).length := List.length_filter_le _ _
            rw [List.length_take, HN.out] at h2
            have h3 : k * n ≤ 100 * 100000 := Nat.mul_le_mul (by omega) hfew
            rw [List.length_append]
            omega
          have HT := Lib.hid hT; have HBB := Lib.hid hB; have HL2 := Lib.hid hlen2
          clear hat hx hT hlen2 hil
          by_cases hs : x.job.queue = (k : Int)
          · have hsb : (x.job.queue == (k : Int)) = true := by simpa using hs
            have hsd : decide (x.job.queue = (k : Int)) = true := by simpa using hs
            have hisx := Lib.hid hs
            clear hs
            obtain ⟨av, capv, rfl⟩ := own_form hown
            obtain ⟨m, hm⟩ : ∃ m, ((splitQ k L).flatten ++ ofQ (L.take i) k).length = m := ⟨_, rfl⟩
            have HM := Lib.hid hm
            have hm2 : m ≤ 20000000 := by rw [← hm]; exact HL2.out
            rw [hm] at hown
            have HO2 := Lib.hid hown
            have hws : w.heap.size ≤ wr.heap.size := hB.size
            rw [hm]
            clear hm hown hB HO
            go_wp2_with (at_builtin; refine wpList_append_lies _ rfl _ _ _ rfl w.heap.size 35 i0 _ 10 80 Try.underlying39 hi0 hz0 hz1 hz2 rfl (by omega) (.slice av m capv) m _ rfl (HO2.out.alloc _) ⟨wr.heap.size, 0, none⟩ 1 1 (Wt.cells x) rfl rfl (World.news_of_block (cs := #[.int .i64 x.job.id, .int .i64 x.job.queue, .int .i64 x.job.prio, .int .i64 x.job.runtime, .int .i64 x.job.shape.gpus, .int .i64 x.job.shape.cpus, .int .i64 x.job.shape.mn, .int .i64 x.job.shape.mx, .int .i64 x.since, .int .i64 x.number]) (t := 35) (fr := (0, 0)) (World.alloc_heap_new wr _)) (by simp [Wt.cells, Value.oneCell']) (by omega) (by unfold maxLen; omega) (by omega) (by have := HBB.out.size; simp; omega) (wr.heap.size + 1) (by simp) ?_)
            clear q0 q1 r0 r1 r2 r3 r4 r5 r6 r7 r8 r9
            intro gg cap'' w3 hown3 hgrow hat hlt2
            have hv := HO2.out.lt
            have hlen3 : ((splitQ k L).flatten ++ ofQ (L.take (i + 1)) k).length = m + 1 := by rw [HT.out, if_pos hisx.out, List.length_append, HM.out]; rfl
            have HO3 := Lib.hid (show w3.ownsRow w.heap.size 35 10 (.slice (some ⟨gg, 0, none⟩) (m + 1) cap'') ((splitQ k L).flatten ++ ofQ (L.take (i + 1)) k).length (((splitQ k L).flatten ++ ofQ (L.take (i + 1)) k).flatMap Wt.cells) by rw [hlen3, HT.out, if_pos hisx.out, List.flatMap_append]; simpa using hown3)
            have HB3 := Lib.hid ((HBB.out.alloc HBB.out.size _).grown hgrow (by have := HBB.out.size; simp; omega) (fun j e => (hv j e).1))
            clear hown3 hgrow hat hlt2 hv hlen3
            go_wp2
            refine ⟨⟨i + 1, _, rfl, by omega, by go_num, HO3.out, HB3.out⟩, by simp [intOf]; omega⟩
          · have hsb : (x.job.queue == (k : Int)) = false := by simpa using hs
            have hsd : decide (x.job.queue = (k : Int)) = false := by simpa using hs
            have HO2 := Lib.hid (show wr.ownsRow w.heap.size 35 10 v ((splitQ k L).flatten ++ ofQ (L.take (i + 1)) k).length (((splitQ k L).flatten ++ ofQ (L.take (i + 1)) k).flatMap Wt.cells) by rw [HT.out, if_neg hs, List.append_nil]; exact hown)
            clear hown hB hs HO
            go_wp2_with fail
            refine ⟨⟨i + 1, _, rfl, by omega, by go_num, HO2.out, HBB.out⟩, by simp [intOf]; omega⟩
        · obtain rfl : i = n := by omega
          have HO2 := Lib.hid (show wr.ownsRow w.heap.size 35 10 v (splitQ (k + 1) L).flatten.length ((splitQ (k + 1) L).flatten.flatMap Wt.cells) by
            rw [splitQ_succ]
            rw [List.take_of_length_le (by rw [HN.out]; exact Nat.le_refl _)] at hown
            exact hown)
          have HBB := Lib.hid hB
          clear hown hB HO
          go_wp2_with fail
          exact ⟨⟨k + 1, _, rfl, by omega, by go_num, HO2.out, HBB.out⟩, by simp [intOf]; omega⟩
    · obtain rfl : k = nr := by omega
      go_wp2_with fail
      go_ret
      exact ⟨_, rfl, HO.out, HB.out⟩
end
end Go.Proofs.Ytobdbjkhajinbaa
