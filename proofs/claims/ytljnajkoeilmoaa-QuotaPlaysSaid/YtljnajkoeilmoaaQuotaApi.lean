/-
  quota: Add, Sub, Left, Used, Queues, and the law's own 'do'.
-/
import Derived.Test.YtljnajkoeilmoaaQuotaNew
set_option linter.unusedVariables false
set_option linter.unusedSimpArgs false
namespace Go.Proofs.Ytljnajkoeilmoaa
open Go.RowKit

def AllOk (st : List Ac) : Prop := ∀ x ∈ st, x.ok

theorem turnF_ok {sub : Bool} {st : List Ac} {q g c : Int} (h : AllOk st) : AllOk (turnF sub st q g c).2 := by
  unfold turnF
  split
  · split
    · exact h
    · rename_i x hx
      split
      · exact h
      · split
        · exact h
        · rename_i hr hw
          have hx' := h x (List.mem_of_getElem? hx)
          intro y hy
          rcases List.mem_or_eq_of_mem_set hy with hy | rfl
          · exact h y hy
          · simp only [Bool.not_eq_false] at hr hw
            simp only [rightB, withinB, decide_eq_true_eq] at hr hw
            unfold Ac.ok at hx' ⊢
            cases sub <;> simp only [turnBy, ofF, Bool.false_eq_true, if_false, if_true] at hw ⊢ <;> omega
  · exact h
theorem turnF_len {sub : Bool} {st : List Ac} {q g c : Int} : (turnF sub st q g c).2.length = st.length := by
  unfold turnF
  repeat' split
  all_goals simp

def TurnPost (sub : Bool) (p R cap : Nat) (bs : List Nat) (st : List Ac) (q g c : Int) (w : World) (e : Ending) (w' : World) : Prop :=
  e = .returned (.int .i64 (turnF sub st q g c).1) ∧ Acc w' p R cap bs (turnF sub st q g c).2 ∧ Fr w.heap.size (AccF p R bs) w w'

theorem Acc.later {w w' : World} {p R cap : Nat} {bs : List Nat} {st : List Ac} (h : Acc w p R cap bs st) (hb : Below w.heap.size w w') : Acc w' p R cap bs st :=
  h.frame fun k hk => hb.block k (h.lt hk)

theorem turn_case (sub : Bool) (p R cap : Nat) (bs : List Nat) (st : List Ac) (q g c : Int) (w : World) (h : Acc w p R cap bs st) (hl : st.length ≤ 8) (hok : AllOk st) :
    Calls Try.prog 23 #[.pointer (some ⟨p, 0, none⟩), .int .i64 q, .agg #[.int .i64 g, .int .i64 c], .func (.func (if sub then 27 else 22)) #[] #[], .int .i64 (if sub then 13 else 6), .int .i64 (if sub then -1 else 1)] w
      (TurnPost sub p R cap bs st q g c w) := by
  by_cases hq : q < 0 ∨ (st.length : Int) ≤ q
  · refine (turn_out p R cap bs st q g c _ _ _ w h hl hq).mono ?_
    rintro e w' ⟨rfl, hb⟩
    have : turnF sub st q g c = (3, st) := by
      unfold turnF
      by_cases h0 : 0 ≤ q
      · rw [if_pos h0, List.getElem?_eq_none (by omega)]
      · rw [if_neg h0]
    unfold TurnPost
    rw [this]
    exact ⟨rfl, h.later hb, Fr.of_below hb _⟩
  · obtain ⟨n, rfl⟩ : ∃ n : Nat, q = n := ⟨q.toNat, by omega⟩
    have hn : n < st.length := by omega
    have hg : st[n]? = some st[n] := List.getElem?_eq_getElem hn
    cases hr : rightB g c with
    | false =>
      refine (turn_wrong p R cap bs st n g c _ _ _ w h hl hn hr).mono ?_
      rintro e w' ⟨rfl, hb⟩
      have : turnF sub st n g c = (1, st) := by unfold turnF; simp [hg, hr]
      unfold TurnPost
      rw [this]
      exact ⟨rfl, h.later hb, Fr.of_below hb _⟩
    | true =>
      cases hw : withinB g c (ofF sub st[n]).1 (ofF sub st[n]).2 with
      | false =>
        have hT : turnF sub st n g c = ((if sub then 13 else 6), st) := by unfold turnF; simp [hg, hr, hw]
        cases sub with
        | false =>
          refine (turn_add_no p R cap bs st n g c w h hl hn hok hr hw).mono ?_
          rintro e w' ⟨rfl, hb⟩
          unfold TurnPost
          rw [hT]
          exact ⟨rfl, h.later hb, Fr.of_below hb _⟩
        | true =>
          refine (turn_sub_no p R cap bs st n g c w h hl hn hok hr hw).mono ?_
          rintro e w' ⟨rfl, hb⟩
          unfold TurnPost
          rw [hT]
          exact ⟨rfl, h.later hb, Fr.of_below hb _⟩
      | true =>
        have hT : turnF sub st n g c = (0, st.set n (turnBy sub st[n] g c)) := by unfold turnF; simp [hg, hr, hw]
        cases sub with
        | false =>
          refine (turn_add p R cap bs st n g c w h hl hn hok hr hw).mono ?_
          rintro e w' ⟨rfl, ha, hf⟩
          unfold TurnPost
          rw [hT]
          exact ⟨rfl, ha, hf⟩
        | true =>
          refine (turn_sub p R cap bs st n g c w h hl hn hok hr hw).mono ?_
          rintro e w' ⟨rfl, ha, hf⟩
          unfold TurnPost
          rw [hT]
          exact ⟨rfl, ha, hf⟩

set_option maxHeartbeats 400000 in
theorem add_any (p R cap : Nat) (bs : List Nat) (st : List Ac) (q g c : Int) (w : World) (h : Acc w p R cap bs st) (hl : st.length ≤ 8) (hok : AllOk st) :
    Calls Try.prog 12 #[.pointer (some ⟨p, 0, none⟩), .int .i64 q, .agg #[.int .i64 g, .int .i64 c]] w (TurnPost false p R cap bs st q g c w) := by
  have H := Lib.hid h; have HO := Lib.hid hok
  clear h hok
  go_enter Try.func12, Try.ntmps12
  go_wp2_with fail
  refine (turn_case false p R cap bs st q g c _ (H.out.later ((Below.refl _ _).alloc (Nat.le_refl _) _)) hl HO.out).mono ?_
  rintro e w' ⟨rfl, ha, hf⟩
  go_wp2
  go_ret
  exact ⟨rfl, ha, ((Fr.refl _ _ _).alloc (Nat.le_refl _) _).trans (hf.mono (by simp) fun _ _ h => h)⟩

set_option maxHeartbeats 400000 in
theorem sub_any (p R cap : Nat) (bs : List Nat) (st : List Ac) (q g c : Int) (w : World) (h : Acc w p R cap bs st) (hl : st.length ≤ 8) (hok : AllOk st) :
    Calls Try.prog 21 #[.pointer (some ⟨p, 0, none⟩), .int .i64 q, .agg #[.int .i64 g, .int .i64 c]] w (TurnPost true p R cap bs st q g c w) := by
  have H := Lib.hid h; have HO := Lib.hid hok
  clear h hok
  go_enter Try.func21, Try.ntmps21
  go_wp2_with fail
  refine (turn_case true p R cap bs st q g c _ (H.out.later ((Below.refl _ _).alloc (Nat.le_refl _) _)) hl HO.out).mono ?_
  rintro e w' ⟨rfl, ha, hf⟩
  go_wp2
  go_ret
  exact ⟨rfl, ha, ((Fr.refl _ _ _).alloc (Nat.le_refl _) _).trans (hf.mono (by simp) fun _ _ h => h)⟩

set_option maxHeartbeats 400000 in
theorem do_any (p R cap : Nat) (bs : List Nat) (st : List Ac) (sub : Bool) (q g c : Int) (w : World) (h : Acc w p R cap bs st) (hl : st.length ≤ 8) (hok : AllOk st) :
    Calls Try.prog 10 #[.pointer (some ⟨p, 0, none⟩), .agg #[.bool sub, .int .i64 q, .int .i64 g, .int .i64 c]] w (TurnPost sub p R cap bs st q g c w) := by
  have H := Lib.hid h; have HO := Lib.hid hok
  clear h hok
  cases sub with
  | true =>
    go_enter Try.func10, Try.ntmps10
    go_wp2_with fail
    refine (sub_any p R cap bs st q g c _ (H.out.later ((Below.refl _ _).alloc (Nat.le_refl _) _)) hl HO.out).mono ?_
    rintro e w' ⟨rfl, ha, hf⟩
    go_wp2
    go_ret
    exact ⟨rfl, ha, ((Fr.refl _ _ _).alloc (Nat.le_refl _) _).trans (hf.mono (by simp) fun _ _ h => h)⟩
  | false =>
    go_enter Try.func10, Try.ntmps10
    go_wp2_with fail
    refine (add_any p R cap bs st q g c _ (H.out.later ((Below.refl _ _).alloc (Nat.le_refl _) _)) hl HO.out).mono ?_
    rintro e w' ⟨rfl, ha, hf⟩
    go_wp2
    go_ret
    exact ⟨rfl, ha, ((Fr.refl _ _ _).alloc (Nat.le_refl _) _).trans (hf.mono (by simp) fun _ _ h => h)⟩

def leftF (st : List Ac) (q : Int) : Un × Int := if 0 ≤ q then (match st[q.toNat]? with | some x => (⟨x.g - x.ug, x.c - x.uc⟩, 0) | none => (⟨0, 0⟩, 3)) else (⟨0, 0⟩, 3)

def LeftPost (st : List Ac) (q : Int) (w : World) (e : Ending) (w' : World) : Prop :=
  e = .returned (.tuple #[.agg #[.int .i64 (leftF st q).1.gpus, .int .i64 (leftF st q).1.cpus], .int .i64 (leftF st q).2]) ∧ Below w.heap.size w w'

set_option maxHeartbeats 400000 in
theorem quotaLeft_any (p R cap : Nat) (bs : List Nat) (st : List Ac) (q : Int) (w : World) (h : Acc w p R cap bs st) (hl : st.length ≤ 8) (hok : AllOk st) :
    Calls Try.prog 11 #[.pointer (some ⟨p, 0, none⟩), .int .i64 q] w (LeftPost st q w) := by
  have c0 : w.cell? ⟨p, 0, none⟩ = some (.slice (some ⟨R, 0, none⟩) st.length cap) := cell_of_block h.head 0
  have lp := lt_of_block h.head
  by_cases hq : q < 0 ∨ (st.length : Int) ≤ q
  · have HT := Lib.hid (show leftF st q = (⟨0, 0⟩, 3) by
      unfold leftF
      by_cases h0 : 0 ≤ q
      · rw [if_pos h0, List.getElem?_eq_none (by omega)]
      · rw [if_neg h0])
    clear h hok
    by_cases hq0 : q < 0
    · go_enter Try.func11, Try.ntmps11
      go_wp2
      refine bodyPost_ret (v := .tuple #[.agg #[.int .i64 0, .int .i64 0], .int .i64 3]) ?_ rfl ⟨by rw [HT.out], (Below.refl _ _).alloc (Nat.le_refl _) _⟩
      simp [results, Try.results11, go_sem]
    · have hq1 : (st.length : Int) ≤ q := by omega
      go_enter Try.func11, Try.ntmps11
      go_wp2
      refine bodyPost_ret (v := .tuple #[.agg #[.int .i64 0, .int .i64 0], .int .i64 3]) ?_ rfl ⟨by rw [HT.out], (Below.refl _ _).alloc (Nat.le_refl _) _⟩
      simp [results, Try.results11, go_sem]
  · obtain ⟨n, rfl⟩ : ∃ n : Nat, q = n := ⟨q.toNat, by omega⟩
    have hn : n < st.length := by omega
    obtain ⟨cs, hrow, hcs⟩ := h.row
    have hqb : n < bs.length := by rw [h.len]; exact hn
    obtain ⟨b, hb⟩ : ∃ b, bs[n] = b := ⟨_, rfl⟩
    obtain ⟨x, hx⟩ : ∃ x, st[n] = x := ⟨_, rfl⟩
    obtain ⟨o1, o2, o3, o4, o5, o6⟩ := hok st[n] (List.getElem_mem _)
    have heach := h.each n hn hqb
    rw [hx] at o1 o2 o3 o4 o5 o6 heach
    rw [hb] at heach
    have HT := Lib.hid (show leftF st n = (⟨x.g - x.ug, x.c - x.uc⟩, 0) by unfold leftF; simp [List.getElem?_eq_getElem hn, hx])
    have c1 : w.cell? ⟨R, n, none⟩ = some (.pointer (some ⟨b, 0, none⟩)) := by rw [← hb]; exact (cell_of_block hrow n).trans (hcs n hqb)
    have i0 : (n : Int) < (st.length : Int) := by omega
    have lR := lt_of_block hrow
    have lb := lt_of_block heach
    have HE := Lib.hid heach
    clear h hok hx hb heach hrow hcs
    go_enter Try.func11, Try.ntmps11
    go_wp2_with fail
    refine (left_any b x.g x.c x.ug x.uc _ (by rw [Below.heap_alloc _ _ _ lb]; exact HE.out) o1 o2 o3 o4 o5 o6).mono ?_
    rintro e w1 ⟨rfl, hb1⟩
    have s1 := hb1.size
    simp only [World.size_alloc] at s1
    have bq : w1.heap[w.heap.size]? = some (.cells #[.int .i64 0, .int .i64 0] 25 (0, 0)) := by rw [hb1.block _ (by simp)]; exact World.alloc_heap_new w _
    have e0 : w1.cell? ⟨w.heap.size, 0, none⟩ = some (.int .i64 0) := cell_of_block bq 0
    have e1 : w1.cell? ⟨w.heap.size, 1, none⟩ = some (.int .i64 0) := cell_of_block bq 1
    have f0 : w1.frozen? ⟨w.heap.size, 0, none⟩ = false := frozen_of_block bq 0
    have f1 : w1.frozen? ⟨w.heap.size, 1, none⟩ = false := frozen_of_block bq 1
    clear bq c0 c1
    go_wp2
    refine bodyPost_ret (v := .tuple #[.agg #[.int .i64 (x.g - x.ug), .int .i64 (x.c - x.uc)], .int .i64 0]) ?_ rfl ⟨by rw [HT.out], ?_⟩
    · simp [results, Try.results11, go_sem, e0, e1]
    · exact ((((Below.refl _ _).alloc (Nat.le_refl _) _).trans (hb1.mono (by simp))).setCell (by simp) _).setCell (by simp) _
end Go.Proofs.Ytljnajkoeilmoaa
