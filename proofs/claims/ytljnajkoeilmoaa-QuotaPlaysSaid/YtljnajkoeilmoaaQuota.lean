/-
  quota: what an Accounts holds, and the contracts of its functions.
-/
import Derived.Test.YtljnajkoeilmoaaProg
import Derived.Test.YtljnajkoeilmoaaFr
import Derived.KernelRfl
import Derived.Deep.QuietTactic
import Derived.BigQuiet
import Derived.BigRegion
import Derived.Lib.Hide
import Derived.Deep.RegionHeld3
set_option linter.unusedVariables false
set_option linter.unusedSimpArgs false
namespace Go.Proofs.Ytljnajkoeilmoaa
open Go.RowKit

def rightB (g c : Int) : Bool := decide (0 ≤ g ∧ g ≤ 1048576 ∧ 0 ≤ c ∧ c ≤ 1048576)
def withinB (g c g' c' : Int) : Bool := decide (g ≤ g' ∧ c ≤ c')

set_option maxHeartbeats 400000 in
theorem right_any (g c : Int) (w : World) :
    Calls Try.prog 20 #[.agg #[.int .i64 g, .int .i64 c]] w fun e w' => e = .returned (.bool (rightB g c)) ∧ Below w.heap.size w w' := by
  go_enter Try.func20, Try.ntmps20
  go_wp2
  all_goals go_ret
  all_goals refine ⟨?_, (Below.refl _ _).alloc (Nat.le_refl _) _⟩
  all_goals refine ret_bool ?_
  all_goals simp [rightB]
  all_goals omega

set_option maxHeartbeats 400000 in
theorem within_any (g c g' c' : Int) (w : World) :
    Calls Try.prog 28 #[.agg #[.int .i64 g, .int .i64 c], .agg #[.int .i64 g', .int .i64 c']] w fun e w' => e = .returned (.bool (withinB g c g' c')) ∧ Below w.heap.size w w' := by
  go_enter Try.func28, Try.ntmps28
  go_wp2
  all_goals go_ret
  all_goals refine ⟨?_, ((Below.refl _ _).alloc (Nat.le_refl _) _).alloc (by simp) _⟩
  all_goals simp [withinB]
  all_goals omega

/-- an account's cells -/
def acell (g c ug uc : Int) : Array Value := #[.int .i64 g, .int .i64 c, .int .i64 ug, .int .i64 uc]

set_option maxHeartbeats 400000 in
theorem left_any (b : Nat) (g c ug uc : Int) (w : World) (hb : w.heap[b]? = some (.cells (acell g c ug uc) 59 (0, 0))) (h1 : 0 ≤ ug) (h2 : ug ≤ g) (h3 : g ≤ 1048576) (h4 : 0 ≤ uc) (h5 : uc ≤ c) (h6 : c ≤ 1048576) :
    Calls Try.prog 22 #[.pointer (some ⟨b, 0, none⟩)] w fun e w' => e = .returned (.agg #[.int .i64 (g - ug), .int .i64 (c - uc)]) ∧ Below w.heap.size w w' := by
  have c0 : w.cell? ⟨b, 0, none⟩ = some (.int .i64 g) := cell_of_block hb 0
  have c1 : w.cell? ⟨b, 1, none⟩ = some (.int .i64 c) := cell_of_block hb 1
  have c2 : w.cell? ⟨b, 2, none⟩ = some (.int .i64 ug) := cell_of_block hb 2
  have c3 : w.cell? ⟨b, 3, none⟩ = some (.int .i64 uc) := cell_of_block hb 3
  have hlt := lt_of_block hb
  clear hb
  go_enter Try.func22, Try.ntmps22
  go_wp2
  go_region
  go_wp2
  refine bodyPost_ret (v := .agg #[.int .i64 (g - ug), .int .i64 (c - uc)]) ?_ rfl ⟨rfl, ((Below.refl _ _).alloc (Nat.le_refl _) _).drew⟩
  simp [results, Try.results22, go_sem]

set_option maxHeartbeats 400000 in
theorem now_any (b : Nat) (g c ug uc : Int) (w : World) (hb : w.heap[b]? = some (.cells (acell g c ug uc) 59 (0, 0))) :
    Calls Try.prog 27 #[.pointer (some ⟨b, 0, none⟩)] w fun e w' => e = .returned (.agg #[.int .i64 ug, .int .i64 uc]) ∧ Below w.heap.size w w' := by
  have h2 : w.cell? ⟨b, 2, none⟩ = some (.int .i64 ug) := cell_of_block hb 2
  have h3 : w.cell? ⟨b, 3, none⟩ = some (.int .i64 uc) := cell_of_block hb 3
  have hlt := lt_of_block hb
  clear hb
  go_enter Try.func27, Try.ntmps27
  go_wp2
  refine bodyPost_ret (v := .agg #[.int .i64 ug, .int .i64 uc]) ?_ rfl ⟨rfl, ((Below.refl _ _).alloc (Nat.le_refl _) _)⟩
  simp [results, Try.results27, go_sem]

/-- what an account is: its quota, and what is used of it -/
structure Ac where
  g : Int
  c : Int
  ug : Int
  uc : Int
def Ac.cells (x : Ac) : Array Value := acell x.g x.c x.ug x.uc
/-- all that an account may be -/
def Ac.ok (x : Ac) : Prop := 0 ≤ x.ug ∧ x.ug ≤ x.g ∧ x.g ≤ 1048576 ∧ 0 ≤ x.uc ∧ x.uc ≤ x.c ∧ x.c ≤ 1048576

/-- The accounts 'st' lie at block p. -/
structure Acc (w : World) (p R : Nat) (cap : Nat) (bs : List Nat) (st : List Ac) : Prop where
  len : bs.length = st.length
  le : st.length ≤ cap
  nd : (p :: R :: bs).Nodup
  head : w.heap[p]? = some (.cells #[.slice (some ⟨R, 0, none⟩) st.length cap] 55 (0, 0))
  row : ∃ cs : Array Value, w.heap[R]? = some (.cells cs 57 (0, 0)) ∧ ∀ (i : Nat) (h : i < bs.length), cs[i]? = some (.pointer (some ⟨bs[i], 0, none⟩))
  each : ∀ (i : Nat) (h : i < st.length) (h' : i < bs.length), w.heap[bs[i]]? = some (.cells st[i].cells 59 (0, 0))

/-- its footprint -/
def AccF (p R : Nat) (bs : List Nat) (k : Nat) : Prop := k = p ∨ k = R ∨ k ∈ bs

theorem Acc.frame {w w' : World} {p R cap : Nat} {bs : List Nat} {st : List Ac} (h : Acc w p R cap bs st) (hs : ∀ k, AccF p R bs k → w'.heap[k]? = w.heap[k]?) : Acc w' p R cap bs st := by
  obtain ⟨cs, hr, hc⟩ := h.row
  exact ⟨h.len, h.le, h.nd, (hs p (.inl rfl)).trans h.head, ⟨cs, (hs R (.inr (.inl rfl))).trans hr, hc⟩, fun i hi hi' => (hs _ (.inr (.inr (List.getElem_mem _)))).trans (h.each i hi hi')⟩
theorem Acc.lt {w : World} {p R cap : Nat} {bs : List Nat} {st : List Ac} (h : Acc w p R cap bs st) {k : Nat} (hk : AccF p R bs k) : k < w.heap.size := by
  obtain ⟨cs, hr, hc⟩ := h.row
  rcases hk with rfl | rfl | hk
  · exact lt_of_block h.head
  · exact lt_of_block hr
  · obtain ⟨i, hi, rfl⟩ := List.getElem_of_mem hk
    exact lt_of_block (h.each i (by rw [← h.len]; exact hi) hi)

/-- what turn tells, and what it leaves -/
def ofF (sub : Bool) (x : Ac) : Int × Int := if sub then (x.ug, x.uc) else (x.g - x.ug, x.c - x.uc)
def turnBy (sub : Bool) (x : Ac) (g c : Int) : Ac := if sub then { x with ug := x.ug - g, uc := x.uc - c } else { x with ug := x.ug + g, uc := x.uc + c }
def turnF (sub : Bool) (st : List Ac) (q g c : Int) : Int × List Ac :=
  if 0 ≤ q then
    match st[q.toNat]? with
    | none => (3, st)
    | some x => if rightB g c = false then (1, st) else if withinB g c (ofF sub x).1 (ofF sub x).2 = false then ((if sub then 13 else 6), st) else (0, st.set q.toNat (turnBy sub x g c))
  else (3, st)

/-- the accounts with one turned -/
theorem Acc.set {w w' : World} {p R cap : Nat} {bs : List Nat} {st : List Ac} (h : Acc w p R cap bs st) {q b : Nat} (hq : q < bs.length) (hb : bs[q] = b) (y : Ac)
    (hn : w'.heap[b]? = some (.cells y.cells 59 (0, 0))) (hs : ∀ k, k ≠ b → k < w.heap.size → w'.heap[k]? = w.heap[k]?) : Acc w' p R cap bs (st.set q y) := by
  obtain ⟨cs, hr, hc⟩ := h.row
  have nd := h.nd
  simp only [List.nodup_cons, List.mem_cons, not_or] at nd
  have hbm : b ∈ bs := hb ▸ List.getElem_mem _
  refine ⟨by simp [h.len], by simpa using h.le, h.nd, ?_, ⟨cs, ?_, hc⟩, fun i hi hi' => ?_⟩
  · rw [hs p (fun e => nd.1.2 (e ▸ hbm)) (lt_of_block h.head), h.head]; simp
  · rw [hs R (fun e => nd.2.1 (e ▸ hbm)) (lt_of_block hr), hr]
  · by_cases e : q = i
    · subst e; simp [hb, hn]
    · have hne : bs[i] ≠ b := by
        intro e'
        have := List.pairwise_iff_getElem.1 nd.2.2
        rcases Nat.lt_or_gt_of_ne e with hlt | hlt
        · exact this q i hq hi' hlt (hb.trans e'.symm)
        · exact this i q hi' hq hlt (e'.trans hb.symm)
      have hi2 : i < st.length := by simpa using hi
      rw [hs _ hne (lt_of_block (h.each i hi2 hi')), h.each i hi2 hi']
      simp [List.getElem_set_ne e]

theorem turn_out (p R cap : Nat) (bs : List Nat) (st : List Ac) (q g c ov by' : Int) (fv : Value) (w : World) (h : Acc w p R cap bs st) (hl : st.length ≤ 8) (hq : q < 0 ∨ (st.length : Int) ≤ q) :
    Calls Try.prog 23 #[.pointer (some ⟨p, 0, none⟩), .int .i64 q, .agg #[.int .i64 g, .int .i64 c], fv, .int .i64 ov, .int .i64 by'] w fun e w' => e = .returned (.int .i64 3) ∧ Below w.heap.size w w' := by
  have c0 : w.cell? ⟨p, 0, none⟩ = some (.slice (some ⟨R, 0, none⟩) st.length cap) := cell_of_block h.head 0
  have lp := lt_of_block h.head
  clear h
  by_cases hq0 : q < 0
  · go_enter Try.func23, Try.ntmps23
    go_wp2
    go_ret
    exact ⟨rfl, (Below.refl _ _).alloc (Nat.le_refl _) _⟩
  · have hq1 : (st.length : Int) ≤ q := by omega
    go_enter Try.func23, Try.ntmps23
    go_wp2
    go_ret
    exact ⟨rfl, (Below.refl _ _).alloc (Nat.le_refl _) _⟩

set_option maxHeartbeats 400000 in
theorem turn_wrong (p R cap : Nat) (bs : List Nat) (st : List Ac) (q : Nat) (g c ov by' : Int) (fv : Value) (w : World) (h : Acc w p R cap bs st) (hl : st.length ≤ 8) (hq : q < st.length) (hr : rightB g c = false) :
    Calls Try.prog 23 #[.pointer (some ⟨p, 0, none⟩), .int .i64 q, .agg #[.int .i64 g, .int .i64 c], fv, .int .i64 ov, .int .i64 by'] w fun e w' => e = .returned (.int .i64 1) ∧ Below w.heap.size w w' := by
  obtain ⟨cs, hrow, hcs⟩ := h.row
  have hqb : q < bs.length := by rw [h.len]; exact hq
  obtain ⟨b, hb⟩ : ∃ b, bs[q] = b := ⟨_, rfl⟩
  have c0 : w.cell? ⟨p, 0, none⟩ = some (.slice (some ⟨R, 0, none⟩) st.length cap) := cell_of_block h.head 0
  have c1 : w.cell? ⟨R, q, none⟩ = some (.pointer (some ⟨b, 0, none⟩)) := by rw [← hb]; exact (cell_of_block hrow q).trans (hcs q hqb)
  have i0 : (q : Int) < (st.length : Int) := by omega
  have lp := lt_of_block h.head
  have lR := lt_of_block hrow
  have HRB := Lib.hid hr
  clear h hb hrow hr hcs
  go_enter Try.func23, Try.ntmps23
  go_wp2_with fail
  refine (right_any _ _ _).mono ?_
  rintro e w1 ⟨rfl, hb1⟩
  rw [HRB.out]
  go_wp2
  go_ret
  exact ⟨rfl, ((Below.refl _ _).alloc (Nat.le_refl _) _).trans (hb1.mono (by simp))⟩

set_option maxHeartbeats 1000000 in
theorem turn_add (p R cap : Nat) (bs : List Nat) (st : List Ac) (q : Nat) (g c : Int) (w : World) (h : Acc w p R cap bs st) (hl : st.length ≤ 8) (hq : q < st.length) (hok : ∀ x ∈ st, x.ok)
    (hr : rightB g c = true) (hw : withinB g c (ofF false st[q]).1 (ofF false st[q]).2 = true) :
    Calls Try.prog 23 #[.pointer (some ⟨p, 0, none⟩), .int .i64 q, .agg #[.int .i64 g, .int .i64 c], .func (.func 22) #[] #[], .int .i64 6, .int .i64 1] w fun e w' =>
      e = .returned (.int .i64 0) ∧ Acc w' p R cap bs (st.set q (turnBy false st[q] g c)) ∧ Fr w.heap.size (AccF p R bs) w w' := by
  obtain ⟨cs, hrow, hcs⟩ := h.row
  have hqb : q < bs.length := by rw [h.len]; exact hq
  obtain ⟨b, hb⟩ : ∃ b, bs[q] = b := ⟨_, rfl⟩
  obtain ⟨x, hx⟩ : ∃ x, st[q] = x := ⟨_, rfl⟩
  have hok' := hok st[q] (List.getElem_mem _)
  have heach := h.each q hq hqb
  rw [hx] at hok' hw heach ⊢
  rw [hb] at heach
  obtain ⟨o1, o2, o3, o4, o5, o6⟩ := hok'
  have hr' := hr
  simp only [rightB, decide_eq_true_eq] at hr'
  obtain ⟨g1, g2, g3, g4⟩ := hr'
  simp only [ofF, Bool.false_eq_true, if_false, if_true] at hw
  have c0 : w.cell? ⟨p, 0, none⟩ = some (.slice (some ⟨R, 0, none⟩) st.length cap) := cell_of_block h.head 0
  have c1 : w.cell? ⟨R, q, none⟩ = some (.pointer (some ⟨b, 0, none⟩)) := by rw [← hb]; exact (cell_of_block hrow q).trans (hcs q hqb)
  have i0 : (q : Int) < (st.length : Int) := by omega
  have lp := lt_of_block h.head
  have lR := lt_of_block hrow
  have lb := lt_of_block heach
  have H := Lib.hid h; have HX := Lib.hid hx; have HB := Lib.hid hb; have HE := Lib.hid heach; have HR := Lib.hid hrow
  have HRB := Lib.hid hr; have HW := Lib.hid hw
  clear h hx hb heach hrow hr hw hcs hok
  go_enter Try.func23, Try.ntmps23
  go_wp2_with fail
  refine (right_any _ _ _).mono ?_
  rintro e w1 ⟨rfl, hb1⟩
  rw [HRB.out]
  have s1 := hb1.size
  simp only [World.size_alloc] at s1
  have HK := Lib.hid (show w1.heap[b]? = some (.cells (acell x.g x.c x.ug x.uc) 59 (0, 0)) from by rw [hb1.block b (by simp; omega), Below.heap_alloc _ _ _ lb]; exact HE.out)
  go_wp2_with fail
  have d0 : ∀ x : Later w1, x.wd.cell? ⟨w.heap.size, 0, none⟩ = some (.int .i64 g) := fun x => by rw [x.cell (by omega), hb1.cell (p := ⟨w.heap.size, 0, none⟩) (by simp)]; simp
  have d1 : ∀ x : Later w1, x.wd.cell? ⟨w.heap.size, 1, none⟩ = some (.int .i64 c) := fun x => by rw [x.cell (by omega), hb1.cell (p := ⟨w.heap.size, 1, none⟩) (by simp)]; simp
  refine wp_region_later (by kernel_rfl) (by kernel_rfl) ?_
  repeat (quiet_step (first
    | (go_at_call 22; exact Calls.later (left_any b x.g x.c x.ug x.uc _ (by rw [Later.block _ (by omega)]; exact HK.out) o1 o2 o3 o4 o5 o6))
    | (go_at_call 28; exact Calls.later (within_any _ _ _ _ _))))
  refine wpQuiet_nil ?_
  rintro w2 ⟨⟨_, hb2⟩, rfl⟩
  rw [HW.out]
  clear d0 d1
  have l2 := hb2.size
  have bb : ∀ k, k < w.heap.size → w2.heap[k]? = w.heap[k]? := fun k hk => by rw [hb2.block k (by omega), hb1.block k (by simp; omega), Below.heap_alloc _ _ _ hk]
  have bq : w2.heap[w.heap.size]? = some (.cells #[.int .i64 g, .int .i64 c] 25 (0, 0)) := by rw [hb2.block _ (by omega), hb1.block _ (by simp)]; exact World.alloc_heap_new w _
  have e4 : w2.cell? ⟨b, 2, none⟩ = some (.int .i64 x.ug) := cell_of_block ((bb b lb).trans HE.out) 2
  have e5 : w2.cell? ⟨b, 3, none⟩ = some (.int .i64 x.uc) := cell_of_block ((bb b lb).trans HE.out) 3
  have f4 : w2.frozen? ⟨b, 2, none⟩ = false := frozen_of_block ((bb b lb).trans HE.out) 2
  have f5 : w2.frozen? ⟨b, 3, none⟩ = false := frozen_of_block ((bb b lb).trans HE.out) 3
  have e6 : w2.cell? ⟨w.heap.size, 0, none⟩ = some (.int .i64 g) := cell_of_block bq 0
  have e7 : w2.cell? ⟨w.heap.size, 1, none⟩ = some (.int .i64 c) := cell_of_block bq 1
  have hne : b ≠ w.heap.size := by omega
  have HBB := Lib.hid bb
  have hB2 := ((Below.refl w.heap.size w).alloc (Nat.le_refl _) (.cells #[.int .i64 g, .int .i64 c] 25)).trans ((hb1.mono (by simp)).trans (hb2.mono (by omega)))
  clear bb bq c0 c1 HK s1
  go_wp2
  go_region
  go_wp2
  go_region
  go_wp2
  go_ret
  have hbl := setCell_block ((setCell_block ((HBB.out b lb).trans HE.out) 2 (.int .i64 (x.ug + g)))) 3 (.int .i64 (x.uc + c))
  have hother : ∀ k, k ≠ b → k < w.heap.size → (((w2.setCell ⟨b, 2, none⟩ (.int .i64 (x.ug + g))).setCell ⟨b, 3, none⟩ (.int .i64 (x.uc + c))).drew.drew).heap[k]? = w.heap[k]? := fun k hk hlt => by
    show ((w2.setCell ⟨b, 2, none⟩ (.int .i64 (x.ug + g))).setCell ⟨b, 3, none⟩ (.int .i64 (x.uc + c))).heap[k]? = _
    rw [setCell_other _ hk, setCell_other _ hk, HBB.out k hlt]
  refine ⟨rfl, H.out.set hqb HB.out _ ?_ hother, ?_⟩
  · exact hbl
  · have hbF : AccF p R bs b := .inr (.inr (HB.out ▸ List.getElem_mem _))
    exact (((Fr.of_below hB2 _).setCell (p := ⟨b, 2, none⟩) (.inr hbF) _).setCell (p := ⟨b, 3, none⟩) (.inr hbF) _).drew.drew

set_option maxHeartbeats 1000000 in
theorem turn_add_no (p R cap : Nat) (bs : List Nat) (st : List Ac) (q : Nat) (g c : Int) (w : World) (h : Acc w p R cap bs st) (hl : st.length ≤ 8) (hq : q < st.length) (hok : ∀ x ∈ st, x.ok)
    (hr : rightB g c = true) (hw : withinB g c (ofF false st[q]).1 (ofF false st[q]).2 = false) :
    Calls Try.prog 23 #[.pointer (some ⟨p, 0, none⟩), .int .i64 q, .agg #[.int .i64 g, .int .i64 c], .func (.func 22) #[] #[], .int .i64 6, .int .i64 1] w fun e w' =>
      e = .returned (.int .i64 6) ∧ Below w.heap.size w w' := by
  obtain ⟨cs, hrow, hcs⟩ := h.row
  have hqb : q < bs.length := by rw [h.len]; exact hq
  obtain ⟨b, hb⟩ : ∃ b, bs[q] = b := ⟨_, rfl⟩
  obtain ⟨x, hx⟩ : ∃ x, st[q] = x := ⟨_, rfl⟩
  have hok' := hok st[q] (List.getElem_mem _)
  have heach := h.each q hq hqb
  rw [hx] at hok' hw heach
  rw [hb] at heach
  obtain ⟨o1, o2, o3, o4, o5, o6⟩ := hok'
  have hr' := hr
  simp only [rightB, decide_eq_true_eq] at hr'
  obtain ⟨g1, g2, g3, g4⟩ := hr'
  simp only [ofF, Bool.false_eq_true, if_false, if_true] at hw
  have c0 : w.cell? ⟨p, 0, none⟩ = some (.slice (some ⟨R, 0, none⟩) st.length cap) := cell_of_block h.head 0
  have c1 : w.cell? ⟨R, q, none⟩ = some (.pointer (some ⟨b, 0, none⟩)) := by rw [← hb]; exact (cell_of_block hrow q).trans (hcs q hqb)
  have i0 : (q : Int) < (st.length : Int) := by omega
  have lp := lt_of_block h.head
  have lR := lt_of_block hrow
  have lb := lt_of_block heach
  have H := Lib.hid h; have HX := Lib.hid hx; have HB := Lib.hid hb; have HE := Lib.hid heach; have HR := Lib.hid hrow
  have HRB := Lib.hid hr; have HW := Lib.hid hw
  clear h hx hb heach hrow hr hw hcs hok
  go_enter Try.func23, Try.ntmps23
  go_wp2_with fail
  refine (right_any _ _ _).mono ?_
  rintro e w1 ⟨rfl, hb1⟩
  rw [HRB.out]
  have s1 := hb1.size
  simp only [World.size_alloc] at s1
  have HK := Lib.hid (show w1.heap[b]? = some (.cells (acell x.g x.c x.ug x.uc) 59 (0, 0)) from by rw [hb1.block b (by simp; omega), Below.heap_alloc _ _ _ lb]; exact HE.out)
  go_wp2_with fail
  have d0 : ∀ x : Later w1, x.wd.cell? ⟨w.heap.size, 0, none⟩ = some (.int .i64 g) := fun x => by rw [x.cell (by omega), hb1.cell (p := ⟨w.heap.size, 0, none⟩) (by simp)]; simp
  have d1 : ∀ x : Later w1, x.wd.cell? ⟨w.heap.size, 1, none⟩ = some (.int .i64 c) := fun x => by rw [x.cell (by omega), hb1.cell (p := ⟨w.heap.size, 1, none⟩) (by simp)]; simp
  refine wp_region_later (by kernel_rfl) (by kernel_rfl) ?_
  repeat (quiet_step (first
    | (go_at_call 22; exact Calls.later (left_any b x.g x.c x.ug x.uc _ (by rw [Later.block _ (by omega)]; exact HK.out) o1 o2 o3 o4 o5 o6))
    | (go_at_call 28; exact Calls.later (within_any _ _ _ _ _))))
  refine wpQuiet_nil ?_
  rintro w2 ⟨⟨_, hb2⟩, rfl⟩
  rw [HW.out]
  clear d0 d1
  go_wp2
  go_ret
  exact ⟨rfl, ((Below.refl _ _).alloc (Nat.le_refl _) _).trans ((hb1.mono (by simp)).trans (hb2.mono (by omega)))⟩

set_option maxHeartbeats 1000000 in
theorem turn_sub (p R cap : Nat) (bs : List Nat) (st : List Ac) (q : Nat) (g c : Int) (w : World) (h : Acc w p R cap bs st) (hl : st.length ≤ 8) (hq : q < st.length) (hok : ∀ x ∈ st, x.ok)
    (hr : rightB g c = true) (hw : withinB g c (ofF true st[q]).1 (ofF true st[q]).2 = true) :
    Calls Try.prog 23 #[.pointer (some ⟨p, 0, none⟩), .int .i64 q, .agg #[.int .i64 g, .int .i64 c], .func (.func 27) #[] #[], .int .i64 13, .int .i64 (-1)] w fun e w' =>
      e = .returned (.int .i64 0) ∧ Acc w' p R cap bs (st.set q (turnBy true st[q] g c)) ∧ Fr w.heap.size (AccF p R bs) w w' := by
  obtain ⟨cs, hrow, hcs⟩ := h.row
  have hqb : q < bs.length := by rw [h.len]; exact hq
  obtain ⟨b, hb⟩ : ∃ b, bs[q] = b := ⟨_, rfl⟩
  obtain ⟨x, hx⟩ : ∃ x, st[q] = x := ⟨_, rfl⟩
  have hok' := hok st[q] (List.getElem_mem _)
  have heach := h.each q hq hqb
  rw [hx] at hok' hw heach ⊢
  rw [hb] at heach
  obtain ⟨o1, o2, o3, o4, o5, o6⟩ := hok'
  have hr' := hr
  simp only [rightB, decide_eq_true_eq] at hr'
  obtain ⟨g1, g2, g3, g4⟩ := hr'
  simp only [ofF, Bool.false_eq_true, if_false, if_true] at hw
  have c0 : w.cell? ⟨p, 0, none⟩ = some (.slice (some ⟨R, 0, none⟩) st.length cap) := cell_of_block h.head 0
  have c1 : w.cell? ⟨R, q, none⟩ = some (.pointer (some ⟨b, 0, none⟩)) := by rw [← hb]; exact (cell_of_block hrow q).trans (hcs q hqb)
  have i0 : (q : Int) < (st.length : Int) := by omega
  have lp := lt_of_block h.head
  have lR := lt_of_block hrow
  have lb := lt_of_block heach
  have H := Lib.hid h; have HX := Lib.hid hx; have HB := Lib.hid hb; have HE := Lib.hid heach; have HR := Lib.hid hrow
  have HRB := Lib.hid hr; have HW := Lib.hid hw
  clear h hx hb heach hrow hr hw hcs hok
  go_enter Try.func23, Try.ntmps23
  go_wp2_with fail
  refine (right_any _ _ _).mono ?_
  rintro e w1 ⟨rfl, hb1⟩
  rw [HRB.out]
  have s1 := hb1.size
  simp only [World.size_alloc] at s1
  have HK := Lib.hid (show w1.heap[b]? = some (.cells (acell x.g x.c x.ug x.uc) 59 (0, 0)) from by rw [hb1.block b (by simp; omega), Below.heap_alloc _ _ _ lb]; exact HE.out)
  go_wp2_with fail
  have d0 : ∀ x : Later w1, x.wd.cell? ⟨w.heap.size, 0, none⟩ = some (.int .i64 g) := fun x => by rw [x.cell (by omega), hb1.cell (p := ⟨w.heap.size, 0, none⟩) (by simp)]; simp
  have d1 : ∀ x : Later w1, x.wd.cell? ⟨w.heap.size, 1, none⟩ = some (.int .i64 c) := fun x => by rw [x.cell (by omega), hb1.cell (p := ⟨w.heap.size, 1, none⟩) (by simp)]; simp
  refine wp_region_later (by kernel_rfl) (by kernel_rfl) ?_
  repeat (quiet_step (first
    | (go_at_call 27; exact Calls.later (now_any b x.g x.c x.ug x.uc _ (by rw [Later.block _ (by omega)]; exact HK.out)))
    | (go_at_call 28; exact Calls.later (within_any _ _ _ _ _))))
  refine wpQuiet_nil ?_
  rintro w2 ⟨⟨_, hb2⟩, rfl⟩
  rw [HW.out]
  clear d0 d1
  have l2 := hb2.size
  have bb : ∀ k, k < w.heap.size → w2.heap[k]? = w.heap[k]? := fun k hk => by rw [hb2.block k (by omega), hb1.block k (by simp; omega), Below.heap_alloc _ _ _ hk]
  have bq : w2.heap[w.heap.size]? = some (.cells #[.int .i64 g, .int .i64 c] 25 (0, 0)) := by rw [hb2.block _ (by omega), hb1.block _ (by simp)]; exact World.alloc_heap_new w _
  have e4 : w2.cell? ⟨b, 2, none⟩ = some (.int .i64 x.ug) := cell_of_block ((bb b lb).trans HE.out) 2
  have e5 : w2.cell? ⟨b, 3, none⟩ = some (.int .i64 x.uc) := cell_of_block ((bb b lb).trans HE.out) 3
  have f4 : w2.frozen? ⟨b, 2, none⟩ = false := frozen_of_block ((bb b lb).trans HE.out) 2
  have f5 : w2.frozen? ⟨b, 3, none⟩ = false := frozen_of_block ((bb b lb).trans HE.out) 3
  have e6 : w2.cell? ⟨w.heap.size, 0, none⟩ = some (.int .i64 g) := cell_of_block bq 0
  have e7 : w2.cell? ⟨w.heap.size, 1, none⟩ = some (.int .i64 c) := cell_of_block bq 1
  have hne : b ≠ w.heap.size := by omega
  have HBB := Lib.hid bb
  have hB2 := ((Below.refl w.heap.size w).alloc (Nat.le_refl _) (.cells #[.int .i64 g, .int .i64 c] 25)).trans ((hb1.mono (by simp)).trans (hb2.mono (by omega)))
  clear bb bq c0 c1 HK s1
  go_wp2
  go_region
  go_wp2
  go_region
  go_wp2
  go_ret
  have hbl := setCell_block ((setCell_block ((HBB.out b lb).trans HE.out) 2 (.int .i64 (x.ug - g)))) 3 (.int .i64 (x.uc - c))
  have hother : ∀ k, k ≠ b → k < w.heap.size → (((w2.setCell ⟨b, 2, none⟩ (.int .i64 (x.ug - g))).setCell ⟨b, 3, none⟩ (.int .i64 (x.uc - c))).drew.drew).heap[k]? = w.heap[k]? := fun k hk hlt => by
    show ((w2.setCell ⟨b, 2, none⟩ (.int .i64 (x.ug - g))).setCell ⟨b, 3, none⟩ (.int .i64 (x.uc - c))).heap[k]? = _
    rw [setCell_other _ hk, setCell_other _ hk, HBB.out k hlt]
  refine ⟨rfl, H.out.set hqb HB.out _ ?_ hother, ?_⟩
  · exact hbl
  · have hbF : AccF p R bs b := .inr (.inr (HB.out ▸ List.getElem_mem _))
    exact (((Fr.of_below hB2 _).setCell (p := ⟨b, 2, none⟩) (.inr hbF) _).setCell (p := ⟨b, 3, none⟩) (.inr hbF) _).drew.drew

set_option maxHeartbeats 1000000 in
theorem turn_sub_no (p R cap : Nat) (bs : List Nat) (st : List Ac) (q : Nat) (g c : Int) (w : World) (h : Acc w p R cap bs st) (hl : st.length ≤ 8) (hq : q < st.length) (hok : ∀ x ∈ st, x.ok)
    (hr : rightB g c = true) (hw : withinB g c (ofF true st[q]).1 (ofF true st[q]).2 = false) :
    Calls Try.prog 23 #[.pointer (some ⟨p, 0, none⟩), .int .i64 q, .agg #[.int .i64 g, .int .i64 c], .func (.func 27) #[] #[], .int .i64 13, .int .i64 (-1)] w fun e w' =>
      e = .returned (.int .i64 13) ∧ Below w.heap.size w w' := by
  obtain ⟨cs, hrow, hcs⟩ := h.row
  have hqb : q < bs.length := by rw [h.len]; exact hq
  obtain ⟨b, hb⟩ : ∃ b, bs[q] = b := ⟨_, rfl⟩
  obtain ⟨x, hx⟩ : ∃ x, st[q] = x := ⟨_, rfl⟩
  have hok' := hok st[q] (List.getElem_mem _)
  have heach := h.each q hq hqb
  rw [hx] at hok' hw heach
  rw [hb] at heach
  obtain ⟨o1, o2, o3, o4, o5, o6⟩ := hok'
  have hr' := hr
  simp only [rightB, decide_eq_true_eq] at hr'
  obtain ⟨g1, g2, g3, g4⟩ := hr'
  simp only [ofF, Bool.false_eq_true, if_false, if_true] at hw
  have c0 : w.cell? ⟨p, 0, none⟩ = some (.slice (some ⟨R, 0, none⟩) st.length cap) := cell_of_block h.head 0
  have c1 : w.cell? ⟨R, q, none⟩ = some (.pointer (some ⟨b, 0, none⟩)) := by rw [← hb]; exact (cell_of_block hrow q).trans (hcs q hqb)
  have i0 : (q : Int) < (st.length : Int) := by omega
  have lp := lt_of_block h.head
  have lR := lt_of_block hrow
  have lb := lt_of_block heach
  have H := Lib.hid h; have HX := Lib.hid hx; have HB := Lib.hid hb; have HE := Lib.hid heach; have HR := Lib.hid hrow
  have HRB := Lib.hid hr; have HW := Lib.hid hw
  clear h hx hb heach hrow hr hw hcs hok
  go_enter Try.func23, Try.ntmps23
  go_wp2_with fail
  refine (right_any _ _ _).mono ?_
  rintro e w1 ⟨rfl, hb1⟩
  rw [HRB.out]
  have s1 := hb1.size
  simp only [World.size_alloc] at s1
  have HK := Lib.hid (show w1.heap[b]? = some (.cells (acell x.g x.c x.ug x.uc) 59 (0, 0)) from by rw [hb1.block b (by simp; omega), Below.heap_alloc _ _ _ lb]; exact HE.out)
  go_wp2_with fail
  have d0 : ∀ x : Later w1, x.wd.cell? ⟨w.heap.size, 0, none⟩ = some (.int .i64 g) := fun x => by rw [x.cell (by omega), hb1.cell (p := ⟨w.heap.size, 0, none⟩) (by simp)]; simp
  have d1 : ∀ x : Later w1, x.wd.cell? ⟨w.heap.size, 1, none⟩ = some (.int .i64 c) := fun x => by rw [x.cell (by omega), hb1.cell (p := ⟨w.heap.size, 1, none⟩) (by simp)]; simp
  refine wp_region_later (by kernel_rfl) (by kernel_rfl) ?_
  repeat (quiet_step (first
    | (go_at_call 27; exact Calls.later (now_any b x.g x.c x.ug x.uc _ (by rw [Later.block _ (by omega)]; exact HK.out)))
    | (go_at_call 28; exact Calls.later (within_any _ _ _ _ _))))
  refine wpQuiet_nil ?_
  rintro w2 ⟨⟨_, hb2⟩, rfl⟩
  rw [HW.out]
  clear d0 d1
  go_wp2
  go_ret
  exact ⟨rfl, ((Below.refl _ _).alloc (Nat.le_refl _) _).trans ((hb1.mono (by simp)).trans (hb2.mono (by omega)))⟩
end Go.Proofs.Ytljnajkoeilmoaa
