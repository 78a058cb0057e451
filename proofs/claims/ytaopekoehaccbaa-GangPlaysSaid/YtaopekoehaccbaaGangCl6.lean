/-
  gang's Reserve, Start, Turn, Resize, Get.
-/
import Derived.Test.YtaopekoehaccbaaGangCl5
set_option linter.unusedVariables false
set_option linter.unusedSimpArgs false
namespace Go.Proofs.Ytaopekoehaccbaa
open Go.RowKit Go.Maps

theorem enters_r2 : Enters 31 := fun args w => by kernel_rfl
theorem enters_s1 : Enters 32 := fun args w => by kernel_rfl
theorem enters_s2 : Enters 33 := fun args w => by kernel_rfl
theorem enters_t1 : Enters 37 := fun args w => by kernel_rfl
theorem enters_t2 : Enters 38 := fun args w => by kernel_rfl
theorem enters_z1 : Enters 35 := fun args w => by kernel_rfl
theorem enters_g1 : Enters 36 := fun args w => by kernel_rfl
theorem enters_i1 : Enters 41 := fun args w => by kernel_rfl

def reserveF (members limit worker : Int) : Rc → Int × Rc := toF 1 (fun x => inB members x.job.shape.mn x.job.shape.mx) fun x => { x with members := members, limit := limit, worker := worker }
def startF (now : Int) (x : Rc) : Int × Rc :=
  toF 2 (fun _ => inB now 0 1073741824) (fun y => { y with began := now, fin := IntKind.i64.wrap (now + y.job.runtime), limit := 0, worker := 0 }) x
def turnF (ev : Int) : Rc → Int × Rc := toF ev (fun _ => true) fun x => { x with members := 0, limit := 0, worker := 0 }
def OpPost (base p M : Nat) (v : Value) (r : Int × List Rc) (w : World) (e : Ending) (w' : World) : Prop :=
  e = .returned (.int .i64 r.1) ∧ BookAt w' base p M v r.2 ∧ Fr w.heap.size (BF p M v) w w'

theorem calls_one {P : Program} {f : FuncId} {args : Array Value} {w : World} {o1 : Obj} {Q : Ending → World → Prop}
    (H : ∀ w3 : World, Below w.heap.size w w3 → w3.heap[w.heap.size]? = some o1 → w3.heap.size = w.heap.size + 1 → Calls P f args w3 Q) : Calls P f args (w.alloc o1) Q :=
  H _ ((Below.refl _ _).alloc (Nat.le_refl _) o1) (World.alloc_heap_new w o1) (World.size_alloc _ _)
theorem calls_two {P : Program} {f : FuncId} {args : Array Value} {w : World} {o1 o2 : Obj} {Q : Ending → World → Prop}
    (H : ∀ w3 : World, Below w.heap.size w w3 → w3.heap[w.heap.size]? = some o1 → w3.heap[w.heap.size + 1]? = some o2 → w3.heap.size = w.heap.size + 1 + 1 → Calls P f args w3 Q) : Calls P f args ((w.alloc o1).alloc o2) Q := by
  have s1 : (w.alloc o1).heap.size = w.heap.size + 1 := World.size_alloc _ _
  refine H _ (((Below.refl _ _).alloc (Nat.le_refl _) o1).alloc (by omega) o2) (alloc_other (World.alloc_heap_new w o1)) ?_ (by rw [World.size_alloc, s1])
  have := World.alloc_heap_new (w.alloc o1) o2
  rwa [s1] at this

theorem reserve_any (base p M : Nat) (v : Value) (l : List Rc) (id members limit worker : Int) (w : World) (h : BookAt w base p M v l) (hid : okInt id) (hl : l.length ≤ 1000000) :
    Calls Try.prog 15 #[.pointer (some ⟨p, 0, none⟩), .int .i64 id, .int .i64 members, .int .i64 limit, .int .i64 worker] w (OpPost base p M v (modR l id (reserveF members limit worker)) w) := by
  have lp := h.lt (.inl rfl)
  have H := Lib.hid h; have HID := Lib.hid hid
  clear h hid
  go_enter Try.func15, Try.ntmps15
  go_wp2_with fail
  refine calls_three fun w3 hb k0 k1 k2 hsz => ?_
  have hlt : w.heap.size + 1 + 1 < w3.heap.size := lt_of_block k2
  have nE : ∀ q, BF p M v q → q < w.heap.size := fun q hq => H.out.lt hq
  refine (to_any base p M v l id 1 30 31 _ _ (fun x => inB members x.job.shape.mn x.job.shape.mx) (fun x => { x with members := members, limit := limit, worker := worker }) (fun _ => False) (fun _ _ => True) w3 (H.out.later hb) HID.out hl enters_r1 enters_r2 (fun _ => rfl) (fun _ e => e.elim) (fun _ _ _ _ => trivial) ?_ ?_).mono ?_
  · intro x y
    have hcell : y.wd.cell? ⟨w.heap.size, 0, none⟩ = some (.int .i64 members) := (y.cell (by omega)).trans (cell_of_block k0 0)
    exact reserve1_any x w.heap.size members y.wd hcell _ rfl
  · intro R o x x' w1 hR hv hRlt hrec hfr he hx
    have hR2 := nE R (.inr (.inr hv))
    exact (reserve2_any R o x' (fun _ => False) w.heap.size (w.heap.size + 1) (w.heap.size + 1 + 1) members limit worker w1 hrec ((hfr.cell (p := ⟨w.heap.size, 0, none⟩) (by simp only; omega) (by simp only; omega)).trans (cell_of_block k0 0)) ((hfr.cell (p := ⟨w.heap.size + 1, 0, none⟩) (by simp only; omega) (by simp only; omega)).trans (cell_of_block k1 0)) ((hfr.cell (p := ⟨w.heap.size + 1 + 1, 0, none⟩) (by simp only; omega) (by simp only; omega)).trans (cell_of_block k2 0)) (by omega) (by omega) (by omega)).mono fun e w' ⟨he, hs⟩ => ⟨he, hs, trivial⟩
  · rintro e w' ⟨rfl, hB, hfr, hq⟩
    have HP := Lib.hid (show OpPost base p M v (modR l id (reserveF members limit worker)) w (.returned (.int .i64 (modR l id (reserveF members limit worker)).1)) w' from ⟨rfl, hB, (Fr.of_below hb _).trans (hfr.mono hb.size fun q _ e => e.elim (fun e => e) False.elim)⟩)
    clear hB hfr hq k0 k1 k2 hsz hlt nE hb
    go_wp2
    go_ret
    exact HP.out

def turnR (l : List Rc) (id ev : Int) : Int × List Rc := if (findR l id).isSome = true ∧ inB ev 3 6 = false then (1, l) else modR l id (turnF ev)
set_option maxHeartbeats 1000000 in
theorem turn_any (base p M : Nat) (v : Value) (l : List Rc) (id ev : Int) (w : World) (h : BookAt w base p M v l) (hid : okInt id) (hl : l.length ≤ 1000000) :
    Calls Try.prog 19 #[.pointer (some ⟨p, 0, none⟩), .int .i64 id, .int .i64 ev] w (OpPost base p M v (turnR l id ev) w) := by
  have lp := h.lt (.inl rfl)
  have hlk := h.look hid
  have c0 : w.cell? ⟨p, 1, none⟩ = some (.map (some M)) := cell_of_block h.head 1
  have H := Lib.hid h; have HID := Lib.hid hid
  clear h hid
  have mid : turnR l id ev = modR l id (turnF ev) → Calls Try.prog 29 #[.pointer (some ⟨p, 0, none⟩), .int .i64 id, .int .i64 ev, .func (.func 37) #[] #[], .func (.func 38) #[] #[]] w (OpPost base p M v (turnR l id ev) w) := by
    intro e
    rw [e]
    refine (to_any base p M v l id ev 37 38 _ _ (fun x => true) (fun x => { x with members := 0, limit := 0, worker := 0 }) (fun _ => False) (fun _ _ => True) w H.out HID.out hl enters_t1 enters_t2 (fun _ => rfl) (fun _ e => e.elim) (fun _ _ _ _ => trivial) ?_ ?_).mono ?_
    · intro x y
      exact turn1_any x y.wd
    · intro R o x x' w1 hR hv hRlt hrec hfr he hx
      exact (turn2_any R o x' (fun _ => False) w1 hrec).mono fun e w' ⟨he, hs⟩ => ⟨he, hs, trivial⟩
    · rintro e w' ⟨rfl, hB, hfr, hq⟩
      exact ⟨rfl, hB, hfr.mono (Nat.le_refl _) fun q _ e => e.elim (fun e => e) False.elim⟩
  have MID := Lib.hid mid
  clear mid
  cases hf : findR l id with
  | none =>
    rw [hf] at hlk
    simp only [Option.isSome] at hlk
    have HP := Lib.hid (MID.out (by unfold turnR; rw [if_neg (by simp [hf])]))
    clear hf
    go_enter Try.func19, Try.ntmps19
    go_wp2_with fail
    refine HP.out.mono ?_
    rintro e w' ⟨rfl, hB⟩
    have HB := Lib.hid hB
    clear hB
    go_wp2
    go_ret
    exact ⟨rfl, HB.out⟩
  | some k =>
    rw [hf] at hlk
    simp only [Option.isSome] at hlk
    cases hr : inB ev 3 6 with
    | false =>
      have HT := Lib.hid (show turnR l id ev = (1, l) by unfold turnR; rw [if_pos (by simp [hf, hr])])
      have HR := Lib.hid hr
      clear hf hr
      go_enter Try.func19, Try.ntmps19
      go_wp2_with (go_at_call 27; refine (in_q _ _ _ _ _ HR.out).mono ?_; rintro e w' ⟨rfl, rfl⟩)
      go_ret
      rw [HT.out]
      exact ⟨rfl, H.out, Fr.refl _ _ _⟩
    | true =>
      have HP := Lib.hid (MID.out (by unfold turnR; rw [if_neg (by simp [hr])]))
      have HR := Lib.hid hr
      clear hf hr
      go_enter Try.func19, Try.ntmps19
      go_wp2_with (go_at_call 27; refine (in_q _ _ _ _ _ HR.out).mono ?_; rintro e w' ⟨rfl, rfl⟩)
      refine HP.out.mono ?_
      rintro e w' ⟨rfl, hB⟩
      have HB := Lib.hid hB
      clear hB
      go_wp2
      go_ret
      exact ⟨rfl, HB.out⟩

theorem resizeF_job (x : Rc) (b : Int) : (resizeF x b).2.job = x.job := by
  unfold resizeF
  split
  · rfl
  · split
    · rfl
    · split <;> rfl
theorem resize_any (base p M : Nat) (v : Value) (l : List Rc) (id b : Int) (w : World) (h : BookAt w base p M v l) (hid : okInt id) (hl : l.length ≤ 1000000) :
    Calls Try.prog 17 #[.pointer (some ⟨p, 0, none⟩), .int .i64 id, .int .i64 b] w (OpPost base p M v (modR l id (fun x => resizeF x b)) w) := by
  have lp := h.lt (.inl rfl)
  have H := Lib.hid h; have HID := Lib.hid hid
  clear h hid
  go_enter Try.func17, Try.ntmps17
  go_wp2_with fail
  refine calls_one fun w3 hb k0 hsz => ?_
  have hlt : w.heap.size < w3.heap.size := lt_of_block k0
  have nE : ∀ q, BF p M v q → q < w.heap.size := fun q hq => H.out.lt hq
  refine (with_any base p M v l id 35 _ (fun x => resizeF x b) (fun _ => False) (fun _ _ => True) w3 (H.out.later hb) HID.out hl enters_z1 (fun x => resizeF_job x b) (fun _ e => e.elim) ?_).mono ?_
  · rintro R o x hR hRw hv hx ⟨cs, hcs, hj⟩
    have hRlt := nE R (.inr (.inr hv))
    exact (resize1_any R o x (fun _ => False) w.heap.size b w3 (fun j hj' => ⟨(cell_of_block hcs _).trans (hj j hj'), frozen_of_block hcs _⟩) (cell_of_block k0 0) (by omega) _ _ rfl).mono fun e w' ⟨he, hs⟩ => ⟨he, hs, trivial⟩
  · rintro e w' ⟨rfl, hB, hfr, hq⟩
    have HP := Lib.hid (show OpPost base p M v (modR l id (fun x => resizeF x b)) w (.returned (.int .i64 (modR l id (fun x => resizeF x b)).1)) w' from ⟨rfl, hB, (Fr.of_below hb _).trans (hfr.mono hb.size fun q _ e => e.elim (fun e => e) False.elim)⟩)
    clear hB hfr hq k0 hsz hlt nE hb
    go_wp2
    go_ret
    exact HP.out

/-- Start's number -/
def startN (l : List Rc) (id now : Int) : Int := match findR l id with
  | none => 0
  | some k => match l[k]? with
    | none => 0
    | some x => if (startF now x).1 = 0 then IntKind.i64.wrap (now + x.job.runtime) else 0
set_option maxHeartbeats 1000000 in
theorem start_any (base p M : Nat) (v : Value) (l : List Rc) (id now : Int) (w : World) (h : BookAt w base p M v l) (hid : okInt id) (hl : l.length ≤ 1000000) :
    Calls Try.prog 16 #[.pointer (some ⟨p, 0, none⟩), .int .i64 id, .int .i64 now] w fun e w' => e = .returned (.tuple #[.int .i64 (startN l id now), .int .i64 (modR l id (startF now)).1]) ∧ BookAt w' base p M v (modR l id (startF now)).2 ∧ Fr w.heap.size (BF p M v) w w' := by
  have lp := h.lt (.inl rfl)
  have H := Lib.hid h; have HID := Lib.hid hid
  clear h hid
  go_enter Try.func16, Try.ntmps16
  go_wp2_with fail
  refine calls_two fun w3 hb k0 k1 hsz => ?_
  have hlt : w.heap.size + 1 < w3.heap.size := lt_of_block k1
  have nE : ∀ q, BF p M v q → q < w.heap.size := fun q hq => H.out.lt hq
  refine (to_any base p M v l id 2 32 33 _ _ (fun _ => inB now 0 1073741824) (fun y => { y with began := now, fin := IntKind.i64.wrap (now + y.job.runtime), limit := 0, worker := 0 }) (fun q => q = w.heap.size + 1)
    (fun x w' => w'.heap[w.heap.size + 1]? = some (.cells #[.int .i64 (if (startF now x).1 = 0 then IntKind.i64.wrap (now + x.job.runtime) else 0)] 3 (0, 0))) w3 (H.out.later hb) HID.out hl enters_s1 enters_s2 (fun _ => rfl) (fun q e => ⟨fun hq => by have := nE q hq; omega, by omega⟩) (fun x w' hb2 hne => ?_) ?_ ?_).mono ?_
  · have hne' : (startF now x).1 ≠ 0 := hne
    rw [if_neg hne']; exact (hb2.block _ (by omega)).trans k1
  · intro x y
    have hcell : y.wd.cell? ⟨w.heap.size, 0, none⟩ = some (.int .i64 now) := (y.cell (by omega)).trans (cell_of_block k0 0)
    exact start1_any x w.heap.size now y.wd hcell _ rfl
  · intro R o x x' w1 hR hv hRlt hrec hfr he hx
    have hR2 := nE R (.inr (.inr hv))
    have hjob : x'.job = x.job := by rw [hx]
    refine (start2_any R o x' w.heap.size (w.heap.size + 1) now (IntKind.i64.wrap (now + x'.job.runtime)) w1 hrec ((hfr.cell (p := ⟨w.heap.size, 0, none⟩) (by simp only; omega) (by simp only; omega)).trans (cell_of_block k0 0)) ((hfr.block _ hlt (by omega)).trans k1) (by omega) (by omega) (by omega) rfl).mono fun e w' ⟨he', hs, hq⟩ => ⟨he', hs, ?_⟩
    have he2 : (startF now x).1 = 0 := he
    rw [hq, hjob, if_pos he2]
  · rintro e w' ⟨rfl, hB, hfr, hq⟩
    have hfr2 : Fr w.heap.size (BF p M v) w w' := (Fr.of_below hb _).trans (hfr.mono hb.size fun q hq e => e.elim (fun e => e) (fun e => by omega))
    have hcell : w'.heap[w.heap.size + 1]? = some (.cells #[.int .i64 (startN l id now)] 3 (0, 0)) := by
      revert hq
      unfold startN
      cases findR l id with
      | none => exact fun hq => (hq.block _ hlt).trans k1
      | some k =>
        rintro ⟨x, hx, hq⟩
        simp only [hx]
        exact hq
    have HP := Lib.hid (show BookAt w' base p M v (modR l id (startF now)).2 ∧ Fr w.heap.size (BF p M v) w w' from ⟨hB, hfr2⟩)
    have c1 := cell_of_block hcell 0
    clear hB hfr hq k0 k1 hsz hlt nE hb hfr2 hcell
    go_wp2
    go_ret2
    exact ⟨rfl, HP.out⟩
end Go.Proofs.Ytaopekoehaccbaa
