/-
  gang's to; Reserve, Start, Turn, Resize, Get.
-/
import Derived.Test.YtaopekoehaccbaaGangCl4
set_option linter.unusedVariables false
set_option linter.unusedSimpArgs false
namespace Go.Proofs.Ytaopekoehaccbaa
open Go.RowKit Go.Maps

/-- something happens to a record, if it may, and if more is right -/
def toF (ev : Int) (right : Rc → Bool) (set : Rc → Rc) (x : Rc) : Int × Rc :=
  if (nextF x.state ev).2 ≠ 0 then ((nextF x.state ev).2, x) else if right x = false then (1, x) else (0, set { x with state := (nextF x.state ev).1 })
theorem toF_job {ev : Int} {right : Rc → Bool} {set : Rc → Rc} (hs : ∀ x, (set x).job = x.job) (x : Rc) : (toF ev right set x).2.job = x.job := by
  unfold toF
  split
  · rfl
  · split
    · rfl
    · exact hs _

theorem calls_three {P : Program} {f : FuncId} {args : Array Value} {w : World} {o1 o2 o3 : Obj} {Q : Ending → World → Prop}
    (H : ∀ w3 : World, Below w.heap.size w w3 → w3.heap[w.heap.size]? = some o1 → w3.heap[w.heap.size + 1]? = some o2 → w3.heap[w.heap.size + 1 + 1]? = some o3 → w3.heap.size = w.heap.size + 1 + 1 + 1 → Calls P f args w3 Q) :
    Calls P f args (((w.alloc o1).alloc o2).alloc o3) Q := by
  have s1 : (w.alloc o1).heap.size = w.heap.size + 1 := World.size_alloc _ _
  have s2 : ((w.alloc o1).alloc o2).heap.size = w.heap.size + 1 + 1 := by rw [World.size_alloc, s1]
  refine H _ ((((Below.refl _ _).alloc (Nat.le_refl _) o1).alloc (by omega) o2).alloc (by omega) o3) ?_ ?_ ?_ ?_
  · exact alloc_other (alloc_other (World.alloc_heap_new w o1))
  · have := World.alloc_heap_new (w.alloc o1) o2
    rw [s1] at this
    exact alloc_other this
  · have := World.alloc_heap_new ((w.alloc o1).alloc o2) o3
    rwa [s2] at this
  · rw [World.size_alloc, s2]

set_option maxHeartbeats 1000000 in
theorem to_any (base p M : Nat) (v : Value) (l : List Rc) (id ev : Int) (F1 F2 : FuncId) (caps1 caps2 : Array Value) (right : Rc → Bool) (set : Rc → Rc) (E : Nat → Prop) (Q : Rc → World → Prop) (w : World) (h : BookAt w base p M v l) (hid : okInt id) (hl : l.length ≤ 1000000)
    (hF1 : Enters F1) (hF2 : Enters F2) (hj : ∀ x, (set x).job = x.job) (hE : ∀ q, E q → ¬ BF p M v q ∧ q < w.heap.size)
    (hQ : ∀ x w', Below w.heap.size w w' → (toF ev right set x).1 ≠ 0 → Q x w')
    (hright : ∀ (x : Rc) (y : Later w), Calls Try.prog F1 (#[(.agg #[.int .i64 (Jb.id (Rc.job x)), .int .i64 (Jb.queue (Rc.job x)), .int .i64 (Jb.prio (Rc.job x)), .int .i64 (Jb.runtime (Rc.job x)), .int .i64 (Sh.gpus (Jb.shape (Rc.job x))), .int .i64 (Sh.cpus (Jb.shape (Rc.job x))), .int .i64 (Sh.mn (Jb.shape (Rc.job x))), .int .i64 (Sh.mx (Jb.shape (Rc.job x))), .int .i64 (Rc.state x), .int .i64 (Rc.since x), .int .i64 (Rc.number x), .int .i64 (Rc.members x), .int .i64 (Rc.began x), .int .i64 (Rc.fin x), .int .i64 (Rc.limit x), .int .i64 (Rc.worker x)])] ++ caps1) y.wd fun e w' => e = .returned (.bool (right x)) ∧ Below y.wd.heap.size y.wd w')
    (hset : ∀ (R o : Nat) (x x' : Rc) (w1 : World), base ≤ R → v.ownBlock = some R → R < w.heap.size → RecAt w1 R o x' → Fr w.heap.size (fun q => q = R) w w1 → (toF ev right set x).1 = 0 → x' = { x with state := (nextF x.state ev).1 } →
      Calls Try.prog F2 (#[.pointer (some ⟨R, o, none⟩)] ++ caps2) w1 fun e w' => e = .returned (.tuple #[]) ∧ RecSet w1 w' R o E x' (set x') ∧ Q x w') :
    Calls Try.prog 29 #[.pointer (some ⟨p, 0, none⟩), .int .i64 id, .int .i64 ev, .func (.func F1) #[] caps1, .func (.func F2) #[] caps2] w (ModPost base p M v l id (toF ev right set) E Q w) := by
  have lp := h.lt (.inl rfl)
  have H := Lib.hid h; have HQ := Lib.hid hQ; have HR := Lib.hid hright; have HS := Lib.hid hset; have HE := Lib.hid hE; have HJ := Lib.hid hj
  have HF1 := Lib.hid hF1; have HF2 := Lib.hid hF2; have HID := Lib.hid hid
  clear h hQ hright hset hE hj hF1 hF2 hid
  go_enter Try.func29, Try.ntmps29
  go_wp2_with fail
  refine calls_three fun w3 hb k0 k1 k2 hsz => ?_
  have hlt : w.heap.size + 1 + 1 < w3.heap.size := lt_of_block k2
  have nE : ∀ q, BF p M v q → q < w.heap.size := fun q hq => H.out.lt hq
  refine (with_any base p M v l id 48 _ (toF ev right set) E Q w3 (H.out.later hb) HID.out hl enters_to1 (toF_job HJ.out) (fun q hq => (HE.out q hq).1) ?_).mono ?_
  · intro R o x hR hRw hv hx hrow
    have hRlt : R < w.heap.size := nE R (.inr (.inr hv))
    have hrec : RecAt w3 R o x := by
      obtain ⟨cs, hcs, hj⟩ := hrow
      exact fun j hj' => ⟨(cell_of_block hcs _).trans (hj j hj'), frozen_of_block hcs _⟩
    obtain ⟨s, e0, hn⟩ : ∃ s e0, nextF x.state ev = (s, e0) := ⟨_, _, rfl⟩
    have hto : toF ev right set x = if e0 ≠ 0 then (e0, x) else if right x = false then (1, x) else (0, set { x with state := s }) := by unfold toF; rw [hn]
    refine (to1_any R o x w.heap.size (w.heap.size + 1) (w.heap.size + 1 + 1) ev s e0 F1 F2 caps1 caps2 w3 (fun w' => RecSet w3 w' R o E x (toF ev right set x).2 ∧ Q x w') hrec (cell_of_block k0 0) (cell_of_block k1 0) (cell_of_block k2 0) (by omega) hn HF1.out HF2.out (right x)
      (fun y => HR.out x ⟨y.wd, hb.trans (y.bel.mono hb.size)⟩) ?_).mono ?_
    · intro he hr w1 hb1
      obtain ⟨cs, hcs, hj⟩ := hrow
      have hto0 : toF ev right set x = (0, set { x with state := s }) := by rw [hto, if_neg (by simp [he]), if_neg (by simp [hr])]
      have hs1 : RecSet w3 (w1.setCell ⟨R, o + 8, none⟩ (.int .i64 s)) R o E x { x with state := s } := ((RecSet.refl w3 R o _ x).later hRw hb1).store 8 (by omega) _ rfl
      refine (HS.out R o x { x with state := s } (w1.setCell ⟨R, o + 8, none⟩ (.int .i64 s)) hR hv hRlt (hs1.at hcs hj) ?_ (by rw [hto0]) (by rw [hn])).mono fun e w' ⟨he', hs, hq⟩ => ⟨he', ?_, hq⟩
      · exact Fr.setCell (F := fun q => q = R) (p := ⟨R, o + 8, none⟩) ((Fr.of_below hb _).trans ((Fr.of_below hb1 _).mono hb.size fun _ _ e => e)) (.inr rfl) _
      · rw [hto0]
        exact hs1.trans hs
    · rintro e w' (⟨he, rfl, hb'⟩ | ⟨he, hr, rfl, hb'⟩ | ⟨he, hr, rfl, hP⟩)
      · have hto0 : toF ev right set x = (e0, x) := by rw [hto, if_pos he]
        refine ⟨by rw [hto0], ?_, HQ.out x w' (hb.trans (hb'.mono hb.size)) (by rw [hto0]; exact he)⟩
        rw [hto0]; exact (RecSet.refl w3 R o _ x).later hRw hb'
      · have hto0 : toF ev right set x = (1, x) := by rw [hto, if_neg (by simp [he]), if_pos hr]
        refine ⟨by rw [hto0], ?_, HQ.out x w' (hb.trans (hb'.mono hb.size)) (by rw [hto0]; exact (by decide : (1 : Int) ≠ 0))⟩
        rw [hto0]; exact (RecSet.refl w3 R o _ x).later hRw hb'
      · have hto0 : toF ev right set x = (0, set { x with state := s }) := by rw [hto, if_neg (by simp [he]), if_neg (by simp [hr])]
        exact ⟨by rw [hto0], hP⟩
  · rintro e w' ⟨rfl, hB, hfr, hq⟩
    have HP := Lib.hid (show BookAt w' base p M v (modR l id (toF ev right set)).2 ∧ Fr w.heap.size (fun q => BF p M v q ∨ E q) w w' ∧ (match findR l id with | some k => ∃ x, l[k]? = some x ∧ Q x w' | none => Below w.heap.size w w') from ⟨hB, (Fr.of_below hb _).trans (hfr.mono hb.size fun q _ e => e), by
      revert hq
      cases findR l id with
      | none => exact fun hq => hb.trans (hq.mono hb.size)
      | some k => exact fun hq => hq⟩)
    clear hB hfr hq k0 k1 k2 hsz hlt nE hb
    go_wp2
    go_ret
    exact ⟨rfl, HP.out⟩
end Go.Proofs.Ytaopekoehaccbaa
