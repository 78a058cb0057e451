/-
  gang's Get, New.
-/
import Derived.Test.YtaopekoehaccbaaGangCl6
import Derived.Laws.ResultCell
import Derived.Laws.Rows
set_option linter.unusedVariables false
set_option linter.unusedSimpArgs false
namespace Go.Proofs.Ytaopekoehaccbaa
open Go.RowKit Go.Maps

def Rc.zero : Rc := ⟨⟨0, 0, 0, 0, ⟨0, 0, 0, 0⟩⟩, 0, 0, 0, 0, 0, 0, 0, 0⟩
def getR (l : List Rc) (id : Int) : Rc × Int := match findR l id with
  | none => (Rc.zero, 3)
  | some k => match l[k]? with
    | none => (Rc.zero, 3)
    | some x => (x, 0)
theorem modR_same (l : List Rc) (id : Int) : modR l id (fun x => (0, x)) = ((getR l id).2, l) := by
  unfold modR getR
  cases hf : findR l id with
  | none => rfl
  | some k =>
    simp only
    cases hk : l[k]? with
    | none => rfl
    | some x =>
      obtain ⟨h1, rfl⟩ := List.getElem?_eq_some_iff.1 hk
      simp

/-- cells stored one behind the other -/
def setCells (b : Nat) : Nat → List Value → World → World
  | _, [], w => w
  | i, v :: r, w => setCells b (i + 1) r (w.setCell ⟨b, i, none⟩ v)
def overC : Nat → List Value → List Value → List Value
  | _, [], cs => cs
  | i, v :: r, cs => overC (i + 1) r (cs.set i v)
theorem setCells_block {b : Nat} {t : TypeId} {z : Nat × Nat} : ∀ (vs : List Value) (i : Nat) (w : World) (cs : List Value), w.heap[b]? = some (.cells cs.toArray t z) → (setCells b i vs w).heap[b]? = some (.cells (overC i vs cs).toArray t z)
  | [], _, _, _, h => h
  | v :: r, i, w, cs, h => setCells_block r (i + 1) _ _ (by have := setCell_block h i v; simpa using this)
theorem setCells_fr {b B : Nat} {F : Nat → Prop} {w0 : World} (hb : F b) : ∀ (vs : List Value) (i : Nat) (w : World), Fr B F w0 w → Fr B F w0 (setCells b i vs w)
  | [], _, _, h => h
  | v :: r, i, w, h => setCells_fr hb r (i + 1) _ (h.setCell (.inr hb) v)
theorem overC_rc (x z : Rc) : overC 0 (Rc.cells x) (Rc.cells z) = Rc.cells x := rfl
theorem results_row_tmp {P : Program} {fn : Func} {p u : Tmp} {ty : TypeId} (h : fn.results = #[.cell p ty, .tmp u]) (tmps : Array Value) (w : World) (g : Nat) (t : TypeId) (cs : Array Value) (fr : Nat × Nat) (d : TypeDesc)
    (hu : P.underlying ty = some d) (hd : (match d with | .struct _ | .array _ _ => true | _ => false) = true)
    (hp : tmps.getD p undef = .pointer (some ⟨g, 0, none⟩)) (hg : w.heap[g]? = some (.cells cs t fr)) (hi : (P.info? ty).map (·.size) = some cs.size) :
    (results fn tmps).run P w = .ok (.tuple #[.agg cs, tmps.getD u undef]) w := by
  rw [results_cell_tmp h, hp]
  simp [asAddr, Result.andThen, run_loadVar_row w g t ty cs fr d hg hu hd hi]
theorem recUnder : Try.prog.underlying 38 = some (.struct (match Try.prog.underlying 38 with | some (.struct fs) => fs | _ => #[])) := by kernel_rfl
/-- a whole record stored -/
theorem store16 {w : World} {b : Nat} {x z : Rc} {t : TypeId} {G : World → Prop} (h : w.heap[b]? = some (.cells #[.int .i64 (Jb.id (Rc.job z)), .int .i64 (Jb.queue (Rc.job z)), .int .i64 (Jb.prio (Rc.job z)), .int .i64 (Jb.runtime (Rc.job z)), .int .i64 (Sh.gpus (Jb.shape (Rc.job z))), .int .i64 (Sh.cpus (Jb.shape (Rc.job z))), .int .i64 (Sh.mn (Jb.shape (Rc.job z))), .int .i64 (Sh.mx (Jb.shape (Rc.job z))), .int .i64 (Rc.state z), .int .i64 (Rc.since z), .int .i64 (Rc.number z), .int .i64 (Rc.members z), .int .i64 (Rc.began z), .int .i64 (Rc.fin z), .int .i64 (Rc.limit z), .int .i64 (Rc.worker z)] t (0, 0)))
    (K : ∀ w' : World, w'.heap[b]? = some (.cells #[.int .i64 (Jb.id (Rc.job x)), .int .i64 (Jb.queue (Rc.job x)), .int .i64 (Jb.prio (Rc.job x)), .int .i64 (Jb.runtime (Rc.job x)), .int .i64 (Sh.gpus (Jb.shape (Rc.job x))), .int .i64 (Sh.cpus (Jb.shape (Rc.job x))), .int .i64 (Sh.mn (Jb.shape (Rc.job x))), .int .i64 (Sh.mx (Jb.shape (Rc.job x))), .int .i64 (Rc.state x), .int .i64 (Rc.since x), .int .i64 (Rc.number x), .int .i64 (Rc.members x), .int .i64 (Rc.began x), .int .i64 (Rc.fin x), .int .i64 (Rc.limit x), .int .i64 (Rc.worker x)] t (0, 0)) → Fr w.heap.size (fun q => q = b) w w' → G w') : G ((((((((((((((((w.setCell ⟨b, 0, none⟩ (.int .i64 x.job.id)).setCell ⟨b, 1, none⟩ (.int .i64 x.job.queue)).setCell ⟨b, 2, none⟩ (.int .i64 x.job.prio)).setCell ⟨b, 3, none⟩ (.int .i64 x.job.runtime)).setCell ⟨b, 4, none⟩ (.int .i64 x.job.shape.gpus)).setCell ⟨b, 5, none⟩ (.int .i64 x.job.shape.cpus)).setCell ⟨b, 6, none⟩ (.int .i64 x.job.shape.mn)).setCell ⟨b, 7, none⟩ (.int .i64 x.job.shape.mx)).setCell ⟨b, 8, none⟩ (.int .i64 x.state)).setCell ⟨b, 9, none⟩ (.int .i64 x.since)).setCell ⟨b, 10, none⟩ (.int .i64 x.number)).setCell ⟨b, 11, none⟩ (.int .i64 x.members)).setCell ⟨b, 12, none⟩ (.int .i64 x.began)).setCell ⟨b, 13, none⟩ (.int .i64 x.fin)).setCell ⟨b, 14, none⟩ (.int .i64 x.limit)).setCell ⟨b, 15, none⟩ (.int .i64 x.worker)) := by
  have h1 := setCells_block (Rc.cells x) 0 w (Rc.cells z) h
  rw [overC_rc] at h1
  exact K (setCells b 0 (Rc.cells x) w) h1 (setCells_fr (F := fun q => q = b) rfl _ _ _ (Fr.refl _ _ _))

theorem store16d {w : World} {b : Nat} {x z : Rc} {t : TypeId} {G : World → Prop} (h : w.heap[b]? = some (.cells #[.int .i64 (Jb.id (Rc.job z)), .int .i64 (Jb.queue (Rc.job z)), .int .i64 (Jb.prio (Rc.job z)), .int .i64 (Jb.runtime (Rc.job z)), .int .i64 (Sh.gpus (Jb.shape (Rc.job z))), .int .i64 (Sh.cpus (Jb.shape (Rc.job z))), .int .i64 (Sh.mn (Jb.shape (Rc.job z))), .int .i64 (Sh.mx (Jb.shape (Rc.job z))), .int .i64 (Rc.state z), .int .i64 (Rc.since z), .int .i64 (Rc.number z), .int .i64 (Rc.members z), .int .i64 (Rc.began z), .int .i64 (Rc.fin z), .int .i64 (Rc.limit z), .int .i64 (Rc.worker z)] t (0, 0)))
    (K : ∀ w' : World, w'.heap[b]? = some (.cells #[.int .i64 (Jb.id (Rc.job x)), .int .i64 (Jb.queue (Rc.job x)), .int .i64 (Jb.prio (Rc.job x)), .int .i64 (Jb.runtime (Rc.job x)), .int .i64 (Sh.gpus (Jb.shape (Rc.job x))), .int .i64 (Sh.cpus (Jb.shape (Rc.job x))), .int .i64 (Sh.mn (Jb.shape (Rc.job x))), .int .i64 (Sh.mx (Jb.shape (Rc.job x))), .int .i64 (Rc.state x), .int .i64 (Rc.since x), .int .i64 (Rc.number x), .int .i64 (Rc.members x), .int .i64 (Rc.began x), .int .i64 (Rc.fin x), .int .i64 (Rc.limit x), .int .i64 (Rc.worker x)] t (0, 0)) → Fr w.heap.size (fun q => q = b) w w' → G w'.drew) : G (World.drew ((((((((((((((((w.setCell ⟨b, 0, none⟩ (.int .i64 x.job.id)).setCell ⟨b, 1, none⟩ (.int .i64 x.job.queue)).setCell ⟨b, 2, none⟩ (.int .i64 x.job.prio)).setCell ⟨b, 3, none⟩ (.int .i64 x.job.runtime)).setCell ⟨b, 4, none⟩ (.int .i64 x.job.shape.gpus)).setCell ⟨b, 5, none⟩ (.int .i64 x.job.shape.cpus)).setCell ⟨b, 6, none⟩ (.int .i64 x.job.shape.mn)).setCell ⟨b, 7, none⟩ (.int .i64 x.job.shape.mx)).setCell ⟨b, 8, none⟩ (.int .i64 x.state)).setCell ⟨b, 9, none⟩ (.int .i64 x.since)).setCell ⟨b, 10, none⟩ (.int .i64 x.number)).setCell ⟨b, 11, none⟩ (.int .i64 x.members)).setCell ⟨b, 12, none⟩ (.int .i64 x.began)).setCell ⟨b, 13, none⟩ (.int .i64 x.fin)).setCell ⟨b, 14, none⟩ (.int .i64 x.limit)).setCell ⟨b, 15, none⟩ (.int .i64 x.worker))) :=
  store16 (G := fun w' => G w'.drew) h K

theorem store16d_fr {w : World} {b : Nat} {x z : Rc} {t : TypeId} (h : w.heap[b]? = some (.cells #[.int .i64 (Jb.id (Rc.job z)), .int .i64 (Jb.queue (Rc.job z)), .int .i64 (Jb.prio (Rc.job z)), .int .i64 (Jb.runtime (Rc.job z)), .int .i64 (Sh.gpus (Jb.shape (Rc.job z))), .int .i64 (Sh.cpus (Jb.shape (Rc.job z))), .int .i64 (Sh.mn (Jb.shape (Rc.job z))), .int .i64 (Sh.mx (Jb.shape (Rc.job z))), .int .i64 (Rc.state z), .int .i64 (Rc.since z), .int .i64 (Rc.number z), .int .i64 (Rc.members z), .int .i64 (Rc.began z), .int .i64 (Rc.fin z), .int .i64 (Rc.limit z), .int .i64 (Rc.worker z)] t (0, 0))) : Fr w.heap.size (fun q => q = b) w (World.drew ((((((((((((((((w.setCell ⟨b, 0, none⟩ (.int .i64 x.job.id)).setCell ⟨b, 1, none⟩ (.int .i64 x.job.queue)).setCell ⟨b, 2, none⟩ (.int .i64 x.job.prio)).setCell ⟨b, 3, none⟩ (.int .i64 x.job.runtime)).setCell ⟨b, 4, none⟩ (.int .i64 x.job.shape.gpus)).setCell ⟨b, 5, none⟩ (.int .i64 x.job.shape.cpus)).setCell ⟨b, 6, none⟩ (.int .i64 x.job.shape.mn)).setCell ⟨b, 7, none⟩ (.int .i64 x.job.shape.mx)).setCell ⟨b, 8, none⟩ (.int .i64 x.state)).setCell ⟨b, 9, none⟩ (.int .i64 x.since)).setCell ⟨b, 10, none⟩ (.int .i64 x.number)).setCell ⟨b, 11, none⟩ (.int .i64 x.members)).setCell ⟨b, 12, none⟩ (.int .i64 x.began)).setCell ⟨b, 13, none⟩ (.int .i64 x.fin)).setCell ⟨b, 14, none⟩ (.int .i64 x.limit)).setCell ⟨b, 15, none⟩ (.int .i64 x.worker))) :=
  store16d (G := fun w' => Fr w.heap.size (fun q => q = b) w w') h fun w' _ hf => hf.drew

set_option maxHeartbeats 1000000 in
theorem get_any (base p M : Nat) (v : Value) (l : List Rc) (id : Int) (w : World) (h : BookAt w base p M v l) (hid : okInt id) (hl : l.length ≤ 1000000) :
    Calls Try.prog 18 #[.pointer (some ⟨p, 0, none⟩), .int .i64 id] w fun e w' => e = .returned (.tuple #[(.agg #[.int .i64 (Jb.id (Rc.job ((getR l id).1))), .int .i64 (Jb.queue (Rc.job ((getR l id).1))), .int .i64 (Jb.prio (Rc.job ((getR l id).1))), .int .i64 (Jb.runtime (Rc.job ((getR l id).1))), .int .i64 (Sh.gpus (Jb.shape (Rc.job ((getR l id).1)))), .int .i64 (Sh.cpus (Jb.shape (Rc.job ((getR l id).1)))), .int .i64 (Sh.mn (Jb.shape (Rc.job ((getR l id).1)))), .int .i64 (Sh.mx (Jb.shape (Rc.job ((getR l id).1)))), .int .i64 (Rc.state ((getR l id).1)), .int .i64 (Rc.since ((getR l id).1)), .int .i64 (Rc.number ((getR l id).1)), .int .i64 (Rc.members ((getR l id).1)), .int .i64 (Rc.began ((getR l id).1)), .int .i64 (Rc.fin ((getR l id).1)), .int .i64 (Rc.limit ((getR l id).1)), .int .i64 (Rc.worker ((getR l id).1))]), .int .i64 (getR l id).2]) ∧ Below w.heap.size w w' := by
  have lp := h.lt (.inl rfl)
  have H := Lib.hid h; have HID := Lib.hid hid
  clear h hid
  go_enter Try.func18, Try.ntmps18
  go_wp2_with fail
  refine calls_two fun w3 hb k0 k1 hsz => ?_
  have hlt : w.heap.size + 1 < w3.heap.size := lt_of_block k1
  have nE : ∀ q, BF p M v q → q < w.heap.size := fun q hq => H.out.lt hq
  refine (with_any base p M v l id 36 _ (fun x => (0, x)) (fun q => q = w.heap.size + 1) (fun x w' => w'.heap[w.heap.size + 1]? = some (.cells #[.int .i64 (Jb.id (Rc.job x)), .int .i64 (Jb.queue (Rc.job x)), .int .i64 (Jb.prio (Rc.job x)), .int .i64 (Jb.runtime (Rc.job x)), .int .i64 (Sh.gpus (Jb.shape (Rc.job x))), .int .i64 (Sh.cpus (Jb.shape (Rc.job x))), .int .i64 (Sh.mn (Jb.shape (Rc.job x))), .int .i64 (Sh.mx (Jb.shape (Rc.job x))), .int .i64 (Rc.state x), .int .i64 (Rc.since x), .int .i64 (Rc.number x), .int .i64 (Rc.members x), .int .i64 (Rc.began x), .int .i64 (Rc.fin x), .int .i64 (Rc.limit x), .int .i64 (Rc.worker x)] 38 (0, 0)) ∧ Fr w3.heap.size (fun q => q = w.heap.size + 1) w3 w') w3 (H.out.later hb) HID.out hl enters_g1 (fun _ => rfl) (fun q e hq => by have := nE q hq; omega) ?_).mono ?_
  · rintro R o x hR hRw hv hx ⟨cs, hcs, hj⟩
    have hR2 := nE R (.inr (.inr hv))
    refine (get1_any R o x Rc.zero (w.heap.size + 1) w3 (fun j hj' => ⟨(cell_of_block hcs _).trans (hj j hj'), frozen_of_block hcs _⟩) k1 (by omega)).mono fun e w' ⟨he, hf, hq⟩ => ⟨he, ?_, hq, hf⟩
    exact ⟨hf.mono (Nat.le_refl _) fun q _ e => .inr e, fun cs t hb2 hx2 => ⟨cs, (hf.block R hRw (by omega)).trans hb2, rfl, fun _ _ => rfl, hx2⟩⟩
  · rintro e w' ⟨he, hB, hfr, hq⟩
    rw [modR_same] at he
    subst he
    have hall : Fr w3.heap.size (fun q => q = w.heap.size + 1) w3 w' ∧ w'.heap[w.heap.size + 1]? = some (.cells #[.int .i64 (Jb.id (Rc.job ((getR l id).1))), .int .i64 (Jb.queue (Rc.job ((getR l id).1))), .int .i64 (Jb.prio (Rc.job ((getR l id).1))), .int .i64 (Jb.runtime (Rc.job ((getR l id).1))), .int .i64 (Sh.gpus (Jb.shape (Rc.job ((getR l id).1)))), .int .i64 (Sh.cpus (Jb.shape (Rc.job ((getR l id).1)))), .int .i64 (Sh.mn (Jb.shape (Rc.job ((getR l id).1)))), .int .i64 (Sh.mx (Jb.shape (Rc.job ((getR l id).1)))), .int .i64 (Rc.state ((getR l id).1)), .int .i64 (Rc.since ((getR l id).1)), .int .i64 (Rc.number ((getR l id).1)), .int .i64 (Rc.members ((getR l id).1)), .int .i64 (Rc.began ((getR l id).1)), .int .i64 (Rc.fin ((getR l id).1)), .int .i64 (Rc.limit ((getR l id).1)), .int .i64 (Rc.worker ((getR l id).1))] 38 (0, 0)) := by
      revert hq
      unfold getR
      cases findR l id with
      | none => exact fun hq => ⟨Fr.of_below hq _, (hq.block _ hlt).trans k1⟩
      | some k =>
        rintro ⟨x, hx, hq, hf⟩
        simp only [hx]
        exact ⟨hf, hq⟩
    obtain ⟨hfr3, hcell⟩ := hall
    have hfr2 : Fr w.heap.size (fun _ => False) w w' := (Fr.of_below hb _).trans (hfr3.mono hb.size fun q hq e => by omega)
    have hres : w'.heap[w.heap.size]? = some (.cells #[.int .i64 (Jb.id (Rc.job (Rc.zero))), .int .i64 (Jb.queue (Rc.job (Rc.zero))), .int .i64 (Jb.prio (Rc.job (Rc.zero))), .int .i64 (Jb.runtime (Rc.job (Rc.zero))), .int .i64 (Sh.gpus (Jb.shape (Rc.job (Rc.zero)))), .int .i64 (Sh.cpus (Jb.shape (Rc.job (Rc.zero)))), .int .i64 (Sh.mn (Jb.shape (Rc.job (Rc.zero)))), .int .i64 (Sh.mx (Jb.shape (Rc.job (Rc.zero)))), .int .i64 (Rc.state (Rc.zero)), .int .i64 (Rc.since (Rc.zero)), .int .i64 (Rc.number (Rc.zero)), .int .i64 (Rc.members (Rc.zero)), .int .i64 (Rc.began (Rc.zero)), .int .i64 (Rc.fin (Rc.zero)), .int .i64 (Rc.limit (Rc.zero)), .int .i64 (Rc.worker (Rc.zero))] 38 (0, 0)) := (hfr3.block _ (by omega) (by omega)).trans k0
    have HP := Lib.hid hfr2
    have HG := Lib.hid hcell
    obtain ⟨⟨x, e0⟩, hx⟩ : ∃ x, getR l id = x := ⟨_, rfl⟩
    rw [hx] at hcell ⊢
    have q := cell_of_block hcell
    have z := cell_of_block hres
    have zf := frozen_of_block hres
    have l1 := lt_of_block hcell
    have l2 := lt_of_block hres
    clear hB hfr hq k0 k1 hlt nE hb hfr2 hcell hfr3 hsz
    have HZ := Lib.hid hres
    go_wp2
    clear q z zf l1 l2
    refine store16 HZ.out fun w2 h2 hf2 => ?_
    (try simp only [Exit.inBlock, Exit.then])
    refine bodyPost_ret (results_row_tmp rfl _ w2 _ _ _ _ _ recUnder rfl rfl h2 (by kernel_rfl)) rfl ?_
    exact ⟨by rw [hx]; rfl, ((HP.out.trans (hf2.mono HP.out.size fun q hq e => by omega)).below (Nat.le_refl _) fun q hq => hq.elim)⟩
end Go.Proofs.Ytaopekoehaccbaa
