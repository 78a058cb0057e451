/-
  A book and the blocks of a law, kept together: the calls restated.
-/
import Derived.Test.YtaopekoehaccbaaGangAll
set_option linter.unusedVariables false
set_option linter.unusedSimpArgs false
namespace Go.Proofs.Ytaopekoehaccbaa
open Go.RowKit Go.Maps

theorem Kept.chg {w0 w w1 : World} {L : List (Nat × Array Value × TypeId)} {F : Nat → Prop} (h : Kept w0 w L) (hf : Fr w.heap.size F w w1) (hF : ∀ q, F q → w0.heap.size ≤ q ∧ ∀ x ∈ L, x.1 ≠ q) : Kept w0 w1 L :=
  ⟨h.below.trans ((hf.mono h.size fun _ _ e => e).below (Nat.le_refl _) fun q hq => (hF q hq).1), fun x hx => (hf.block _ (lt_of_block (h.blk x hx)) fun e => (hF _ e).2 x hx rfl).trans (h.blk x hx)⟩

structure GK (W w : World) (p : Nat) (l : List Rc) (L : List (Nat × Array Value × TypeId)) : Prop where
  ex : ∃ base M v, BookAt w base p M v l ∧ base ≤ w.heap.size ∧ (∀ q, BF p M v q → W.heap.size ≤ q ∧ ∀ x ∈ L, x.1 ≠ q)
  kept : Kept W w L
variable {W w w' : World} {p : Nat} {l : List Rc} {L : List (Nat × Array Value × TypeId)}
theorem GK.later (h : GK W w p l L) (hb : Below w.heap.size w w') : GK W w' p l L := by
  obtain ⟨base, M, v, hB, hs, hF⟩ := h.ex
  exact ⟨⟨base, M, v, hB.later hb, Nat.le_trans hs hb.size, hF⟩, h.kept.later hb⟩
theorem GK.drew (h : GK W w p l L) : GK W w.drew p l L := h.later (Below.refl _ _).drew
theorem GK.new (h : GK W w p l L) (cs : Array Value) (t : TypeId) : GK W (w.alloc (.cells cs t)) p l ((w.heap.size, cs, t) :: L) := by
  obtain ⟨base, M, v, hB, hs, hF⟩ := h.ex
  refine ⟨⟨base, M, v, hB.later ((Below.refl _ _).alloc (Nat.le_refl _) _), by simp; omega, fun q hq => ⟨(hF q hq).1, fun x hx => ?_⟩⟩, h.kept.new cs t⟩
  rcases List.mem_cons.1 hx with rfl | hx
  · have := hB.lt hq; simp only; omega
  · exact (hF q hq).2 x hx
theorem GK.below (h : GK W w p l L) : Below W.heap.size W w := h.kept.below
theorem GK.lt (h : GK W w p l L) : p < w.heap.size := by
  obtain ⟨base, M, v, hB, hs, hF⟩ := h.ex
  exact hB.lt (.inl rfl)
theorem GK.sub (h : GK W w p l L) {L' : List (Nat × Array Value × TypeId)} (hL : ∀ x ∈ L', x ∈ L) : GK W w p l L' := by
  obtain ⟨base, M, v, hB, hs, hF⟩ := h.ex
  exact ⟨⟨base, M, v, hB, hs, fun q hq => ⟨(hF q hq).1, fun x hx => (hF q hq).2 x (hL x hx)⟩⟩, h.kept.weaken hL⟩
theorem GK.store {b : Nat} {cs : Array Value} {t : TypeId} (h : GK W w p l ((b, cs, t) :: L)) (hb : W.heap.size ≤ b) (hn : ∀ x ∈ L, x.1 ≠ b) (o : Nat) (u : Value) : GK W (w.setCell ⟨b, o, none⟩ u) p l ((b, cs.setIfInBounds o u, t) :: L) := by
  obtain ⟨base, M, v, hB, hs, hF⟩ := h.ex
  refine ⟨⟨base, M, v, hB.frame fun q hq => setCell_other u (fun e => (hF q hq).2 _ (List.mem_cons_self ..) e.symm), by simpa [World.setCell] using hs, fun q hq => ⟨(hF q hq).1, fun x hx => ?_⟩⟩, h.kept.store hb hn o u⟩
  rcases List.mem_cons.1 hx with rfl | hx
  · have h2 := (hF q hq).2 (b, cs, t) (List.mem_cons_self ..)
    exact h2
  · exact (hF q hq).2 x (List.mem_cons_of_mem _ hx)

theorem GK.fresh (h : GK W w p l L) : ∀ x ∈ L, x.1 ≠ w.heap.size := fun x hx e => by have := lt_of_block (h.kept.blk x hx); omega
theorem GK.over {b : Nat} {cs cs' : Array Value} {t : TypeId} (h : GK W w p l ((b, cs, t) :: L)) (hf : Fr w.heap.size (fun q => q = b) w w') (hb' : w'.heap[b]? = some (.cells cs' t (0, 0))) (hb : W.heap.size ≤ b) (hn : ∀ x ∈ L, x.1 ≠ b) : GK W w' p l ((b, cs', t) :: L) := by
  obtain ⟨base, M, v, hB, hs, hF⟩ := h.ex
  refine ⟨⟨base, M, v, hB.frame fun q hq => hf.block q (hB.lt hq) (fun e => (hF q hq).2 _ (List.mem_cons_self ..) e.symm), Nat.le_trans hs hf.size, fun q hq => ⟨(hF q hq).1, fun x hx => ?_⟩⟩, ?_, fun x hx => ?_⟩
  · rcases List.mem_cons.1 hx with rfl | hx
    · have h2 := (hF q hq).2 (b, cs, t) (List.mem_cons_self ..)
      exact h2
    · exact (hF q hq).2 x (List.mem_cons_of_mem _ hx)
  · exact h.below.trans ((hf.mono h.below.size fun _ _ e => e).below (Nat.le_refl _) fun q hq => by omega)
  · rcases List.mem_cons.1 hx with rfl | hx
    · exact hb'
    · have := h.kept.blk x (List.mem_cons_of_mem _ hx)
      exact (hf.block _ (lt_of_block this) (hn x hx)).trans this
theorem calls_store16 {P : Program} {f : FuncId} {args : Array Value} {Q : Ending → World → Prop} {w : World} {b : Nat} {x z : Rc} {t : TypeId} (h : w.heap[b]? = some (.cells #[.int .i64 (Jb.id (Rc.job z)), .int .i64 (Jb.queue (Rc.job z)), .int .i64 (Jb.prio (Rc.job z)), .int .i64 (Jb.runtime (Rc.job z)), .int .i64 (Sh.gpus (Jb.shape (Rc.job z))), .int .i64 (Sh.cpus (Jb.shape (Rc.job z))), .int .i64 (Sh.mn (Jb.shape (Rc.job z))), .int .i64 (Sh.mx (Jb.shape (Rc.job z))), .int .i64 (Rc.state z), .int .i64 (Rc.since z), .int .i64 (Rc.number z), .int .i64 (Rc.members z), .int .i64 (Rc.began z), .int .i64 (Rc.fin z), .int .i64 (Rc.limit z), .int .i64 (Rc.worker z)] t (0, 0)))
    (K : ∀ w' : World, w'.heap[b]? = some (.cells #[.int .i64 (Jb.id (Rc.job x)), .int .i64 (Jb.queue (Rc.job x)), .int .i64 (Jb.prio (Rc.job x)), .int .i64 (Jb.runtime (Rc.job x)), .int .i64 (Sh.gpus (Jb.shape (Rc.job x))), .int .i64 (Sh.cpus (Jb.shape (Rc.job x))), .int .i64 (Sh.mn (Jb.shape (Rc.job x))), .int .i64 (Sh.mx (Jb.shape (Rc.job x))), .int .i64 (Rc.state x), .int .i64 (Rc.since x), .int .i64 (Rc.number x), .int .i64 (Rc.members x), .int .i64 (Rc.began x), .int .i64 (Rc.fin x), .int .i64 (Rc.limit x), .int .i64 (Rc.worker x)] t (0, 0)) → Fr w.heap.size (fun q => q = b) w w' → Calls P f args w' Q) : Calls P f args ((((((((((((((((w.setCell ⟨b, 0, none⟩ (.int .i64 x.job.id)).setCell ⟨b, 1, none⟩ (.int .i64 x.job.queue)).setCell ⟨b, 2, none⟩ (.int .i64 x.job.prio)).setCell ⟨b, 3, none⟩ (.int .i64 x.job.runtime)).setCell ⟨b, 4, none⟩ (.int .i64 x.job.shape.gpus)).setCell ⟨b, 5, none⟩ (.int .i64 x.job.shape.cpus)).setCell ⟨b, 6, none⟩ (.int .i64 x.job.shape.mn)).setCell ⟨b, 7, none⟩ (.int .i64 x.job.shape.mx)).setCell ⟨b, 8, none⟩ (.int .i64 x.state)).setCell ⟨b, 9, none⟩ (.int .i64 x.since)).setCell ⟨b, 10, none⟩ (.int .i64 x.number)).setCell ⟨b, 11, none⟩ (.int .i64 x.members)).setCell ⟨b, 12, none⟩ (.int .i64 x.began)).setCell ⟨b, 13, none⟩ (.int .i64 x.fin)).setCell ⟨b, 14, none⟩ (.int .i64 x.limit)).setCell ⟨b, 15, none⟩ (.int .i64 x.worker)) Q :=
  store16 (G := fun w' => Calls P f args w' Q) h K

theorem GK.start (hK : Kept W w L) : Calls Try.prog 13 #[] w fun e w' => ∃ p, e = .returned (.pointer (some ⟨p, 0, none⟩)) ∧ GK W w' p [] L :=
  (new_any w).mono fun e w' ⟨he, hB, hb⟩ => ⟨_, he, ⟨⟨_, _, _, hB, lt_of_block hB.head, fun q hq => by
    have hsz := hK.size
    have hge : w.heap.size ≤ q := by
      rcases hq with rfl | rfl | hq
      · omega
      · omega
      · simp [Value.ownBlock] at hq
    exact ⟨by omega, fun x hx => by have := lt_of_block (hK.blk x hx); omega⟩⟩, hK.later hb⟩⟩
theorem GK.add (h : GK W w p l L) (j : Jb) (since : Int) (hid : okInt j.id) (hl : l.length ≤ 1000000) :
    Calls Try.prog 14 #[.pointer (some ⟨p, 0, none⟩), (.agg #[.int .i64 (Jb.id j), .int .i64 (Jb.queue j), .int .i64 (Jb.prio j), .int .i64 (Jb.runtime j), .int .i64 (Sh.gpus (Jb.shape j)), .int .i64 (Sh.cpus (Jb.shape j)), .int .i64 (Sh.mn (Jb.shape j)), .int .i64 (Sh.mx (Jb.shape j))]), .int .i64 since] w fun e w' => e = .returned (.tuple #[(.agg #[.int .i64 (Jb.id (Rc.job ((addR l j since).1.1))), .int .i64 (Jb.queue (Rc.job ((addR l j since).1.1))), .int .i64 (Jb.prio (Rc.job ((addR l j since).1.1))), .int .i64 (Jb.runtime (Rc.job ((addR l j since).1.1))), .int .i64 (Sh.gpus (Jb.shape (Rc.job ((addR l j since).1.1)))), .int .i64 (Sh.cpus (Jb.shape (Rc.job ((addR l j since).1.1)))), .int .i64 (Sh.mn (Jb.shape (Rc.job ((addR l j since).1.1)))), .int .i64 (Sh.mx (Jb.shape (Rc.job ((addR l j since).1.1)))), .int .i64 (Rc.state ((addR l j since).1.1)), .int .i64 (Rc.since ((addR l j since).1.1)), .int .i64 (Rc.number ((addR l j since).1.1)), .int .i64 (Rc.members ((addR l j since).1.1)), .int .i64 (Rc.began ((addR l j since).1.1)), .int .i64 (Rc.fin ((addR l j since).1.1)), .int .i64 (Rc.limit ((addR l j since).1.1)), .int .i64 (Rc.worker ((addR l j since).1.1))]), .int .i64 (addR l j since).1.2]) ∧ GK W w' p (addR l j since).2 L := by
  obtain ⟨base, M, v, hB, hs, hF⟩ := h.ex
  refine (add_any base p M v l j since w hB hid hl hs).mono fun e w' ⟨he, v', hB', hfr, hn⟩ => ⟨he, ⟨⟨base, M, v', hB', Nat.le_trans hs hfr.size, fun q hq => ?_⟩, h.kept.chg hfr hF⟩⟩
  rcases hn q hq with hq | hq
  · exact hF q hq
  · have := h.kept.size
    exact ⟨by omega, fun x hx => by have := lt_of_block (h.kept.blk x hx); omega⟩
theorem GK.of {r : Int × List Rc} {base M : Nat} {v : Value} {e : Ending} (h : GK W w p l L) (hF : ∀ q, BF p M v q → W.heap.size ≤ q ∧ ∀ x ∈ L, x.1 ≠ q) (hs : base ≤ w.heap.size) (hp : OpPost base p M v r w e w') : e = .returned (.int .i64 r.1) ∧ GK W w' p r.2 L :=
  ⟨hp.1, ⟨⟨base, M, v, hp.2.1, Nat.le_trans hs hp.2.2.size, hF⟩, h.kept.chg hp.2.2 hF⟩⟩
theorem GK.reserve (h : GK W w p l L) (id members limit worker : Int) (hid : okInt id) (hl : l.length ≤ 1000000) :
    Calls Try.prog 15 #[.pointer (some ⟨p, 0, none⟩), .int .i64 id, .int .i64 members, .int .i64 limit, .int .i64 worker] w fun e w' => e = .returned (.int .i64 (modR l id (reserveF members limit worker)).1) ∧ GK W w' p (modR l id (reserveF members limit worker)).2 L := by
  obtain ⟨base, M, v, hB, hs, hF⟩ := h.ex
  exact (reserve_any base p M v l id members limit worker w hB hid hl).mono fun e w' hp => h.of hF hs hp
theorem GK.turn (h : GK W w p l L) (id ev : Int) (hid : okInt id) (hl : l.length ≤ 1000000) :
    Calls Try.prog 19 #[.pointer (some ⟨p, 0, none⟩), .int .i64 id, .int .i64 ev] w fun e w' => e = .returned (.int .i64 (turnR l id ev).1) ∧ GK W w' p (turnR l id ev).2 L := by
  obtain ⟨base, M, v, hB, hs, hF⟩ := h.ex
  exact (turn_any base p M v l id ev w hB hid hl).mono fun e w' hp => h.of hF hs hp
theorem GK.resize (h : GK W w p l L) (id b : Int) (hid : okInt id) (hl : l.length ≤ 1000000) :
    Calls Try.prog 17 #[.pointer (some ⟨p, 0, none⟩), .int .i64 id, .int .i64 b] w fun e w' => e = .returned (.int .i64 (modR l id (fun x => resizeF x b)).1) ∧ GK W w' p (modR l id (fun x => resizeF x b)).2 L := by
  obtain ⟨base, M, v, hB, hs, hF⟩ := h.ex
  exact (resize_any base p M v l id b w hB hid hl).mono fun e w' hp => h.of hF hs hp
theorem GK.begin (h : GK W w p l L) (id now : Int) (hid : okInt id) (hl : l.length ≤ 1000000) :
    Calls Try.prog 16 #[.pointer (some ⟨p, 0, none⟩), .int .i64 id, .int .i64 now] w fun e w' => e = .returned (.tuple #[.int .i64 (startN l id now), .int .i64 (modR l id (startF now)).1]) ∧ GK W w' p (modR l id (startF now)).2 L := by
  obtain ⟨base, M, v, hB, hs, hF⟩ := h.ex
  exact (start_any base p M v l id now w hB hid hl).mono fun e w' ⟨he, hB', hfr⟩ => ⟨he, ⟨⟨base, M, v, hB', Nat.le_trans hs hfr.size, hF⟩, h.kept.chg hfr hF⟩⟩
theorem GK.get (h : GK W w p l L) (id : Int) (hid : okInt id) (hl : l.length ≤ 1000000) :
    Calls Try.prog 18 #[.pointer (some ⟨p, 0, none⟩), .int .i64 id] w fun e w' => e = .returned (.tuple #[(.agg #[.int .i64 (Jb.id (Rc.job ((getR l id).1))), .int .i64 (Jb.queue (Rc.job ((getR l id).1))), .int .i64 (Jb.prio (Rc.job ((getR l id).1))), .int .i64 (Jb.runtime (Rc.job ((getR l id).1))), .int .i64 (Sh.gpus (Jb.shape (Rc.job ((getR l id).1)))), .int .i64 (Sh.cpus (Jb.shape (Rc.job ((getR l id).1)))), .int .i64 (Sh.mn (Jb.shape (Rc.job ((getR l id).1)))), .int .i64 (Sh.mx (Jb.shape (Rc.job ((getR l id).1)))), .int .i64 (Rc.state ((getR l id).1)), .int .i64 (Rc.since ((getR l id).1)), .int .i64 (Rc.number ((getR l id).1)), .int .i64 (Rc.members ((getR l id).1)), .int .i64 (Rc.began ((getR l id).1)), .int .i64 (Rc.fin ((getR l id).1)), .int .i64 (Rc.limit ((getR l id).1)), .int .i64 (Rc.worker ((getR l id).1))]), .int .i64 (getR l id).2]) ∧ GK W w' p l L := by
  obtain ⟨base, M, v, hB, hs, hF⟩ := h.ex
  exact (get_any base p M v l id w hB hid hl).mono fun e w' ⟨he, hb⟩ => ⟨he, h.later hb⟩

/-- a row's cells -/
def RowCs (cur : Array Value) (l : List Rc) : Prop := ∀ (i : Nat) (hi : i < l.length) (j : Nat), j < 16 → cur[i * 16 + j]? = (Rc.cells l[i])[j]?
/-- a list of records that came back: nothing, or a block that is kept -/
def RowK (W w' : World) (p : Nat) (l : List Rc) (L : List (Nat × Array Value × TypeId)) (v : Value) (xs : List Rc) : Prop :=
  (v = .slice none 0 0 ∧ xs = [] ∧ GK W w' p l L) ∨ ∃ g cap cur, v = .slice (some ⟨g, 0, none⟩) xs.length cap ∧ xs.length ≤ cap ∧ cap ≤ maxLen ∧ RowCs cur xs ∧ GK W w' p l ((g, cur, 38) :: L)
theorem GK.rowK {v : Value} {xs : List Rc} (h : GK W w p l L) (hb : Below w.heap.size w w') (ho : w'.ownsRow w.heap.size 38 16 v xs.length (xs.flatMap Rc.cells)) : RowK W w' p l L v xs := by
  obtain ⟨h1, ⟨rfl, h0⟩ | ⟨g, cap, cur, hv, hg, hh, hn, hm, hsz, ht⟩⟩ := ho
  · exact .inl ⟨rfl, List.length_eq_zero_iff.1 h0, h.later hb⟩
  · refine .inr ⟨g, cap, cur, hv, hn, hm, fun i hi j hj => ?_, ?_⟩
    · rw [← gflat_get xs i j hi hj, ← ht, List.getElem?_take, if_pos (by omega), Array.getElem?_toList]
    · obtain ⟨base, M, v, hB, hs, hF⟩ := h.ex
      refine ⟨⟨base, M, v, hB.later hb, Nat.le_trans hs hb.size, fun q hq => ⟨(hF q hq).1, fun x hx => ?_⟩⟩, (h.kept.later hb).below, fun x hx => ?_⟩
      · rcases List.mem_cons.1 hx with rfl | hx
        · have := hB.lt hq; simp only; omega
        · exact (hF q hq).2 x hx
      · rcases List.mem_cons.1 hx with rfl | hx
        · exact hh
        · exact (h.kept.later hb).blk x hx
theorem GK.all (h : GK W w p l L) (hl : l.length ≤ 1000000) : Calls Try.prog 20 #[.pointer (some ⟨p, 0, none⟩)] w fun e w' => ∃ v', e = .returned v' ∧ RowK W w' p l L v' l := by
  obtain ⟨base, M, v, hB, hs, hF⟩ := h.ex
  exact (all_any base p M v l w hB hl).mono fun e w' ⟨v', he, ho, hb⟩ => ⟨v', he, h.rowK hb ho⟩
theorem GK.inState (h : GK W w p l L) (s : Int) (hl : l.length ≤ 1000000) : Calls Try.prog 22 #[.pointer (some ⟨p, 0, none⟩), .int .i64 s] w fun e w' => ∃ v', e = .returned v' ∧ RowK W w' p l L v' (l.filter fun x => x.state == s) := by
  obtain ⟨base, M, v, hB, hs, hF⟩ := h.ex
  exact (inBook_any base p M v l s w hB hl).mono fun e w' ⟨v', he, ho, hb⟩ => ⟨v', he, h.rowK hb ho⟩
end Go.Proofs.Ytaopekoehaccbaa
