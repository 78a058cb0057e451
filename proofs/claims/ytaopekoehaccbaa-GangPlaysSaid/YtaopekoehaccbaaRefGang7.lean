/-
  Both books alike; and kept together.
-/
import Derived.Test.YtaopekoehaccbaaRefGang6
import Derived.Test.YtaopekoehaccbaaGangPure
set_option linter.unusedVariables false
set_option linter.unusedSimpArgs false
namespace Go.Proofs.Ytaopekoehaccbaa
open Go.RowKit Go.Maps

theorem next1 {s : Int} (h : 1 ≤ s ∧ s ≤ 6) : nextF s 1 = if s = 1 then (2, 0) else (0, 8) := by
  have hs : s = 1 ∨ s = 2 ∨ s = 3 ∨ s = 4 ∨ s = 5 ∨ s = 6 := by omega
  rcases hs with rfl | rfl | rfl | rfl | rfl | rfl <;> rfl
theorem next2 {s : Int} (h : 1 ≤ s ∧ s ≤ 6) : nextF s 2 = if s = 2 then (3, 0) else (0, 8) := by
  have hs : s = 1 ∨ s = 2 ∨ s = 3 ∨ s = 4 ∨ s = 5 ∨ s = 6 := by omega
  rcases hs with rfl | rfl | rfl | rfl | rfl | rfl <;> rfl
theorem reserve_eq {x : Rc} (h : okRc x) (m li wo : Int) : reserveF m li wo x = rReserve m li wo x := by
  unfold reserveF toF rReserve
  rw [next1 h.st]
  by_cases h1 : x.state = 1
  · by_cases h2 : m < x.job.shape.mn ∨ x.job.shape.mx < m
    · have h3 : inB m x.job.shape.mn x.job.shape.mx = false := by unfold inB; simp; omega
      simp [h1, h2, h3]
    · have h3 : inB m x.job.shape.mn x.job.shape.mx = true := by unfold inB; simp; omega
      simp [h1, h2, h3]
  · simp [h1]
theorem start_eq {x : Rc} (h : okRc x) (now : Int) : startF now x = rStart now x := by
  unfold startF toF rStart
  rw [next2 h.st]
  by_cases h1 : x.state = 2
  · by_cases h2 : now < 0 ∨ 1073741824 < now
    · have h3 : inB now 0 1073741824 = false := by unfold inB; simp; omega
      simp [h1, h2, h3]
    · have h3 : inB now 0 1073741824 = true := by unfold inB; simp; omega
      simp [h1, h2, h3, wrap_eqI]
  · simp [h1]
theorem resize_eq (x : Rc) (b : Int) : resizeF x b = rResize b x := by
  unfold resizeF rResize
  rw [wrap_eqI]
  by_cases h1 : x.state = 3
  · by_cases h2 : b ≠ 1 ∧ b ≠ -1
    · simp [h1, h2]
    · by_cases h4 : wrap64 (x.members + b) < x.job.shape.mn ∨ x.job.shape.mx < wrap64 (x.members + b)
      · have h3 : inB (wrap64 (x.members + b)) x.job.shape.mn x.job.shape.mx = false := by unfold inB; simp; omega
        simp [h1, h2, h3, h4]
      · have h3 : inB (wrap64 (x.members + b)) x.job.shape.mn x.job.shape.mx = true := by unfold inB; simp; omega
        have h5 : ¬ ((b ≠ 1 ∧ b ≠ -1) ∨ wrap64 (x.members + b) < x.job.shape.mn ∨ x.job.shape.mx < wrap64 (x.members + b)) := fun e => e.elim h2 h4
        rw [if_neg (by simpa using h1), if_neg h2, if_neg (by simp [h3]), if_neg (by simpa using h1), if_neg h5]
  · simp [h1]
theorem modR_congr {l : List Rc} {id : Int} {f g : Rc → Int × Rc} (h : ∀ x ∈ l, f x = g x) : modR l id f = modR l id g := by
  unfold modR
  cases findR l id with
  | none => rfl
  | some k =>
    simp only
    cases hk : l[k]? with
    | none => rfl
    | some x => simp only; rw [h x (List.mem_of_getElem? hk)]
theorem startN_eq {l : List Rc} (id now : Int) (h : ∀ x ∈ l, startF now x = rStart now x) : startN l id now = rStartN l id now := by
  unfold startN rStartN
  cases findR l id with
  | none => rfl
  | some k =>
    simp only
    cases hk : l[k]? with
    | none => rfl
    | some x => simp only; rw [h x (List.mem_of_getElem? hk), wrap_eqI]
theorem Well.all {l : List Rc} (h : Well l) : ∀ x ∈ l, okRc x := fun x hx => by
  obtain ⟨k, hk, rfl⟩ := List.getElem_of_mem hx
  exact h.ok k hk
theorem doRef_eq {l : List Rc} (h : Well l) (a : Act11) : doRef l a = doR l a := by
  unfold doRef doR
  rw [modR_congr (fun x hx => (reserve_eq (h.all x hx) a.n a.m a.k).symm), modR_congr (fun x hx => (start_eq (h.all x hx) a.n).symm), modR_congr (g := fun x => resizeF x a.n) (fun x _ => (resize_eq x a.n).symm), ← startN_eq a.j.id a.n (fun x hx => start_eq (h.all x hx) a.n)]
theorem Well.doR {l : List Rc} (h : Well l) (a : Act11) : Well (doR l a).2 := h.step (doR_step l a)

variable {W w w' : World} {p pm : Nat} {l l1 l2 : List Rc} {L : List (Nat × Array Value × TypeId)}
theorem GK.chgL {F : Nat → Prop} (h : GK W w p l L) (hf : Fr w.heap.size F w w') (hF : ∀ q, F q → W.heap.size ≤ q ∧ ∃ x ∈ L, x.1 = q) {L' : List (Nat × Array Value × TypeId)}
    (hL : ∀ x ∈ L', w'.heap[x.1]? = some (.cells x.2.1 x.2.2 (0, 0)) ∧ ((∃ y ∈ L, y.1 = x.1) ∨ w.heap.size ≤ x.1)) : GK W w' p l L' := by
  obtain ⟨base, M, v, hB, hs, hF0⟩ := h.ex
  refine ⟨⟨base, M, v, hB.frame fun q hq => hf.block q (hB.lt hq) fun e => ?_, Nat.le_trans hs hf.size, fun q hq => ⟨(hF0 q hq).1, fun x hx => ?_⟩⟩, ?_, fun x hx => (hL x hx).1⟩
  · obtain ⟨_, x, hx, hxe⟩ := hF q e
    exact (hF0 q hq).2 x hx hxe
  · rcases (hL x hx).2 with ⟨y, hy, e⟩ | e
    · rw [← e]; exact (hF0 q hq).2 y hy
    · have := hB.lt hq; omega
  · exact h.below.trans ((hf.mono h.below.size fun _ _ e => e).below (Nat.le_refl _) fun q hq => (hF q hq).1)

/-- The given book p of the records l1 and the document's book pm of the records l2 lie side by side, and apart from what was there at W. -/
def GR (W w : World) (p pm : Nat) (l1 l2 : List Rc) : Prop :=
  ∃ v L, GK W w p l1 L ∧ RbAt w pm v l2 ∧ ∀ q, q = pm ∨ v.ownBlock = some q → W.heap.size ≤ q ∧ ∃ x ∈ L, x.1 = q
theorem GR.later (h : GR W w p pm l1 l2) (hb : Below w.heap.size w w') : GR W w' p pm l1 l2 := by
  obtain ⟨v, L, h1, h2, h3⟩ := h
  exact ⟨v, L, h1.later hb, h2.later hb, h3⟩
theorem GR.lt (h : GR W w p pm l1 l2) : p < w.heap.size := by obtain ⟨v, L, h1, h2, h3⟩ := h; exact h1.lt
theorem GR.ltm (h : GR W w p pm l1 l2) : pm < w.heap.size := by obtain ⟨v, L, h1, h2, h3⟩ := h; exact h2.lt (.inl rfl)
theorem GR.below (h : GR W w p pm l1 l2) : Below W.heap.size W w := by obtain ⟨v, L, h1, h2, h3⟩ := h; exact h1.below
theorem RbAt.same {v : Value} (h : RbAt w pm v l) (hs : ∀ q, q = pm ∨ v.ownBlock = some q → w'.heap[q]? = w.heap[q]?) : RbAt w' pm v l := by
  obtain ⟨B, h1, h2⟩ := h.own
  refine ⟨(hs _ (.inl rfl)).trans h.head, B, h1, h2.1, ?_⟩
  rcases h2.2 with e | ⟨g, cap, cur, hv, hg, hh, hn⟩
  · exact .inl e
  · exact .inr ⟨g, cap, cur, hv, hg, (hs _ (.inr (by rw [hv]; rfl))).trans hh, hn⟩
theorem GR.start (W : World) (w : World) (hK : GK W w p [] L) : GR W (w.alloc (.cells #[.slice none 0 0] 57)) p w.heap.size [] [] := by
  have h2 := hK.new #[.slice none 0 0] 57
  refine ⟨.slice none 0 0, _, h2, ⟨World.alloc_heap_new _ _, w.heap.size + 1, Nat.lt_succ_self _, ?_⟩, fun q hq => ?_⟩
  · exact ⟨by simp, .inl ⟨rfl, rfl⟩⟩
  · rcases hq with rfl | hq
    · exact ⟨hK.below.size, _, List.mem_cons_self .., rfl⟩
    · simp [Value.ownBlock] at hq
/-- the law's do: the given book's step; what is laid in the block that it is told -/
theorem GR.do (h : GR W w p pm l1 l2) (a : Act11) (hid : okInt a.j.id) (hl : l1.length ≤ 1000000) :
    Calls Try.prog 21 #[.pointer (some ⟨p, 0, none⟩), .agg #[.int .i64 a.kind, .int .i64 a.n, .int .i64 a.m, .int .i64 a.k, .int .i64 a.j.id, .int .i64 a.j.queue, .int .i64 a.j.prio, .int .i64 a.j.runtime, .int .i64 a.j.shape.gpus, .int .i64 a.j.shape.cpus, .int .i64 a.j.shape.mn, .int .i64 a.j.shape.mx]] w fun e w' =>
      e = .returned (.tuple #[.int .i64 (doR l1 a).1.1, (.agg #[.int .i64 (Jb.id (Rc.job ((doR l1 a).1.2.1))), .int .i64 (Jb.queue (Rc.job ((doR l1 a).1.2.1))), .int .i64 (Jb.prio (Rc.job ((doR l1 a).1.2.1))), .int .i64 (Jb.runtime (Rc.job ((doR l1 a).1.2.1))), .int .i64 (Sh.gpus (Jb.shape (Rc.job ((doR l1 a).1.2.1)))), .int .i64 (Sh.cpus (Jb.shape (Rc.job ((doR l1 a).1.2.1)))), .int .i64 (Sh.mn (Jb.shape (Rc.job ((doR l1 a).1.2.1)))), .int .i64 (Sh.mx (Jb.shape (Rc.job ((doR l1 a).1.2.1)))), .int .i64 (Rc.state ((doR l1 a).1.2.1)), .int .i64 (Rc.since ((doR l1 a).1.2.1)), .int .i64 (Rc.number ((doR l1 a).1.2.1)), .int .i64 (Rc.members ((doR l1 a).1.2.1)), .int .i64 (Rc.began ((doR l1 a).1.2.1)), .int .i64 (Rc.fin ((doR l1 a).1.2.1)), .int .i64 (Rc.limit ((doR l1 a).1.2.1)), .int .i64 (Rc.worker ((doR l1 a).1.2.1))]), .int .i64 (doR l1 a).1.2.2]) ∧ GR W w' p pm (doR l1 a).2 l2 := by
  obtain ⟨v, L, h1, h2, h3⟩ := h
  refine (h1.doAny a hid hl).mono fun e w' hp => ?_
  unfold DoPost at hp
  refine ⟨hp.1, v, L, hp.2, h2.same fun q hq => ?_, h3⟩
  obtain ⟨_, x, hx, rfl⟩ := h3 q hq
  exact (hp.2.kept.blk x hx).trans (h1.kept.blk x hx).symm
theorem GR.refDo {w0 : World} (h0 : GR W w0 p pm l1 l2) (hb0 : Below w0.heap.size w0 w) (a : Act11) (hl : l2.length ≤ 1000000) :
    Calls Try.prog 23 #[.pointer (some ⟨pm, 0, none⟩), .agg #[.int .i64 a.kind, .int .i64 a.n, .int .i64 a.m, .int .i64 a.k, .int .i64 a.j.id, .int .i64 a.j.queue, .int .i64 a.j.prio, .int .i64 a.j.runtime, .int .i64 a.j.shape.gpus, .int .i64 a.j.shape.cpus, .int .i64 a.j.shape.mn, .int .i64 a.j.shape.mx]] w fun e w' =>
      e = .returned (.tuple #[.int .i64 (doRef l2 a).1.1, (.agg #[.int .i64 (Jb.id (Rc.job ((doRef l2 a).1.2.1))), .int .i64 (Jb.queue (Rc.job ((doRef l2 a).1.2.1))), .int .i64 (Jb.prio (Rc.job ((doRef l2 a).1.2.1))), .int .i64 (Jb.runtime (Rc.job ((doRef l2 a).1.2.1))), .int .i64 (Sh.gpus (Jb.shape (Rc.job ((doRef l2 a).1.2.1)))), .int .i64 (Sh.cpus (Jb.shape (Rc.job ((doRef l2 a).1.2.1)))), .int .i64 (Sh.mn (Jb.shape (Rc.job ((doRef l2 a).1.2.1)))), .int .i64 (Sh.mx (Jb.shape (Rc.job ((doRef l2 a).1.2.1)))), .int .i64 (Rc.state ((doRef l2 a).1.2.1)), .int .i64 (Rc.since ((doRef l2 a).1.2.1)), .int .i64 (Rc.number ((doRef l2 a).1.2.1)), .int .i64 (Rc.members ((doRef l2 a).1.2.1)), .int .i64 (Rc.began ((doRef l2 a).1.2.1)), .int .i64 (Rc.fin ((doRef l2 a).1.2.1)), .int .i64 (Rc.limit ((doRef l2 a).1.2.1)), .int .i64 (Rc.worker ((doRef l2 a).1.2.1))]), .int .i64 (doRef l2 a).1.2.2]) ∧ GR W w' p pm l1 (doRef l2 a).2 ∧ ∀ B, w0.heap.size ≤ B → B < w.heap.size → w'.heap[B]? = w.heap[B]? := by
  have h := h0.later hb0
  obtain ⟨v, L, h1', h2', h3'⟩ := h0
  have h1 := h1'.later hb0
  have h2 := h2'.later hb0
  have h3 := h3'
  refine (refDo_any h2 a hl).mono fun e w' hp => ?_
  unfold RbDo at hp
  obtain ⟨he, v', h4, hf, hv⟩ := hp
  suffices hs : GR W w' p pm l1 (doRef l2 a).2 from ⟨he, hs, fun B hB hlt => hf.block B hlt fun e => by have := h2'.lt e; omega⟩
  refine ⟨v', ?_⟩
  have hrow : ∀ q, v'.ownBlock = some q → ∃ cs, w'.heap[q]? = some (.cells cs 38 (0, 0)) := fun q hq => by
    obtain ⟨B, hB, hr, ⟨e, _⟩ | ⟨g, cap, cur, hv, hg, hh, hn⟩⟩ := h4.own
    · rw [e] at hq; simp [Value.ownBlock] at hq
    · rw [hv] at hq; simp only [Value.ownBlock, Option.some.injEq] at hq; subst hq; exact ⟨_, hh⟩
  have hge : ∀ q, q = pm ∨ v'.ownBlock = some q → (∃ y ∈ L, y.1 = q) ∨ w.heap.size ≤ q := fun q hq => by
    rcases hq with hq | hq
    · exact .inl (h3 q (.inl hq)).2
    · rcases hv q hq with e | e
      · exact .inl (h3 q (.inr e)).2
      · exact .inr e
  have hW : ∀ q, q = pm ∨ v'.ownBlock = some q → W.heap.size ≤ q := fun q hq => by
    rcases hq with hq | hq
    · exact (h3 q (.inl hq)).1
    · rcases hv q hq with e | e
      · exact (h3 q (.inr e)).1
      · exact Nat.le_trans h1.below.size e
  obtain ⟨o, ho⟩ : ∃ o, v'.ownBlock = o := ⟨_, rfl⟩
  cases o with
  | none =>
    refine ⟨[(pm, #[v'], 57)], h1.chgL hf h3 fun x hx => ?_, h4, fun q hq => ⟨hW q hq, ?_⟩⟩
    · rw [List.mem_singleton] at hx; subst hx
      exact ⟨h4.head, hge _ (.inl rfl)⟩
    · rcases hq with rfl | hq
      · exact ⟨_, List.mem_cons_self .., rfl⟩
      · rw [ho] at hq; cases hq
  | some q0 =>
    obtain ⟨cs, hcs⟩ := hrow q0 ho
    refine ⟨[(pm, #[v'], 57), (q0, cs, 38)], h1.chgL hf h3 fun x hx => ?_, h4, fun q hq => ⟨hW q hq, ?_⟩⟩
    · rcases List.mem_cons.1 hx with rfl | hx
      · exact ⟨h4.head, hge _ (.inl rfl)⟩
      · rw [List.mem_singleton] at hx; subst hx
        exact ⟨hcs, hge _ (.inr ho)⟩
    · rcases hq with rfl | hq
      · exact ⟨_, List.mem_cons_self .., rfl⟩
      · rw [ho] at hq; cases hq
        exact ⟨_, List.mem_cons_of_mem _ (List.mem_cons_self ..), rfl⟩
theorem RowK.rcRow {v : Value} {xs : List Rc} (h : RowK W w' p l L v xs) : RcRow w' v xs := by
  rcases h with ⟨rfl, rfl, _⟩ | ⟨g, cap, cur, rfl, hn, hm, hc, hK⟩
  · exact ⟨none, 0, rfl, fun k hk => by simp at hk⟩
  · refine ⟨_, cap, rfl, fun k hk => ⟨g, rfl, ?_, fun j hj => ?_⟩⟩
    · exact lt_of_block (hK.kept.blk _ (List.mem_cons_self ..))
    · exact (cell_of_block (hK.kept.blk _ (List.mem_cons_self ..)) _).trans (hc k hk j hj)
theorem GR.all (h : GR W w p pm l1 l2) (hl : l1.length ≤ 1000000) : Calls Try.prog 20 #[.pointer (some ⟨p, 0, none⟩)] w fun e w' => ∃ v', e = .returned v' ∧ RcRow w' v' l1 ∧ Below w.heap.size w w' := by
  obtain ⟨v, L, h1, h2, h3⟩ := h
  obtain ⟨base, M, v0, hB, hs, hF⟩ := h1.ex
  exact (all_any base p M v0 l1 w hB hl).mono fun e w' ⟨v', he, ho, hb⟩ => ⟨v', he, (h1.rowK hb ho).rcRow, hb⟩
theorem GR.inState (h : GR W w p pm l1 l2) (s : Int) (hl : l1.length ≤ 1000000) : Calls Try.prog 22 #[.pointer (some ⟨p, 0, none⟩), .int .i64 s] w fun e w' => ∃ v', e = .returned v' ∧ RcRow w' v' (l1.filter fun x => x.state == s) ∧ Below w.heap.size w w' := by
  obtain ⟨v, L, h1, h2, h3⟩ := h
  obtain ⟨base, M, v0, hB, hs, hF⟩ := h1.ex
  exact (inBook_any base p M v0 l1 s w hB hl).mono fun e w' ⟨v', he, ho, hb⟩ => ⟨v', he, (h1.rowK hb ho).rcRow, hb⟩
theorem GR.get (h : GR W w p pm l1 l2) (id : Int) (hid : okInt id) (hl : l1.length ≤ 1000000) :
    Calls Try.prog 18 #[.pointer (some ⟨p, 0, none⟩), .int .i64 id] w fun e w' => e = .returned (.tuple #[(.agg #[.int .i64 (Jb.id (Rc.job ((getR l1 id).1))), .int .i64 (Jb.queue (Rc.job ((getR l1 id).1))), .int .i64 (Jb.prio (Rc.job ((getR l1 id).1))), .int .i64 (Jb.runtime (Rc.job ((getR l1 id).1))), .int .i64 (Sh.gpus (Jb.shape (Rc.job ((getR l1 id).1)))), .int .i64 (Sh.cpus (Jb.shape (Rc.job ((getR l1 id).1)))), .int .i64 (Sh.mn (Jb.shape (Rc.job ((getR l1 id).1)))), .int .i64 (Sh.mx (Jb.shape (Rc.job ((getR l1 id).1)))), .int .i64 (Rc.state ((getR l1 id).1)), .int .i64 (Rc.since ((getR l1 id).1)), .int .i64 (Rc.number ((getR l1 id).1)), .int .i64 (Rc.members ((getR l1 id).1)), .int .i64 (Rc.began ((getR l1 id).1)), .int .i64 (Rc.fin ((getR l1 id).1)), .int .i64 (Rc.limit ((getR l1 id).1)), .int .i64 (Rc.worker ((getR l1 id).1))]), .int .i64 (getR l1 id).2]) ∧ Below w.heap.size w w' := by
  obtain ⟨v, L, h1, h2, h3⟩ := h
  obtain ⟨base, M, v0, hB, hs, hF⟩ := h1.ex
  exact get_any base p M v0 l1 id w hB hid hl
theorem GR.refGet (h : GR W w p pm l1 l2) (id : Int) (hl : l2.length ≤ 1000000) :
    Calls Try.prog 26 #[.pointer (some ⟨pm, 0, none⟩), .int .i64 id] w fun e w' => e = .returned (.tuple #[(.agg #[.int .i64 (Jb.id (Rc.job ((getR l2 id).1))), .int .i64 (Jb.queue (Rc.job ((getR l2 id).1))), .int .i64 (Jb.prio (Rc.job ((getR l2 id).1))), .int .i64 (Jb.runtime (Rc.job ((getR l2 id).1))), .int .i64 (Sh.gpus (Jb.shape (Rc.job ((getR l2 id).1)))), .int .i64 (Sh.cpus (Jb.shape (Rc.job ((getR l2 id).1)))), .int .i64 (Sh.mn (Jb.shape (Rc.job ((getR l2 id).1)))), .int .i64 (Sh.mx (Jb.shape (Rc.job ((getR l2 id).1)))), .int .i64 (Rc.state ((getR l2 id).1)), .int .i64 (Rc.since ((getR l2 id).1)), .int .i64 (Rc.number ((getR l2 id).1)), .int .i64 (Rc.members ((getR l2 id).1)), .int .i64 (Rc.began ((getR l2 id).1)), .int .i64 (Rc.fin ((getR l2 id).1)), .int .i64 (Rc.limit ((getR l2 id).1)), .int .i64 (Rc.worker ((getR l2 id).1))]), .int .i64 (getR l2 id).2]) ∧ Below w.heap.size w w' := by
  obtain ⟨v, L, h1, h2, h3⟩ := h
  exact refGet_any h2 id hl
theorem GR.refIn (h : GR W w p pm l1 l2) (s : Int) (hl : l2.length ≤ 1000000) :
    Calls Try.prog 25 #[.pointer (some ⟨pm, 0, none⟩), .int .i64 s] w fun e w' => ∃ v', e = .returned v' ∧ RcRow w' v' (l2.filter fun x => x.state == s) ∧ Below w.heap.size w w' := by
  obtain ⟨v, L, h1, h2, h3⟩ := h
  exact (refIn_any h2 s hl).mono fun e w' ⟨v', he, ho, hb⟩ => ⟨v', he, RcRow.of_own ho, hb⟩
theorem GR.row (h : GR W w p pm l1 l2) : ∃ v, w.cell? ⟨pm, 0, none⟩ = some v ∧ RcRow w v l2 := by
  obtain ⟨v, L, h1, h2, h3⟩ := h
  exact ⟨v, cell_of_block h2.head 0, h2.rcRow⟩
theorem Fr.fresh {w w1 w' : World} {F : Nat → Prop} (hb : Below w.heap.size w w1) (hf : Fr w1.heap.size F w1 w') (hF : ∀ q, F q → w.heap.size ≤ q) : Below w.heap.size w w' :=
  hb.trans ((hf.mono hb.size fun _ _ e => e).below (Nat.le_refl _) hF)
end Go.Proofs.Ytaopekoehaccbaa
