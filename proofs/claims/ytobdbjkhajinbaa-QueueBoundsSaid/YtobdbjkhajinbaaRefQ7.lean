/-
  queue: both queues of the law QueuePlays, apart from each other.
-/
import Derived.Test.YtobdbjkhajinbaaRefQ6
import Derived.Test.YtobdbjkhajinbaaSameWt
set_option linter.unusedVariables false
set_option linter.unusedSimpArgs false
namespace Go.Proofs.Ytobdbjkhajinbaa
open Go.RowKit
structure QD (W w : World) (base p R M pd : Nat) (ra : Option Addr) (rc : Nat) (rows : List (List Wt)) (rooms : List Int) (L : List Wt) (K : List (Nat × Array Value × TypeId)) : Prop where
  bas : W.heap.size ≤ base
  ok : ∀ r ∈ rooms, 0 ≤ r ∧ r ≤ 16
  both : ∃ vs v, QAt w base p R M vs rows rooms ∧ DAt W w pd ra rc v rooms L ∧ (∀ g, QF p R M vs g → (g ≠ pd ∧ v.ownBlock ≠ some g)) ∧ ∀ x ∈ K, w.heap[x.1]? = some (.cells x.2.1 x.2.2 (0, 0)) ∧ ¬ QF p R M vs x.1 ∧ x.1 ≠ pd ∧ v.ownBlock ≠ some x.1
section
variable {W w w' : World} {base p R M pd : Nat} {ra : Option Addr} {rc : Nat} {rows rows' : List (List Wt)} {rooms : List Int} {L L' : List Wt} {K : List (Nat × Array Value × TypeId)}
theorem QD.below (h : QD W w base p R M pd ra rc rows rooms L K) : Below W.heap.size W w := by
  obtain ⟨vs, v, _, hd, _, _⟩ := h.both
  exact hd.below
theorem QD.later (h : QD W w base p R M pd ra rc rows rooms L K) (hb : Below w.heap.size w w') : QD W w' base p R M pd ra rc rows rooms L K := by
  obtain ⟨vs, v, hq, hd, ha, hk⟩ := h.both
  exact ⟨h.bas, h.ok, vs, v, hq.later hb, hd.later hb, ha, fun x hx => ⟨(hb.block _ (lt_of_block (hk x hx).1)).trans (hk x hx).1, (hk x hx).2⟩⟩
theorem QD.weaken {K' : List (Nat × Array Value × TypeId)} (h : QD W w base p R M pd ra rc rows rooms L K) (hs : ∀ x ∈ K', x ∈ K) : QD W w base p R M pd ra rc rows rooms L K' := by
  obtain ⟨vs, v, hq, hd, ha, hk⟩ := h.both
  exact ⟨h.bas, h.ok, vs, v, hq, hd, ha, fun x hx => hk x (hs x hx)⟩
theorem QD.new (h : QD W w base p R M pd ra rc rows rooms L K) (cs : Array Value) (t : TypeId) : QD W (w.alloc (.cells cs t)) base p R M pd ra rc rows rooms L ((w.heap.size, cs, t) :: K) := by
  have h' := h.later ((Below.refl _ _).alloc (Nat.le_refl _) (.cells cs t))
  obtain ⟨vs, v, hq, hd, ha, hk⟩ := h.both
  have hb := (Below.refl w.heap.size w).alloc (Nat.le_refl _) (.cells cs t)
  refine ⟨h.bas, h.ok, vs, v, hq.later hb, hd.later hb, ha, fun x hx => ?_⟩
  rcases List.mem_cons.1 hx with rfl | hx
  · refine ⟨World.alloc_heap_new _ _, fun e => ?_, fun e => ?_, fun e => ?_⟩
    · have := (hq.lt e).2; omega
    · have := lt_of_block hd.head; simp only at e; omega
    · have := (hd.row.lt _ e).2; omega
  · exact ⟨(hb.block _ (lt_of_block (hk x hx).1)).trans (hk x hx).1, (hk x hx).2⟩
theorem QD.blk (h : QD W w base p R M pd ra rc rows rooms L K) (k : Nat) {b : Nat} {cs : Array Value} {t : TypeId} (hx : K[k]? = some (b, cs, t)) : w.heap[b]? = some (.cells cs t (0, 0)) := by
  obtain ⟨vs, v, hq, hd, ha, hk⟩ := h.both
  exact (hk _ (List.mem_of_getElem? hx)).1
theorem QD.qstep {vs : List Value} {v : Value} (h : QD W w base p R M pd ra rc rows rooms L K) (hq : QAt w base p R M vs rows rooms) (hd : DAt W w pd ra rc v rooms L) (ha : ∀ g, QF p R M vs g → g ≠ pd ∧ v.ownBlock ≠ some g) (hk : ∀ x ∈ K, w.heap[x.1]? = some (.cells x.2.1 x.2.2 (0, 0)) ∧ ¬ QF p R M vs x.1 ∧ x.1 ≠ pd ∧ v.ownBlock ≠ some x.1)
    (hs : StepQ base p R M vs rows' rooms w w') : QD W w' base p R M pd ra rc rows' rooms L K := by
  obtain ⟨vs', hq', hfr, hqf⟩ := hs
  refine ⟨h.bas, h.ok, vs', v, hq', hd.fr hfr (fun e => (ha _ e).1 rfl) (fun g hg e => (ha g e).2 hg) (fun g hg => Nat.le_trans h.bas (hq.lt hg).1), fun g hg => ?_, fun x hx => ⟨(hfr.block _ (lt_of_block (hk x hx).1) (hk x hx).2.1).trans (hk x hx).1, fun e => ?_, (hk x hx).2.2⟩⟩
  · rcases hqf g hg with h1 | h1
    · exact ha g h1
    · have lp := lt_of_block hd.head
      exact ⟨by omega, fun e => by have := (hd.row.lt g e).2; omega⟩
  · rcases hqf _ e with h1 | h1
    · exact (hk x hx).2.1 h1
    · have := lt_of_block (hk x hx).1; omega
theorem QD.dstep {vs : List Value} {v : Value} (h : QD W w base p R M pd ra rc rows rooms L K) (hq : QAt w base p R M vs rows rooms) (hd : DAt W w pd ra rc v rooms L) (ha : ∀ g, QF p R M vs g → g ≠ pd ∧ v.ownBlock ≠ some g) (hk : ∀ x ∈ K, w.heap[x.1]? = some (.cells x.2.1 x.2.2 (0, 0)) ∧ ¬ QF p R M vs x.1 ∧ x.1 ≠ pd ∧ v.ownBlock ≠ some x.1)
    (hs : StepD W pd ra rc v rooms L' w w') : QD W w' base p R M pd ra rc rows rooms L' K := by
  obtain ⟨v', hd', hfr, ho⟩ := hs
  refine ⟨h.bas, h.ok, vs, v', hq.fr hfr (fun g hg e => (ha g hg).1 e), hd', fun g hg => ⟨(ha g hg).1, fun e => ?_⟩, fun x hx => ⟨(hfr.block _ (lt_of_block (hk x hx).1) (hk x hx).2.2.1).trans (hk x hx).1, (hk x hx).2.1, (hk x hx).2.2.1, fun e => ?_⟩⟩
  · rcases ho g e with h1 | h1
    · exact (ha g hg).2 h1
    · have := (hq.lt hg).2; omega
  · rcases ho _ e with h1 | h1
    · exact (hk x hx).2.2.2 h1
    · have := lt_of_block (hk x hx).1; omega
theorem QD.qdo (h : QD W w base p R M pd ra rc rows rooms L K) (x : Act10) (hfew : ∀ l ∈ rows, l.length ≤ 1000) :
    Calls Try.prog 16 #[.pointer (some ⟨p, 0, none⟩), .agg #[.int .i64 x.kind, .int .i64 x.w.job.id, .int .i64 x.w.job.queue, .int .i64 x.w.job.prio, .int .i64 x.w.job.runtime, .int .i64 x.w.job.shape.gpus, .int .i64 x.w.job.shape.cpus, .int .i64 x.w.job.shape.mn, .int .i64 x.w.job.shape.mx, .int .i64 x.w.since, .int .i64 x.w.number]] w
      fun e w' => ∃ (y : Wt) (cd : Int) (rows' : List (List Wt)), e = .returned (.tuple #[wtV y, .int .i64 cd]) ∧ QD W w' base p R M pd ra rc rows' rooms L K ∧ DoR x rows rooms y cd rows' := by
  obtain ⟨vs, v, hq, hd, ha, hk⟩ := h.both
  exact (do_any hq x h.ok hfew).mono fun e w' ⟨y, cd, rows', he, hs, hc⟩ => ⟨y, cd, rows', he, h.qstep hq hd ha hk hs, hc⟩
theorem QD.dask (h : QD W w base p R M pd ra rc rows rooms L K) (x : Act10) (hl : L.length < 100000) :
    Calls Try.prog 17 #[.pointer (some ⟨pd, 0, none⟩), .agg #[.int .i64 x.kind, .int .i64 x.w.job.id, .int .i64 x.w.job.queue, .int .i64 x.w.job.prio, .int .i64 x.w.job.runtime, .int .i64 x.w.job.shape.gpus, .int .i64 x.w.job.shape.cpus, .int .i64 x.w.job.shape.mn, .int .i64 x.w.job.shape.mx, .int .i64 x.w.since, .int .i64 x.w.number]] w
      fun e w' => ∃ (y : Wt) (cd : Int) (L' : List Wt), e = .returned (.tuple #[wtV y, .int .i64 cd]) ∧ QD W w' base p R M pd ra rc rows rooms L' K ∧ AskR x L rooms y cd L' := by
  obtain ⟨vs, v, hq, hd, ha, hk⟩ := h.both
  exact (ask_any hd x h.ok hl).mono fun e w' ⟨y, cd, L', he, hs, hc⟩ => ⟨y, cd, L', he, h.dstep hq hd ha hk hs, hc⟩
theorem QD.qall (h : QD W w base p R M pd ra rc rows rooms L K) (hfew : ∀ l ∈ rows, l.length ≤ 1000) :
    Calls Try.prog 15 #[.pointer (some ⟨p, 0, none⟩)] w fun e w' => ∃ v, e = .returned v ∧ w'.ownsRow w.heap.size 35 10 v rows.flatten.length (rows.flatten.flatMap Wt.cells) ∧ Below w.heap.size w w' := by
  obtain ⟨vs, v, hq, hd, ha, hk⟩ := h.both
  exact all_any hq hfew
theorem QD.dall (h : QD W w base p R M pd ra rc rows rooms L K) :
    Calls Try.prog 19 #[.pointer (some ⟨pd, 0, none⟩)] w fun e w' => ∃ v, e = .returned v ∧ w'.ownsRow w.heap.size 35 10 v (splitQ rooms.length L).flatten.length ((splitQ rooms.length L).flatten.flatMap Wt.cells) ∧ Below w.heap.size w w' := by
  obtain ⟨vs, v, hq, hd, ha, hk⟩ := h.both
  exact dall_any hd
theorem QD.qroom (h : QD W w base p R M pd ra rc rows rooms L K) (q : Int) :
    Calls Try.prog 12 #[.pointer (some ⟨p, 0, none⟩), .int .i64 q] w fun e w' => e = .returned (.int .i64 (roomQ rows rooms q)) ∧ Below w.heap.size w w' := by
  obtain ⟨vs, v, hq, hd, ha, hk⟩ := h.both
  exact room_any hq q h.ok
theorem QD.droom (h : QD W w base p R M pd ra rc rows rooms L K) (q : Int) :
    Calls Try.prog 20 #[.pointer (some ⟨pd, 0, none⟩), .int .i64 q] w fun e w' => e = .returned (.int .i64 (roomD L rooms q)) ∧ Below w.heap.size w w' := by
  obtain ⟨vs, v, hq, hd, ha, hk⟩ := h.both
  exact droom_any hd q h.ok
theorem QD.qlen (h : QD W w base p R M pd ra rc rows rooms L K) (q : Int) :
    Calls Try.prog 13 #[.pointer (some ⟨p, 0, none⟩), .int .i64 q] w fun e w' => e = .returned (.int .i64 (lenQ rows q)) ∧ w' = w := by
  obtain ⟨vs, v, hq, hd, ha, hk⟩ := h.both
  exact len_any hq q
theorem QD.dlen (h : QD W w base p R M pd ra rc rows rooms L K) (q : Int) :
    Calls Try.prog 21 #[.pointer (some ⟨pd, 0, none⟩), .int .i64 q] w fun e w' => e = .returned (.int .i64 (lenD L q)) ∧ w' = w := by
  obtain ⟨vs, v, hq, hd, ha, hk⟩ := h.both
  exact dlen_any hd q
end
/-- a call of both -/
theorem both_tell {n : Nat} {L L' : List Wt} {rooms : List Int} {x : Act10} {y y' : Wt} {cd cd' : Int} {rows' : List (List Wt)} (h : JQ n L) (hr : rooms.length = n)
    (h1 : DoR x (splitQ n L) rooms y cd rows') (h2 : AskR x L rooms y' cd' L') : y = y' ∧ cd = cd' ∧ rows' = splitQ n L' ∧ JQ n L' ∧ L'.length ≤ L.length + 1 := by
  rcases h1 with ⟨hk, rfl, rfl, rfl⟩ | ⟨hk, h1⟩
  · rcases h2 with ⟨_, rfl, rfl, rfl⟩ | ⟨hk2, _⟩
    · rw [splitQ_add h hr]
      exact ⟨rfl, rfl, rfl, h.add hr _, addD_len _ _ _⟩
    · exact absurd hk hk2
  · rcases h2 with ⟨hk2, _⟩ | ⟨_, h2⟩
    · exact absurd hk2 hk
    · have := splitQ_both h h2 (y := y) (cd := cd) (rows' := rows') (by
        rcases h1 with h1 | ⟨i, k, hi, hk3, a, b, c, d⟩
        · exact .inl h1
        · refine .inr ⟨i, k, hi, hk3, a, b, c, d.trans ?_⟩
          by_cases e : x.kind = 1
          · rw [if_pos e, if_pos (by simpa using e)]
          · rw [if_neg e, if_neg (by simpa using e)])
      exact ⟨this.1, this.2.1, this.2.2.1, this.2.2.2.1, by have := this.2.2.2.2; omega⟩
/-- the law's queues as they begin -/
theorem QD.start {W w w' : World} {p R M : Nat} {ra : Option Addr} {rc : Nat} {rooms : List Int} {vs : List Value} {rows : List (List Wt)} (hb : Below W.heap.size W w) (hq : QAt w' w.heap.size p R M vs rows rooms) (hbw : Below w.heap.size w w')
    (hr : rightQ rooms = true) (hs : Rd.SliceOf W (.slice ra rooms.length rc) 1 I64.cells rooms) (hl : rooms.length ≤ 100) :
    QD W (w'.alloc (.cells #[.slice ra rooms.length rc, .slice none 0 0] 45)) w.heap.size p R M w'.heap.size ra rc rows rooms [] [] := by
  have hb2 := hb.trans (hbw.mono hb.size)
  refine ⟨hb.size, right_ok hr, vs, .slice none 0 0, hq.later ((Below.refl _ _).alloc (Nat.le_refl _) _), ⟨hb2.alloc hb2.size _, hb2.size, hs, World.alloc_heap_new _ _, World.ownsRow_nil _ _ _ _, by simp [Value.ownBlock], by simp, hl⟩, fun g hg => ⟨fun e => ?_, by simp [Value.ownBlock]⟩, fun x hx => by simp at hx⟩
  have := (hq.lt hg).2
  omega
end Go.Proofs.Ytobdbjkhajinbaa
