/-
  queue: a law's queues beside blocks of its own; the rows as one row of all.
-/
import Derived.Test.YtobdbjkhajinbaaRefQ7
import Derived.Test.YtobdbjkhajinbaaIntMap
set_option linter.unusedVariables false
set_option linter.unusedSimpArgs false
namespace Go.Proofs.Ytobdbjkhajinbaa
open Go.RowKit
structure QM (W w : World) (base p R M : Nat) (rows : List (List Wt)) (rooms : List Int) (K : List (Nat × Obj)) : Prop where
  bas : W.heap.size ≤ base
  below : Below W.heap.size W w
  ok : ∀ r ∈ rooms, 0 ≤ r ∧ r ≤ 16
  kd : (K.map (·.1)).Nodup
  both : ∃ vs, QAt w base p R M vs rows rooms ∧ ∀ x ∈ K, w.heap[x.1]? = some x.2 ∧ W.heap.size ≤ x.1 ∧ ¬ QF p R M vs x.1
section
variable {W w w' : World} {base p R M : Nat} {rows rows' : List (List Wt)} {rooms : List Int} {K : List (Nat × Obj)}
theorem QM.of (h : QK W w base p R M rows rooms) : QM W w base p R M rows rooms [] := by
  obtain ⟨vs, hq⟩ := h.at'
  exact ⟨h.bas, h.below, h.ok, by simp, vs, hq, fun x hx => by simp at hx⟩
theorem QM.later (h : QM W w base p R M rows rooms K) (hb : Below w.heap.size w w') : QM W w' base p R M rows rooms K := by
  obtain ⟨vs, hq, hk⟩ := h.both
  exact ⟨h.bas, h.below.trans (hb.mono h.below.size), h.ok, h.kd, vs, hq.later hb, fun x hx => ⟨(hb.block _ (lt_of_block (hk x hx).1)).trans (hk x hx).1, (hk x hx).2⟩⟩
theorem QM.weaken {K' : List (Nat × Obj)} (h : QM W w base p R M rows rooms K) (hs : ∀ x ∈ K', x ∈ K) (hd : (K'.map (·.1)).Nodup) : QM W w base p R M rows rooms K' := by
  obtain ⟨vs, hq, hk⟩ := h.both
  exact ⟨h.bas, h.below, h.ok, hd, vs, hq, fun x hx => hk x (hs x hx)⟩
theorem QM.tail {x : Nat × Obj} (h : QM W w base p R M rows rooms (x :: K)) : QM W w base p R M rows rooms K :=
  h.weaken (fun y hy => List.mem_cons.2 (.inr hy)) (by have := h.kd; rw [List.map_cons, List.nodup_cons] at this; exact this.2)
theorem QM.swap {x y : Nat × Obj} (h : QM W w base p R M rows rooms (x :: y :: K)) : QM W w base p R M rows rooms (y :: x :: K) :=
  h.weaken (fun z hz => by simp only [List.mem_cons] at hz ⊢; rcases hz with h | h | h <;> simp [h]) (by
    have := h.kd
    simp only [List.map_cons, List.nodup_cons, List.mem_cons] at this ⊢
    exact ⟨fun e => e.elim (fun e => this.1 (.inl e.symm)) this.2.1, fun e => this.1 (.inr e), this.2.2⟩)
theorem QM.blk (h : QM W w base p R M rows rooms K) (k : Nat) {b : Nat} {o : Obj} (hx : K[k]? = some (b, o)) : w.heap[b]? = some o := by
  obtain ⟨vs, hq, hk⟩ := h.both
  exact (hk _ (List.mem_of_getElem? hx)).1
theorem QM.new (h : QM W w base p R M rows rooms K) (o : Obj) : QM W (w.alloc o) base p R M rows rooms ((w.heap.size, o) :: K) := by
  have hb := (Below.refl w.heap.size w).alloc (Nat.le_refl _) o
  obtain ⟨vs, hq, hk⟩ := h.both
  refine ⟨h.bas, h.below.trans (hb.mono h.below.size), h.ok, ?_, vs, hq.later hb, fun x hx => ?_⟩
  · rw [List.map_cons, List.nodup_cons]
    refine ⟨fun e => ?_, h.kd⟩
    obtain ⟨x, hx, e⟩ := List.mem_map.1 e
    have := lt_of_block (hk x hx).1
    omega
  · rcases List.mem_cons.1 hx with rfl | hx
    · refine ⟨World.alloc_heap_new _ _, h.below.size, fun e => ?_⟩
      have := (hq.lt e).2; omega
    · exact ⟨(hb.block _ (lt_of_block (hk x hx).1)).trans (hk x hx).1, (hk x hx).2⟩
theorem QM.put {b : Nat} {o : Obj} (h : QM W w base p R M rows rooms ((b, o) :: K)) (o' : Obj) : QM W (w.putObj b o') base p R M rows rooms ((b, o') :: K) := by
  obtain ⟨vs, hq, hk⟩ := h.both
  have hb := hk _ (List.mem_cons.2 (.inl rfl))
  have hf : Fr w.heap.size (fun g => g = b) w (w.putObj b o') := (Fr.refl w.heap.size (fun g => g = b) w).putObj (.inr rfl) o'
  have hnd := h.kd
  rw [List.map_cons, List.nodup_cons] at hnd
  refine ⟨h.bas, h.below.trans (hf.below h.below.size fun g e => by have e' : g = b := e; subst e'; exact hb.2.1), h.ok, by rw [List.map_cons, List.nodup_cons]; exact hnd, vs, hq.fr hf (fun g hg e => hb.2.2 (by have e' : g = b := e; rw [← e']; exact hg)), fun x hx => ?_⟩
  rcases List.mem_cons.1 hx with rfl | hx
  · refine ⟨?_, hb.2⟩
    have hlt := lt_of_block hb.1
    unfold World.putObj
    simp only
    rw [Array.getElem?_setIfInBounds_self_of_lt hlt]
  · have := hk x (List.mem_cons.2 (.inr hx))
    exact ⟨(hf.block _ (lt_of_block this.1) (fun e => hnd.1 (List.mem_map.2 ⟨x, hx, e⟩))).trans this.1, this.2⟩
theorem QM.step {vs : List Value} (h : QM W w base p R M rows rooms K) (hq : QAt w base p R M vs rows rooms) (hk : ∀ x ∈ K, w.heap[x.1]? = some x.2 ∧ W.heap.size ≤ x.1 ∧ ¬ QF p R M vs x.1) (hs : StepQ base p R M vs rows' rooms w w') : QM W w' base p R M rows' rooms K := by
  obtain ⟨vs', hq', hfr, hqf⟩ := hs
  refine ⟨h.bas, h.below.trans (hfr.below h.below.size fun g hg => Nat.le_trans h.bas (hq.lt hg).1), h.ok, h.kd, vs', hq', fun x hx => ⟨(hfr.block _ (lt_of_block (hk x hx).1) (hk x hx).2.2).trans (hk x hx).1, (hk x hx).2.1, fun e => ?_⟩⟩
  rcases hqf _ e with h1 | h1
  · exact (hk x hx).2.2 h1
  · have := lt_of_block (hk x hx).1; omega
theorem QM.qdo (h : QM W w base p R M rows rooms K) (x : Act10) (hfew : ∀ l ∈ rows, l.length ≤ 1000) :
    Calls Try.prog 16 #[.pointer (some ⟨p, 0, none⟩), .agg #[.int .i64 x.kind, .int .i64 x.w.job.id, .int .i64 x.w.job.queue, .int .i64 x.w.job.prio, .int .i64 x.w.job.runtime, .int .i64 x.w.job.shape.gpus, .int .i64 x.w.job.shape.cpus, .int .i64 x.w.job.shape.mn, .int .i64 x.w.job.shape.mx, .int .i64 x.w.since, .int .i64 x.w.number]] w
      fun e w' => ∃ (y : Wt) (cd : Int) (rows' : List (List Wt)), e = .returned (.tuple #[wtV y, .int .i64 cd]) ∧ QM W w' base p R M rows' rooms K ∧ DoR x rows rooms y cd rows' := by
  obtain ⟨vs, hq, hk⟩ := h.both
  exact (do_any hq x h.ok hfew).mono fun e w' ⟨y, cd, rows', he, hs, hc⟩ => ⟨y, cd, rows', he, h.step hq hk hs, hc⟩
theorem QM.add (h : QM W w base p R M rows rooms K) (x : Wt) (hfew : ∀ l ∈ rows, l.length ≤ 1000) :
    Calls Try.prog 11 #[.pointer (some ⟨p, 0, none⟩), (.agg #[.int .i64 (Jb.id (Wt.job x)), .int .i64 (Jb.queue (Wt.job x)), .int .i64 (Jb.prio (Wt.job x)), .int .i64 (Jb.runtime (Wt.job x)), .int .i64 (Sh.gpus (Jb.shape (Wt.job x))), .int .i64 (Sh.cpus (Jb.shape (Wt.job x))), .int .i64 (Sh.mn (Jb.shape (Wt.job x))), .int .i64 (Sh.mx (Jb.shape (Wt.job x))), .int .i64 (Wt.since x), .int .i64 (Wt.number x)])] w fun e w' => e = .returned (.int .i64 (addQ rows rooms x).1) ∧ QM W w' base p R M (addQ rows rooms x).2 rooms K := by
  obtain ⟨vs, hq, hk⟩ := h.both
  exact (add_any hq x h.ok hfew).mono fun e w' ⟨he, hs⟩ => ⟨he, h.step hq hk hs⟩
theorem QM.remove (h : QM W w base p R M rows rooms K) (id : Int) (hfew : ∀ l ∈ rows, l.length ≤ 1000) :
    Calls Try.prog 14 #[.pointer (some ⟨p, 0, none⟩), .int .i64 id] w fun e w' => ∃ (y : Wt) (cd : Int) (rows' : List (List Wt)), e = .returned (.tuple #[wtV y, .int .i64 cd]) ∧ QM W w' base p R M rows' rooms K ∧
      ((hasQ rows id = false ∧ y = zeroWt ∧ cd = 3 ∧ rows' = rows) ∨ (∃ (i k : Nat) (hi : i < rows.length) (hk : k < rows[i].length), (rows[i][k]).job.id = id ∧ y = rows[i][k] ∧ cd = 0 ∧ rows' = rows.set i (rows[i].eraseIdx k))) := by
  obtain ⟨vs, hq, hk⟩ := h.both
  exact (remove_any hq id hfew).mono fun e w' ⟨y, cd, rows', he, hs, hc⟩ => ⟨y, cd, rows', he, h.step hq hk hs, hc.imp (fun e => e) (fun ⟨i, k, hi, hk, a, b, c, d⟩ => ⟨i, k, hi, hk, a, b, c, d⟩)⟩
theorem QM.all (h : QM W w base p R M rows rooms K) (hfew : ∀ l ∈ rows, l.length ≤ 1000) :
    Calls Try.prog 15 #[.pointer (some ⟨p, 0, none⟩)] w fun e w' => ∃ v, e = .returned v ∧ w'.ownsRow w.heap.size 35 10 v rows.flatten.length (rows.flatten.flatMap Wt.cells) ∧ Below w.heap.size w w' := by
  obtain ⟨vs, hq, hk⟩ := h.both
  exact all_any hq hfew
theorem QM.len (h : QM W w base p R M rows rooms K) (q : Int) :
    Calls Try.prog 13 #[.pointer (some ⟨p, 0, none⟩), .int .i64 q] w fun e w' => e = .returned (.int .i64 (lenQ rows q)) ∧ w' = w := by
  obtain ⟨vs, hq, hk⟩ := h.both
  exact len_any hq q
/-- Room, which only reads -/
theorem room_q {vs : List Value} (h : QAt w base p R M vs rows rooms) (k : Nat) (h1 : k < rooms.length) (hrw : ∀ r ∈ rooms, 0 ≤ r ∧ r ≤ 16) :
    Calls Try.prog 12 #[.pointer (some ⟨p, 0, none⟩), .int .i64 k] w fun e w' => e = .returned (.int .i64 (roomQ rows rooms k)) ∧ ∃ m, w' = w.drewN m := by
  have hk : k < rows.length := by rw [h.rlen]; omega
  obtain ⟨a, c, hc, hs, hlm⟩ := h.at hk
  obtain ⟨m, hm⟩ : ∃ m, rows[k].length = m := ⟨_, rfl⟩
  obtain ⟨r, hr⟩ : ∃ r, rooms[k] = r := ⟨_, rfl⟩
  have hrb := hrw r (hr ▸ List.getElem_mem h1)
  have hres : roomQ rows rooms (k : Int) = r - m := by
    unfold roomQ lenQ
    rw [if_pos (by omega), if_pos (by omega), Int.toNat_natCast, List.getElem?_eq_getElem hk, List.getElem?_eq_getElem h1, ← hm, ← hr]; rfl
  rw [hres]
  rw [hm] at hc hlm
  have hlm63 : m ≤ 9223372036854775807 := hlm
  have HT := Lib.hid (there_any h k true (by simp; omega))
  obtain ⟨⟨cm, c0, c1⟩, lp, lR, lM⟩ := h.cells
  obtain ⟨cs, hcs, hroom⟩ := h.roomb
  have hc2 : w.cell? ⟨M, k, none⟩ = some (.int .i64 r) := by rw [cell_of_block hcs, hroom k h1, hr]
  obtain ⟨n, hn⟩ : ∃ n, rooms.length = n := ⟨_, rfl⟩
  rw [hn] at c0 c1 h1
  have hwr : IntKind.i64.wrap (r - (m : Int)) = r - m := by rw [wrap_eq]; unfold wrap64; omega
  clear h hs hlm hres hm hn hk hcs hroom hr
  go_enter Try.func12, Try.ntmps12
  go_wp2_with fail
  refine HT.out.mono ?_
  rintro e z ⟨rfl, hz⟩
  replace hz := hz.symm
  subst hz
  go_wp2_with fail
  go_quiet (fail)
  go_wp2_with fail
  go_ret
  exact ⟨by first | rfl | (rw [hwr]; rfl), nq, rfl⟩
theorem QM.room (h : QM W w base p R M rows rooms K) (k : Nat) (hk : k < rooms.length) :
    Calls Try.prog 12 #[.pointer (some ⟨p, 0, none⟩), .int .i64 k] w fun e w' => e = .returned (.int .i64 (roomQ rows rooms k)) ∧ ∃ m, w' = w.drewN m := by
  obtain ⟨vs, hq, _⟩ := h.both
  exact room_q hq k hk h.ok
theorem QM.drew (h : QM W w base p R M rows rooms K) (n : Nat) : QM W (w.drewN n) base p R M rows rooms K := h.later ⟨rfl, rfl, rfl, Nat.le_refl _, fun _ _ => rfl⟩
end
/-- what a law's call tells, said of the one row of all -/
theorem do_ask {n : Nat} {L : List Wt} {rooms : List Int} {x : Act10} {y : Wt} {cd : Int} {rows' : List (List Wt)} (h : JQ n L) (hr : rooms.length = n)
    (h1 : DoR x (splitQ n L) rooms y cd rows') : ∃ L', AskR x L rooms y cd L' ∧ rows' = splitQ n L' ∧ JQ n L' ∧ L'.length ≤ L.length + 1 := by
  have key : ∃ L', AskR x L rooms y cd L' := by
    rcases h1 with ⟨hk, rfl, rfl, rfl⟩ | ⟨hk, h1⟩
    · exact ⟨(addD L rooms x.w).2, .inl ⟨hk, rfl, by rw [splitQ_add h hr], rfl⟩⟩
    · rcases h1 with ⟨hno, rfl, rfl, rfl⟩ | ⟨i, k, hi, hk3, hid, rfl, rfl, rfl⟩
      · refine ⟨L, .inr ⟨hk, .inl ⟨fun z hz e => ?_, rfl, rfl, rfl⟩⟩⟩
        rw [splitQ_has h, List.any_eq_false] at hno
        exact hno z hz (by simpa using e)
      · have hL := splitQ_mem hi (List.getElem_mem hk3)
        obtain ⟨k', hk', he⟩ := List.mem_iff_getElem.1 hL
        refine ⟨_, .inr ⟨hk, .inr ⟨k', hk', by rw [he]; exact hid, fun z hz e => ?_, he.symm, rfl, rfl⟩⟩⟩
        have hzL := List.mem_of_mem_take hz
        have hzz := same_of_id h.nd hzL (List.getElem_mem hk') (e.trans (by rw [he]; exact hid.symm))
        obtain ⟨j, hj, hjz⟩ := List.mem_take_iff_getElem.1 hz
        have hp := List.pairwise_iff_getElem.1 h.nd j k' (by simp; omega) (by simpa using hk') (by omega)
        simp only [List.getElem_map] at hp
        exact hp (by rw [hjz, hzz])
  obtain ⟨L', hk⟩ := key
  have := both_tell h hr h1 hk
  exact ⟨L', hk, this.2.2.1, this.2.2.2.1, this.2.2.2.2⟩
end Go.Proofs.Ytobdbjkhajinbaa
