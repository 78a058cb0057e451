/-
  queue: Add.
-/
import Derived.Test.YtobdbjkhajinbaaQueue4
set_option linter.unusedVariables false
set_option linter.unusedSimpArgs false
namespace Go.Proofs.Ytobdbjkhajinbaa
open Go.RowKit
section
variable {w w' : World} {base p R M : Nat} {vs : List Value} {rows : List (List Wt)} {rooms : List Int}
/-- one row is another one now -/
theorem QAt.put (h : QAt w base p R M vs rows rooms) {k : Nat} {l : List Wt} {a : Option Addr} {c : Nat} {v0 : Value} (hk : k < rows.length) (hv0 : vs[k]? = some v0) (hf : Fr w.heap.size (fun g => g = R ∨ v0.ownBlock = some g) w w')
    (hR : w'.heap[R]? = some (.cells (vs.set k (.slice a l.length c)).toArray 39 (0, 0))) (ho : w'.ownsRow base 35 10 (.slice a l.length c) l.length (l.flatMap Wt.cells))
    (hg : ∀ g, (Value.slice a l.length c).ownBlock = some g → v0.ownBlock = some g ∨ w.heap.size ≤ g) :
    QAt w' base p R M (vs.set k (.slice a l.length c)) (rows.set k l) rooms ∧ ∀ g, QF p R M (vs.set k (.slice a l.length c)) g → QF p R M vs g ∨ w.heap.size ≤ g := by
  have hkv : k < vs.length := by rw [h.vlen, ← h.rlen]; exact hk
  have old : ∀ (i : Nat) (v : Value) (g : Nat), vs[i]? = some v → v.ownBlock = some g → g < w.heap.size := fun i v g hv hg => (h.lt (.inr (.inr (.inr ⟨i, v, hv, hg⟩)))).2
  obtain ⟨cm, hh⟩ := h.head
  obtain ⟨cs, hm, hc⟩ := h.roomb
  have hfar := h.far k v0
  have get : ∀ (i : Nat) (v : Value), (vs.set k (.slice a l.length c))[i]? = some v → (i = k ∧ v = .slice a l.length c) ∨ (i ≠ k ∧ vs[i]? = some v) := fun i v hv => by
    by_cases e : i = k
    · subst e
      rw [List.getElem?_set_self hkv] at hv
      exact .inl ⟨rfl, (Option.some.inj hv).symm⟩
    · rw [List.getElem?_set_ne (Ne.symm e)] at hv
      exact .inr ⟨e, hv⟩
  refine ⟨⟨⟨cm, (hf.block p (lt_of_block hh) (fun e => e.elim h.ord.2.2.2.1 (fun e => (hfar p hv0 e).1 rfl))).trans hh⟩, by rw [List.length_set]; exact h.vlen, by rw [List.length_set]; exact h.rlen, h.few, hR,
    ⟨cs, (hf.block M (lt_of_block hm) (fun e => e.elim (fun e => h.ord.2.2.2.2.2 e.symm) (fun e => (hfar M hv0 e).2.2 rfl))).trans hm, hc⟩, fun i hi => ?_, fun i j v u g hij hv hu hvg hug => ?_, h.ord, fun i v g hv hvg => ?_⟩, fun g hq => ?_⟩
  · rw [List.length_set] at hi
    by_cases e : i = k
    · subst e
      refine ⟨a, c, ?_, ?_⟩
      · rw [List.getElem?_set_self hkv]; simp
      · simp only [List.getElem_set_self]; exact ho
    · obtain ⟨a2, c2, h1, h2⟩ := h.row i hi
      have e1 : (rows.set k l)[i]'(by rw [List.length_set]; exact hi) = rows[i] := List.getElem_set_ne (Ne.symm e) _
      rw [e1]
      refine ⟨a2, c2, ?_, ownsRow_fr h2 hf (fun g hg2 => ⟨(h2.lt g hg2).2, fun e2 => ?_⟩)⟩
      · rw [List.getElem?_set_ne (Ne.symm e)]; exact h1
      · rcases e2 with e2 | e2
        · exact (h.far i _ g h1 hg2).2.1 e2
        · exact h.apart i k _ _ g e h1 hv0 hg2 e2
  · rcases get i v hv with ⟨e1, e2⟩ | ⟨hi, hv2⟩
    · rcases get j u hu with ⟨e3, e4⟩ | ⟨hj, hu2⟩
      · exact hij (e1.trans e3.symm)
      · rw [e2] at hvg
        rcases hg g hvg with e | e
        · exact h.apart j k u v0 g hj hu2 hv0 hug e
        · have := old j u g hu2 hug; omega
    · rcases get j u hu with ⟨e3, e4⟩ | ⟨hj, hu2⟩
      · rw [e4] at hug
        rcases hg g hug with e | e
        · exact h.apart i k v v0 g hi hv2 hv0 hvg e
        · have := old i v g hv2 hvg; omega
      · exact h.apart i j v u g hij hv2 hu2 hvg hug
  · rcases get i v hv with ⟨rfl, rfl⟩ | ⟨hi, hv⟩
    · rcases hg g hvg with e | e
      · exact hfar g hv0 e
      · have h1 := lt_of_block hh; have h2 := lt_of_block hm; have h3 := lt_of_block h.rowb
        exact ⟨by omega, by omega, by omega⟩
    · exact h.far i v g hv hvg
  · rcases hq with e | e | e | ⟨i, v, hv, hvg⟩
    · exact .inl (.inl e)
    · exact .inl (.inr (.inl e))
    · exact .inl (.inr (.inr (.inl e)))
    · rcases get i v hv with ⟨rfl, rfl⟩ | ⟨hi, hv⟩
      · rcases hg g hvg with e | e
        · exact .inl (.inr (.inr (.inr ⟨i, v0, hv0, e⟩)))
        · exact .inr e
      · exact .inl (.inr (.inr (.inr ⟨i, v, hv, hvg⟩)))
def hasQ (rows : List (List Wt)) (id : Int) : Bool := rows.any fun l => l.any fun x => decide (x.job.id = id)
theorem FoundQ.has {id r a : Int} {ok : Bool} (h : FoundQ rows id r a ok) : ok = hasQ rows id := by
  unfold hasQ
  rcases h with ⟨rfl, i, k, hi, hk, _, _, he⟩ | ⟨rfl, hn⟩
  · symm
    rw [List.any_eq_true]
    refine ⟨rows[i], List.getElem_mem hi, ?_⟩
    rw [List.any_eq_true]
    exact ⟨rows[i][k], List.getElem_mem hk, by simpa using he⟩
  · symm
    rw [List.any_eq_false]
    intro l hl
    rw [Bool.not_eq_true, List.any_eq_false]
    intro x hx
    simpa using hn l hl x hx
def addQ (rows : List (List Wt)) (rooms : List Int) (x : Wt) : Int × List (List Wt) :=
  if ¬ (0 ≤ x.job.queue ∧ x.job.queue < rooms.length) then (3, rows) else if hasQ rows x.job.id = true then (4, rows)
  else if roomQ rows rooms x.job.queue = 0 then (2, rows) else (0, rows.set x.job.queue.toNat (((rows[x.job.queue.toNat]?).getD []) ++ [x]))
/-- what a call leaves: queues that read so -/
def StepQ (base p R M : Nat) (vs : List Value) (rows : List (List Wt)) (rooms : List Int) (w w' : World) : Prop :=
  ∃ vs', QAt w' base p R M vs' rows rooms ∧ Fr w.heap.size (QF p R M vs) w w' ∧ ∀ g, QF p R M vs' g → QF p R M vs g ∨ w.heap.size ≤ g
theorem StepQ.same (h : QAt w base p R M vs rows rooms) (hb : Below w.heap.size w w') : StepQ base p R M vs rows rooms w w' := ⟨vs, h.later hb, Fr.of_below hb _, fun g hg => .inl hg⟩
theorem infoWt : (Try.prog.info? 35).map (fun i => (i.zero, i.size, i.bytes)) = some (some (.agg #[.int .i64 0, .int .i64 0, .int .i64 0, .int .i64 0, .int .i64 0, .int .i64 0, .int .i64 0, .int .i64 0, .int .i64 0, .int .i64 0]), 10, 80) := by kernel_rfl
set_option maxRecDepth 100000 in
set_option maxHeartbeats 4000000 in
theorem add_any (h : QAt w base p R M vs rows rooms) (x : Wt) (hrw : ∀ r ∈ rooms, 0 ≤ r ∧ r ≤ 16) (hfew : ∀ l ∈ rows, l.length ≤ 1000) :
    Calls Try.prog 11 #[.pointer (some ⟨p, 0, none⟩), (.agg #[.int .i64 (Jb.id (Wt.job x)), .int .i64 (Jb.queue (Wt.job x)), .int .i64 (Jb.prio (Wt.job x)), .int .i64 (Jb.runtime (Wt.job x)), .int .i64 (Sh.gpus (Jb.shape (Wt.job x))), .int .i64 (Sh.cpus (Jb.shape (Wt.job x))), .int .i64 (Sh.mn (Jb.shape (Wt.job x))), .int .i64 (Sh.mx (Jb.shape (Wt.job x))), .int .i64 (Wt.since x), .int .i64 (Wt.number x)])] w fun e w' => e = .returned (.int .i64 (addQ rows rooms x).1) ∧ StepQ base p R M vs (addQ rows rooms x).2 rooms w w' := by
  obtain ⟨res, hres⟩ : ∃ res, addQ rows rooms x = res := ⟨_, rfl⟩
  rw [hres]
  have HRES := Lib.hid hres
  have H := Lib.hid h; have HRW := Lib.hid hrw; have HFEW := Lib.hid hfew
  clear h hrw hfew hres
  go_enter Try.func11, Try.ntmps11
  go_wp2_with fail
  have hb1 := (Below.refl w.heap.size w).alloc (Nat.le_refl _) (.cells #[.int .i64 x.job.id, .int .i64 x.job.queue, .int .i64 x.job.prio, .int .i64 x.job.runtime, .int .i64 x.job.shape.gpus, .int .i64 x.job.shape.cpus, .int .i64 x.job.shape.mn, .int .i64 x.job.shape.mx, .int .i64 x.since, .int .i64 x.number] 35)
  have kB := World.alloc_heap_new w (.cells #[.int .i64 x.job.id, .int .i64 x.job.queue, .int .i64 x.job.prio, .int .i64 x.job.runtime, .int .i64 x.job.shape.gpus, .int .i64 x.job.shape.cpus, .int .i64 x.job.shape.mn, .int .i64 x.job.shape.mx, .int .i64 x.since, .int .i64 x.number] 35)
  generalize w.alloc (.cells #[.int .i64 x.job.id, .int .i64 x.job.queue, .int .i64 x.job.prio, .int .i64 x.job.runtime, .int .i64 x.job.shape.gpus, .int .i64 x.job.shape.cpus, .int .i64 x.job.shape.mn, .int .i64 x.job.shape.mx, .int .i64 x.since, .int .i64 x.number] 35) = w1 at hb1 kB ⊢
  obtain ⟨B, hB⟩ : ∃ B, w.heap.size = B := ⟨_, rfl⟩
  have HBE := Lib.hid hB
  rw [hB] at kB ⊢
  have h1 := H.out.later hb1
  have H1 := Lib.hid h1; have HB1 := Lib.hid hb1; have HK := Lib.hid kB
  clear h1 hb1 kB hB
  by_cases hth : 0 ≤ x.job.queue ∧ x.job.queue < rooms.length
  case neg =>
    have HT := Lib.hid (there_any H1.out x.job.queue false (by simpa using hth))
    have hr : res = (3, rows) := by rw [← HRES.out]; unfold addQ; rw [if_pos hth]
    subst hr
    clear hth
    refine HT.out.mono ?_
    rintro e z ⟨rfl, hz⟩
    replace hz := hz.symm
    subst hz
    go_wp2_with fail
    go_ret
    exact ⟨rfl, StepQ.same H.out HB1.out⟩
  have HT := Lib.hid (there_any H1.out x.job.queue true (by simpa using hth))
  have HTH := Lib.hid hth
  refine HT.out.mono ?_
  rintro e z ⟨rfl, hz⟩
  replace hz := hz.symm
  subst hz
  have b0 := cell_of_block HK.out 0; have lB := lt_of_block HK.out
  clear hth HT
  go_wp2_with fail
  refine (find_any H1.out x.job.id).mono ?_
  rintro e z ⟨⟨r, a, ok, rfl, hf⟩, hz⟩
  replace hz := hz.symm
  subst hz
  have hok := hf.has
  have HOK := Lib.hid hok
  clear hf hok b0
  cases ok with
  | true =>
    have hr : res = (4, rows) := by rw [← HRES.out]; unfold addQ; rw [if_neg (by simpa using HTH.out), if_pos HOK.out.symm]
    subst hr
    go_wp2_with fail
    go_ret
    exact ⟨rfl, StepQ.same H.out HB1.out⟩
  | false =>
  go_wp2_with fail
  refine (room_any H1.out x.job.queue HRW.out).mono ?_
  rintro e w2 ⟨rfl, hb2⟩
  have HB2 := Lib.hid (HB1.out.trans (hb2.mono HB1.out.size))
  have H2 := Lib.hid (H1.out.later hb2); have HK2 := Lib.hid ((hb2.block _ (lt_of_block HK.out)).trans HK.out)
  clear hb2 lB
  obtain ⟨rm, hrm⟩ : ∃ n, roomQ rows rooms x.job.queue = n := ⟨_, rfl⟩
  rw [hrm]
  by_cases h0 : rm = 0
  · subst h0
    have hr : res = (2, rows) := by rw [← HRES.out]; unfold addQ; rw [if_neg (by simpa using HTH.out), if_neg (by rw [← HOK.out]; decide), if_pos hrm]
    subst hr
    clear hrm
    go_wp2_with fail
    go_ret
    exact ⟨rfl, StepQ.same H.out HB2.out⟩
  have hd1 : decide (rm = 0) = false := by simp [h0]
  have hd2 : (rm == 0) = false := by simp [h0]
  obtain ⟨k, hk⟩ : ∃ k : Nat, x.job.queue = k := ⟨x.job.queue.toNat, by have := HTH.out; omega⟩
  have hkn : k < rooms.length := by have := HTH.out; omega
  have hkr : k < rows.length := by rw [H.out.rlen]; exact hkn
  have hr : res = (0, rows.set k (rows[k] ++ [x])) := by
    rw [← HRES.out]; unfold addQ
    rw [if_neg (by simpa using HTH.out), if_neg (by rw [← HOK.out]; decide), if_neg (by rw [hrm]; exact h0), hk, Int.toNat_natCast, List.getElem?_eq_getElem hkr]; rfl
  subst hr
  have HKK := Lib.hid hk; have HRM := Lib.hid hrm
  obtain ⟨a, c, hv0, ho⟩ := H2.out.row k hkr
  obtain ⟨⟨cm, c0, c1⟩, lp, lR, lM⟩ := H2.out.cells
  obtain ⟨l, hl⟩ : ∃ l, rows[k] = l := ⟨_, rfl⟩
  have hlf : l.length ≤ 1000 := HFEW.out l (hl ▸ List.getElem_mem hkr)
  rw [hl] at hv0 ho
  obtain ⟨m, hm⟩ : ∃ m, l.length = m := ⟨_, rfl⟩
  rw [hm] at hv0 ho hlf
  obtain ⟨n, hn⟩ : ∃ n, rooms.length = n := ⟨_, rfl⟩
  rw [hn] at c0 hkn
  have hRk : w2.cell? ⟨R, k, none⟩ = some (.slice a m c) := by rw [cell_of_block H2.out.rowb, List.getElem?_toArray]; exact hv0
  have hfar := fun g => H2.out.far k _ g hv0
  have HFAR := Lib.hid hfar
  have hBw : ∀ g, (Value.slice a m c).ownBlock = some g → g < w2.heap.size ∧ g ≠ B := fun g hg => by
    refine ⟨(ho.lt g hg).2, fun e => ?_⟩
    have := (H.out.vrow (i := k) (v := .slice a m c) hv0)
    obtain ⟨hi, a', c', he, ho'⟩ := this
    rw [hl, hm] at ho'
    rw [hl, hm] at he
    rw [← he] at ho'
    have := (ho'.lt g hg).2
    have := HBE.out
    omega
  have HBW := Lib.hid hBw
  have fx0 := (Fr.refl w2.heap.size (fun g => (Value.slice a m c).ownBlock = some g) w2).drew
  have lB := lt_of_block HK2.out
  have hnp : ¬ (Value.slice a m c).ownBlock = some p := fun e => (hfar p e).1 rfl
  have hnR : ¬ (Value.slice a m c).ownBlock = some R := fun e => (hfar R e).2.1 rfl
  have hnB : ¬ (Value.slice a m c).ownBlock = some B := fun e => (hBw B e).2 rfl
  have q0 : ∀ y : LaterF w2 (fun g => (Value.slice a m c).ownBlock = some g), y.wd.cell? ⟨p, 0, none⟩ = some (.slice (some ⟨R, 0, none⟩) n n) := fun y => (y.cell lp hnp).trans c0
  have q1 : ∀ y : LaterF w2 (fun g => (Value.slice a m c).ownBlock = some g), y.wd.cell? ⟨R, x.job.queue.toNat, none⟩ = some (.slice a m c) := fun y => (y.cell lR hnR).trans (by rw [hk, Int.toNat_natCast]; exact hRk)
  have i1 : 0 ≤ x.job.queue := HTH.out.1
  have i2 : x.job.queue < (n : Int) := by omega
  have b0 : ∀ y : LaterF w2 (fun g => (Value.slice a m c).ownBlock = some g), y.wd.cell? ⟨B, 0, none⟩ = some (.int .i64 x.job.id) := fun y => (y.cell lB hnB).trans (cell_of_block HK2.out 0)
  have b1 : ∀ y : LaterF w2 (fun g => (Value.slice a m c).ownBlock = some g), y.wd.cell? ⟨B, 1, none⟩ = some (.int .i64 x.job.queue) := fun y => (y.cell lB hnB).trans (cell_of_block HK2.out 1)
  have b2 : ∀ y : LaterF w2 (fun g => (Value.slice a m c).ownBlock = some g), y.wd.cell? ⟨B, 2, none⟩ = some (.int .i64 x.job.prio) := fun y => (y.cell lB hnB).trans (cell_of_block HK2.out 2)
  have b3 : ∀ y : LaterF w2 (fun g => (Value.slice a m c).ownBlock = some g), y.wd.cell? ⟨B, 3, none⟩ = some (.int .i64 x.job.runtime) := fun y => (y.cell lB hnB).trans (cell_of_block HK2.out 3)
  have b4 : ∀ y : LaterF w2 (fun g => (Value.slice a m c).ownBlock = some g), y.wd.cell? ⟨B, 4, none⟩ = some (.int .i64 x.job.shape.gpus) := fun y => (y.cell lB hnB).trans (cell_of_block HK2.out 4)
  have b5 : ∀ y : LaterF w2 (fun g => (Value.slice a m c).ownBlock = some g), y.wd.cell? ⟨B, 5, none⟩ = some (.int .i64 x.job.shape.cpus) := fun y => (y.cell lB hnB).trans (cell_of_block HK2.out 5)
  have b6 : ∀ y : LaterF w2 (fun g => (Value.slice a m c).ownBlock = some g), y.wd.cell? ⟨B, 6, none⟩ = some (.int .i64 x.job.shape.mn) := fun y => (y.cell lB hnB).trans (cell_of_block HK2.out 6)
  have b7 : ∀ y : LaterF w2 (fun g => (Value.slice a m c).ownBlock = some g), y.wd.cell? ⟨B, 7, none⟩ = some (.int .i64 x.job.shape.mx) := fun y => (y.cell lB hnB).trans (cell_of_block HK2.out 7)
  have b8 : ∀ y : LaterF w2 (fun g => (Value.slice a m c).ownBlock = some g), y.wd.cell? ⟨B, 8, none⟩ = some (.int .i64 x.since) := fun y => (y.cell lB hnB).trans (cell_of_block HK2.out 8)
  have b9 : ∀ y : LaterF w2 (fun g => (Value.slice a m c).ownBlock = some g), y.wd.cell? ⟨B, 9, none⟩ = some (.int .i64 x.number) := fun y => (y.cell lB hnB).trans (cell_of_block HK2.out 9)
  have HO := Lib.hid ho; have HV0 := Lib.hid hv0; have HM := Lib.hid hm; have HL := Lib.hid hl
  clear h0 hrm hk c0 c1 ho hv0 hRk hfar hBw hm hl hn
  go_wp2_with fail
  refine Rg.wp_region_pick (by kernel_rfl) [0, 1, 2, 3, 4, 5, 6, 7, 8, 9, 10, 11, 12] [13, 14, 15, 16] 15 (by kernel_rfl) (by kernel_rfl) (by kernel_rfl) (fun w' => ∃ y : LaterF w2 (fun g => (Value.slice a m c).ownBlock = some g), w' = y.wd) (fun c a a' w hd h => ⟨hd.symm.trans h.1, h.2⟩) ⟨⟨_, fx0⟩, rfl⟩ ?_
  simp only [Rg.picks, List.getElem?_cons_succ, List.getElem?_cons_zero, Option.toList, List.cons_append, List.nil_append]
  repeat (quiet_step (fail))
  refine wpQuiet_nil ?_
  clear q0 q1 b0 b1 b2 b3 b4 b5 b6 b7 b8 b9
  simp only [Rg.pickn, List.getElem?_cons_succ, List.getElem?_cons_zero, Option.toList, List.map_cons, List.map_nil, List.cons_append, List.nil_append]
  have hb4 : Below w2.heap.size w2 (w2.alloc (.cells #[.int .i64 x.job.id, .int .i64 x.job.queue, .int .i64 x.job.prio, .int .i64 x.job.runtime, .int .i64 x.job.shape.gpus, .int .i64 x.job.shape.cpus, .int .i64 x.job.shape.mn, .int .i64 x.job.shape.mx, .int .i64 x.since, .int .i64 x.number] 35)).drew := ((Below.refl _ _).alloc (Nat.le_refl _) _).drew
  have k4 : (w2.alloc (.cells #[.int .i64 x.job.id, .int .i64 x.job.queue, .int .i64 x.job.prio, .int .i64 x.job.runtime, .int .i64 x.job.shape.gpus, .int .i64 x.job.shape.cpus, .int .i64 x.job.shape.mn, .int .i64 x.job.shape.mx, .int .i64 x.since, .int .i64 x.number] 35)).drew.heap[w2.heap.size]? = some (.cells #[.int .i64 x.job.id, .int .i64 x.job.queue, .int .i64 x.job.prio, .int .i64 x.job.runtime, .int .i64 x.job.shape.gpus, .int .i64 x.job.shape.cpus, .int .i64 x.job.shape.mn, .int .i64 x.job.shape.mx, .int .i64 x.since, .int .i64 x.number] 35 (0, 0)) := World.alloc_heap_new w2 _
  refine Rg.wpN_step (fun K hK => ?_) ⟨⟨_, fx0⟩, rfl⟩
  go_simp
  have fx1 := Fr.of_below hb4 (fun g => (Value.slice a m c).ownBlock = some g)
  refine hK _ _ (fun _ => ⟨⟨_, fx1⟩, rfl⟩) ?_
  clear hK K fx0
  generalize (w2.alloc (.cells #[.int .i64 x.job.id, .int .i64 x.job.queue, .int .i64 x.job.prio, .int .i64 x.job.runtime, .int .i64 x.job.shape.gpus, .int .i64 x.job.shape.cpus, .int .i64 x.job.shape.mn, .int .i64 x.job.shape.mx, .int .i64 x.since, .int .i64 x.number] 35)).drew = w4 at hb4 k4 fx1 ⊢
  obtain ⟨NB, hNB⟩ : ∃ NB, w2.heap.size = NB := ⟨_, rfl⟩
  have HNB := Lib.hid hNB
  rw [show (⟨w2.heap.size, 0, none⟩ : Addr) = ⟨NB, 0, none⟩ by rw [hNB]]
  rw [hNB] at k4
  have HO4 := Lib.hid (ownsRow_below HO.out hb4); have HK4 := Lib.hid k4; have HFX := Lib.hid fx1
  have hbw : base ≤ w4.heap.size := Nat.le_trans H2.out.ord.1 (Nat.le_trans (Nat.le_of_lt lp) hb4.size)
  have HR4 := Lib.hid ((hb4.block _ lR).trans H2.out.rowb)
  clear hb4 k4 hNB
  obtain ⟨i0, hi0, hz0, hz1, hz2⟩ := info_parts infoWt
  refine Rg.wpN_step (fun K hK => ?_) ⟨⟨_, HFX.out⟩, rfl⟩
  refine step_append_lies _ (by rfl) _ _ _ (by rfl) base 35 i0 _ 10 80 Try.underlying39 hi0 hz0 hz1 hz2 rfl (by decide) (.slice a m c) m _ (by rfl) HO4.out ⟨NB, 0, none⟩ 1 1 [.int .i64 x.job.id, .int .i64 x.job.queue, .int .i64 x.job.prio, .int .i64 x.job.runtime, .int .i64 x.job.shape.gpus, .int .i64 x.job.shape.cpus, .int .i64 x.job.shape.mn, .int .i64 x.job.shape.mx, .int .i64 x.since, .int .i64 x.number] (by rfl) (by rfl) (World.news_of_block HK4.out) (by simp [Value.oneCell']) (by decide) (by unfold maxLen; omega) (by omega) hbw w4.heap.size rfl ?_
  intro gg cap' w6 hown6 hgrow hat hlt6
  have hf46 := Fr.grown (Fr.refl w4.heap.size (fun q => (Value.slice a m c).ownBlock = some q) w4) hgrow (Nat.le_refl _) (fun q e => .inr e)
  have fx2 := HFX.out.trans (hf46.mono HFX.out.size fun _ _ e => e)
  have hR6 := (hf46.block R (Nat.lt_of_lt_of_le lR HFX.out.size) hnR).trans HR4.out
  have HFX2 := Lib.hid fx2; have HR6 := Lib.hid hR6; have HO6 := Lib.hid hown6
  have HG := Lib.hid (show (Value.slice a m c).ownBlock = some gg ∨ w2.heap.size ≤ gg from hat.imp (fun e => e) (fun e => by have := HFX.out.size; omega))
  have HGL := Lib.hid hlt6
  refine hK _ _ (fun _ => ⟨⟨_, fx2⟩, rfl⟩) ?_
  clear hK K fx1 fx2 hf46 hgrow hat hlt6 hown6
  have hkv : k < vs.length := by rw [H.out.vlen, ← H.out.rlen]; exact hkr
  have r0 : w6.cell? ⟨R, x.job.queue.toNat, none⟩ = some (.slice a m c) := by
    rw [HKK.out, Int.toNat_natCast, cell_of_block hR6, List.getElem?_toArray]; exact HV0.out
  have rz := frozen_of_block hR6 x.job.queue.toNat; have lR6 := lt_of_block hR6
  clear hR6
  refine Rg.wpN_list (by decide) ?_
  simp only [List.map_cons, List.map_nil]
  go_wp2_with fail
  go_ret
  refine ⟨rfl, ?_⟩
  have hR7 : (w6.setCell ⟨R, x.job.queue.toNat, none⟩ (.slice (some ⟨gg, 0, none⟩) (m + 1) cap')).heap[R]? = some (.cells (vs.set k (.slice (some ⟨gg, 0, none⟩) (m + 1) cap')).toArray 39 (0, 0)) := by
    rw [setCell_block HR6.out, HKK.out, Int.toNat_natCast]; simp
  have hfR : Fr w6.heap.size (fun g => g = R) w6 (w6.setCell ⟨R, x.job.queue.toNat, none⟩ (.slice (some ⟨gg, 0, none⟩) (m + 1) cap')) := Fr.setCell (F := fun g => g = R) (p := ⟨R, x.job.queue.toNat, none⟩) (Fr.refl _ _ _) (.inr rfl) _
  have hf27 := (HFX2.out.mono (F' := fun g => g = R ∨ (Value.slice a m c).ownBlock = some g) (Nat.le_refl _) fun _ _ e => .inr e).trans (hfR.mono HFX2.out.size fun _ _ e => .inl e)
  have hlen : (l ++ [x]).length = m + 1 := by rw [List.length_append, HM.out]; rfl
  have hggR : gg ≠ R := fun e => by
    rcases HG.out with h | h
    · exact hnR (e ▸ h)
    · omega
  have hown7 := ownsRow_fr HO6.out hfR (fun g hg => ⟨(HO6.out.lt g hg).2, fun e => by simp only [Value.ownBlock, Option.some.injEq] at hg; omega⟩)
  obtain ⟨hq, hqf⟩ := H2.out.put (k := k) (l := l ++ [x]) (a := some ⟨gg, 0, none⟩) (c := cap') (v0 := .slice a m c) hkr HV0.out hf27 (by rw [hlen]; exact hR7) (by rw [hlen, List.flatMap_append]; simpa [Wt.cells] using hown7) (fun g hg => by
    simp only [Value.ownBlock, Option.some.injEq] at hg
    subst hg
    exact HG.out)
  rw [HL.out]
  refine ⟨_, hq, (Fr.of_below HB2.out _).trans (hf27.mono HB2.out.size fun g _ e => ?_), fun g hg => (hqf g hg).imp (fun e => e) (fun e => Nat.le_trans HB2.out.size e)⟩
  rcases e with e | e
  · exact .inr (.inl e)
  · exact .inr (.inr (.inr ⟨k, _, HV0.out, e⟩))
end
end Go.Proofs.Ytobdbjkhajinbaa
