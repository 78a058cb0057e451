/-
  gang's Add: a record more.
-/
import Derived.Test.YtaopekoehaccbaaGangAdd
import Derived.Deep.AppendLies
set_option linter.unusedVariables false
set_option linter.unusedSimpArgs false
namespace Go.Proofs.Ytaopekoehaccbaa
open Go.RowKit Go.Maps

theorem infoRec : (Try.prog.info? 38).map (fun i => (i.zero, i.size, i.bytes)) = some (some (.agg #[.int .i64 (Jb.id (Rc.job (Rc.zero))), .int .i64 (Jb.queue (Rc.job (Rc.zero))), .int .i64 (Jb.prio (Rc.job (Rc.zero))), .int .i64 (Jb.runtime (Rc.job (Rc.zero))), .int .i64 (Sh.gpus (Jb.shape (Rc.job (Rc.zero)))), .int .i64 (Sh.cpus (Jb.shape (Rc.job (Rc.zero)))), .int .i64 (Sh.mn (Jb.shape (Rc.job (Rc.zero)))), .int .i64 (Sh.mx (Jb.shape (Rc.job (Rc.zero)))), .int .i64 (Rc.state (Rc.zero)), .int .i64 (Rc.since (Rc.zero)), .int .i64 (Rc.number (Rc.zero)), .int .i64 (Rc.members (Rc.zero)), .int .i64 (Rc.began (Rc.zero)), .int .i64 (Rc.fin (Rc.zero)), .int .i64 (Rc.limit (Rc.zero)), .int .i64 (Rc.worker (Rc.zero))]), 16, 128) := by kernel_rfl

set_option maxRecDepth 100000 in
set_option maxHeartbeats 2000000 in
theorem add_ok (base p M : Nat) (v : Value) (l : List Rc) (j : Jb) (since : Int) (w : World) (h : BookAt w base p M v l) (hid : okInt j.id) (hl : l.length ≤ 1000000) (hf : findR l j.id = none) (hfull : ¬ 4096 ≤ l.length) (hbase : base ≤ w.heap.size) :
    Calls Try.prog 14 #[.pointer (some ⟨p, 0, none⟩), (.agg #[.int .i64 (Jb.id j), .int .i64 (Jb.queue j), .int .i64 (Jb.prio j), .int .i64 (Jb.runtime j), .int .i64 (Sh.gpus (Jb.shape j)), .int .i64 (Sh.cpus (Jb.shape j)), .int .i64 (Sh.mn (Jb.shape j)), .int .i64 (Sh.mx (Jb.shape j))]), .int .i64 since] w (AddPost base p M v (addR l j since) w) := by
  have lp := h.lt (.inl rfl)
  obtain ⟨a, cap, rfl⟩ := own_form h.own
  obtain ⟨ln, hln⟩ : ∃ ln, l.length = ln := ⟨_, rfl⟩
  have hlen := Lib.hid hln
  have c0 : ∀ y : Later w, y.wd.cell? ⟨p, 0, none⟩ = some (.slice a ln cap) := fun y => (y.cell lp).trans ((cell_of_block h.head 0).trans (by rw [hln]; rfl))
  have c1 : ∀ y : Later w, y.wd.cell? ⟨p, 1, none⟩ = some (.map (some M)) := fun y => (y.cell lp).trans (cell_of_block h.head 1)
  have H := Lib.hid h; have HID := Lib.hid hid
  clear hln h hid
  have hlk : ∀ y : Later w, (Instr.lookup 68 (.map (some M)) (.int .i64 j.id) true).run Try.prog y.wd = .ok (.tuple #[.int .i64 0, .bool false]) y.wd := fun y => by
    have := (H.out.later y.bel).look HID.out
    rw [hf] at this
    exact this
  have hfull2 : (ln : Int) < 4096 := by have := hlen.out; omega
  have HF := Lib.hid hf
  have HA := Lib.hid (show addR l j since = ((⟨j, 1, since, (ln : Int) + 1, 0, 0, 0, 0, 0⟩, 0), l ++ [⟨j, 1, since, (ln : Int) + 1, 0, 0, 0, 0, 0⟩]) by unfold addR; rw [if_neg (by simp [hf]), if_neg hfull, hlen.out])
  clear hf hfull
  go_enter Try.func14, Try.ntmps14
  go_wp2_with fail
  refine world_two fun w3 hb k0 k1 hsz => ?_
  have c1' : ∀ y : Later w3, y.wd.cell? ⟨p, 1, none⟩ = some (.map (some M)) := fun y => c1 ⟨y.wd, hb.trans (y.bel.mono hb.size)⟩
  have c0' : ∀ y : Later w3, y.wd.cell? ⟨p, 0, none⟩ = some (.slice a ln cap) := fun y => c0 ⟨y.wd, hb.trans (y.bel.mono hb.size)⟩
  have c2 : ∀ y : Later w3, y.wd.cell? ⟨w.heap.size, 0, none⟩ = some (.int .i64 j.id) := fun y => (y.cell (lt_of_block k0)).trans (cell_of_block k0 0)
  have hlk2 : ∀ y : Later w3, (Instr.lookup 68 (.map (some M)) (.int .i64 j.id) true).run Try.prog y.wd = .ok (.tuple #[.int .i64 0, .bool false]) y.wd := fun y => hlk ⟨y.wd, hb.trans (y.bel.mono hb.size)⟩
  clear c1 c0 hlk
  refine wp_region_later (by kernel_rfl) (by kernel_rfl) ?_
  repeat (quiet_step (fail))
  refine wpQuiet_nil ?_
  rintro w4 ⟨⟨_, hb4⟩, rfl⟩
  have k2 := (hb4.block _ (lt_of_block k0)).trans k0
  have k3 := (hb4.block _ (lt_of_block k1)).trans k1
  have hb5 := hb.trans (hb4.mono hb.size)
  have d0 := c0' ⟨w4, hb4⟩
  have d1 := c1' ⟨w4, hb4⟩
  simp only at d0 d1
  have d2 := cell_of_block k2 0
  have HB5 := Lib.hid hb5
  have HM4 := H.out.later hb5
  obtain ⟨es, c, hm, he⟩ := HM4.map
  obtain ⟨es', c', hup, hE'⟩ := Mp.update intKey mapUnder M c he HID.out (.int .i64 (ln : Int))
  have hlt4 : p < w4.heap.size := HM4.lt (.inl rfl)
  have hrun : (Instr.mapUpdate 68 (.map (some M)) (.int .i64 j.id) (.int .i64 (ln : Int))).run Try.prog w4.drew = .ok () (w4.drew.putObj M (.map es' c')) := hup _ hm
  have HK2 := Lib.hid k2; have HK3 := Lib.hid k3; have HE' := Lib.hid hE'; have HM := Lib.hid hm; have HM4 := Lib.hid HM4
  clear c0' c1' c2 hlk2 k0 k1 k2 k3 hb hb4 hb5 hsz he hup hE' hm
  go_wp2_with fail
  refine wp_region_still_tail 11 (by kernel_rfl) (by kernel_rfl) ?_
  simp only [List.take_succ_cons, List.take_zero, List.drop_succ_cons, List.drop_zero]
  iterate 11 still_step
  refine wpStill_nil ?_
  change wpList _ _ _ _ _ w4.drew
  go_wp2_with fail
  clear hrun d0 d1 d2
  have hown0 := HM4.out.own
  rw [hlen.out] at hown0
  have hF6 : ∀ q, q ≠ M → (w4.drew.putObj M (.map es' c')).heap[q]? = w4.heap[q]? := fun q hq => World.putObj_heap_other hq
  have hlM := lt_of_block HM.out
  have hM6 : (w4.drew.putObj M (.map es' c')).heap[M]? = some (.map es' c') := by
    simp [World.putObj, Array.getElem?_setIfInBounds, hlM]
  have hFr6 : Fr w4.heap.size (fun q => q = M) w4 (w4.drew.putObj M (.map es' c')) := (Fr.refl w4.heap.size (fun q => q = M) w4).drew.putObj (.inr rfl) _
  have hsz6 : (w4.drew.putObj M (.map es' c')).heap.size = w4.heap.size := by simp [World.putObj]
  generalize w4.drew.putObj M (.map es' c') = W6 at hF6 hM6 hFr6 hsz6 ⊢
  have far := H.out.far
  have ooold := H.out.own.lt
  have hlo := hown0.lt
  have hp6 := (hF6 p far.2.2).trans HM4.out.head
  rw [hlen.out] at hp6
  have lw := lt_of_block HK2.out
  have lw2 := H.out.lt (.inr (.inl rfl))
  have hj6 := (hF6 w.heap.size (by omega)).trans HK2.out
  have hz6 := (hF6 (w.heap.size + 1) (by omega)).trans HK3.out
  have hown6 := ownsRow_fr hown0 hFr6 (fun g hg => ⟨(hlo g hg).2, by have := (hlo g hg).1; omega⟩)
  have av1 : (Value.slice a ln cap).ownBlock ≠ some p := fun e => by have := (hlo _ e).1; omega
  have av2 : (Value.slice a ln cap).ownBlock ≠ some w.heap.size := fun e => by have := (ooold _ (show (Value.slice a l.length cap).ownBlock = some _ by rw [hlen.out]; exact e)).2; omega
  have av3 : (Value.slice a ln cap).ownBlock ≠ some (w.heap.size + 1) := fun e => by have := (ooold _ (show (Value.slice a l.length cap).ownBlock = some _ by rw [hlen.out]; exact e)).2; omega
  have av4 : (Value.slice a ln cap).ownBlock ≠ some M := fun e => by have := (hlo _ e).1; omega
  have l1 : p < W6.heap.size := by omega
  have l2 : w.heap.size < W6.heap.size := by omega
  have dp : ∀ y : LaterF W6 (fun q => (Value.slice a ln cap).ownBlock = some q), y.wd.cell? ⟨p, 0, none⟩ = some (.slice a ln cap) := fun y => (y.cell l1 av1).trans (cell_of_block hp6 0)
  have dj : ∀ (i : Nat) (y : LaterF W6 (fun q => (Value.slice a ln cap).ownBlock = some q)), y.wd.cell? ⟨w.heap.size, i, none⟩ = (#[.int .i64 (Jb.id j), .int .i64 (Jb.queue j), .int .i64 (Jb.prio j), .int .i64 (Jb.runtime j), .int .i64 (Sh.gpus (Jb.shape j)), .int .i64 (Sh.cpus (Jb.shape j)), .int .i64 (Sh.mn (Jb.shape j)), .int .i64 (Sh.mx (Jb.shape j))] : Array Value)[i]? := fun i y => (y.cell l2 av2).trans (cell_of_block hj6 i)
  have dj0 := dj 0; have dj1 := dj 1; have dj2 := dj 2; have dj3 := dj 3; have dj4 := dj 4; have dj5 := dj 5; have dj6 := dj 6; have dj7 := dj 7
  have hwr : IntKind.i64.wrap ((ln : Int) + 1) = (ln : Int) + 1 := by rw [wrap_eq]; unfold wrap64; omega
  clear dj
  obtain ⟨i0, hi0, hz0, hz1, hz2⟩ := info_parts infoRec
  have HP6 := Lib.hid hp6; have HO6 := Lib.hid hown6; have HZ6 := Lib.hid hz6; have HM6 := Lib.hid hM6; have HJ6 := Lib.hid hj6; have HF6 := Lib.hid hF6; have HFr6 := Lib.hid hFr6; have HOO := Lib.hid ooold
  have hbase6 : base ≤ W6.heap.size := by have := HB5.out.size; omega
  have SZ6 := Lib.hid hsz6
  have fx0 := (Fr.refl W6.heap.size (fun q => (Value.slice a ln cap).ownBlock = some q) W6).drew
  clear hp6 hown6 hz6 hM6 hj6 hF6 hFr6 hsz6 hown0 hlM hlo lw lw2 ooold
  refine Rg.wp_region_pick (by kernel_rfl) [0, 1, 2, 3, 4, 5, 6, 7, 8, 9, 10, 11, 12, 13] [14, 15, 16, 17, 18] 16 (by kernel_rfl) (by kernel_rfl) (by kernel_rfl) (fun w' => ∃ y : LaterF W6 (fun q => (Value.slice a ln cap).ownBlock = some q), w' = y.wd) (fun c a a' w hd h => ⟨hd.symm.trans h.1, h.2⟩) ⟨⟨_, fx0⟩, rfl⟩ ?_
  simp only [Rg.picks, List.getElem?_cons_succ, List.getElem?_cons_zero, Option.toList, List.cons_append, List.nil_append]
  repeat (quiet_step (fail))
  refine wpQuiet_nil ?_
  clear dp dj0 dj1 dj2 dj3 dj4 dj5 dj6 dj7
  simp only [Rg.pickn, List.getElem?_cons_succ, List.getElem?_cons_zero, Option.toList, List.map_cons, List.map_nil, List.cons_append, List.nil_append]
  refine Rg.wpN_step (fun K hK => ?_) ⟨⟨_, fx0⟩, rfl⟩
  go_simp
  obtain ⟨y, hy⟩ : ∃ y : Rc, y = ⟨j, 1, since, (ln : Int) + 1, 0, 0, 0, 0, 0⟩ := ⟨_, rfl⟩
  have hrow := World.alloc_heap_new W6 (.cells #[.int .i64 (Jb.id (Rc.job ((⟨j, 1, since, (ln : Int) + 1, 0, 0, 0, 0, 0⟩ : Rc)))), .int .i64 (Jb.queue (Rc.job ((⟨j, 1, since, (ln : Int) + 1, 0, 0, 0, 0, 0⟩ : Rc)))), .int .i64 (Jb.prio (Rc.job ((⟨j, 1, since, (ln : Int) + 1, 0, 0, 0, 0, 0⟩ : Rc)))), .int .i64 (Jb.runtime (Rc.job ((⟨j, 1, since, (ln : Int) + 1, 0, 0, 0, 0, 0⟩ : Rc)))), .int .i64 (Sh.gpus (Jb.shape (Rc.job ((⟨j, 1, since, (ln : Int) + 1, 0, 0, 0, 0, 0⟩ : Rc))))), .int .i64 (Sh.cpus (Jb.shape (Rc.job ((⟨j, 1, since, (ln : Int) + 1, 0, 0, 0, 0, 0⟩ : Rc))))), .int .i64 (Sh.mn (Jb.shape (Rc.job ((⟨j, 1, since, (ln : Int) + 1, 0, 0, 0, 0, 0⟩ : Rc))))), .int .i64 (Sh.mx (Jb.shape (Rc.job ((⟨j, 1, since, (ln : Int) + 1, 0, 0, 0, 0, 0⟩ : Rc))))), .int .i64 (Rc.state ((⟨j, 1, since, (ln : Int) + 1, 0, 0, 0, 0, 0⟩ : Rc))), .int .i64 (Rc.since ((⟨j, 1, since, (ln : Int) + 1, 0, 0, 0, 0, 0⟩ : Rc))), .int .i64 (Rc.number ((⟨j, 1, since, (ln : Int) + 1, 0, 0, 0, 0, 0⟩ : Rc))), .int .i64 (Rc.members ((⟨j, 1, since, (ln : Int) + 1, 0, 0, 0, 0, 0⟩ : Rc))), .int .i64 (Rc.began ((⟨j, 1, since, (ln : Int) + 1, 0, 0, 0, 0, 0⟩ : Rc))), .int .i64 (Rc.fin ((⟨j, 1, since, (ln : Int) + 1, 0, 0, 0, 0, 0⟩ : Rc))), .int .i64 (Rc.limit ((⟨j, 1, since, (ln : Int) + 1, 0, 0, 0, 0, 0⟩ : Rc))), .int .i64 (Rc.worker ((⟨j, 1, since, (ln : Int) + 1, 0, 0, 0, 0, 0⟩ : Rc)))] 38)
  have hown7 := ownsRow_below HO6.out ((Below.refl W6.heap.size W6).alloc (Nat.le_refl _) (.cells #[.int .i64 (Jb.id (Rc.job ((⟨j, 1, since, (ln : Int) + 1, 0, 0, 0, 0, 0⟩ : Rc)))), .int .i64 (Jb.queue (Rc.job ((⟨j, 1, since, (ln : Int) + 1, 0, 0, 0, 0, 0⟩ : Rc)))), .int .i64 (Jb.prio (Rc.job ((⟨j, 1, since, (ln : Int) + 1, 0, 0, 0, 0, 0⟩ : Rc)))), .int .i64 (Jb.runtime (Rc.job ((⟨j, 1, since, (ln : Int) + 1, 0, 0, 0, 0, 0⟩ : Rc)))), .int .i64 (Sh.gpus (Jb.shape (Rc.job ((⟨j, 1, since, (ln : Int) + 1, 0, 0, 0, 0, 0⟩ : Rc))))), .int .i64 (Sh.cpus (Jb.shape (Rc.job ((⟨j, 1, since, (ln : Int) + 1, 0, 0, 0, 0, 0⟩ : Rc))))), .int .i64 (Sh.mn (Jb.shape (Rc.job ((⟨j, 1, since, (ln : Int) + 1, 0, 0, 0, 0, 0⟩ : Rc))))), .int .i64 (Sh.mx (Jb.shape (Rc.job ((⟨j, 1, since, (ln : Int) + 1, 0, 0, 0, 0, 0⟩ : Rc))))), .int .i64 (Rc.state ((⟨j, 1, since, (ln : Int) + 1, 0, 0, 0, 0, 0⟩ : Rc))), .int .i64 (Rc.since ((⟨j, 1, since, (ln : Int) + 1, 0, 0, 0, 0, 0⟩ : Rc))), .int .i64 (Rc.number ((⟨j, 1, since, (ln : Int) + 1, 0, 0, 0, 0, 0⟩ : Rc))), .int .i64 (Rc.members ((⟨j, 1, since, (ln : Int) + 1, 0, 0, 0, 0, 0⟩ : Rc))), .int .i64 (Rc.began ((⟨j, 1, since, (ln : Int) + 1, 0, 0, 0, 0, 0⟩ : Rc))), .int .i64 (Rc.fin ((⟨j, 1, since, (ln : Int) + 1, 0, 0, 0, 0, 0⟩ : Rc))), .int .i64 (Rc.limit ((⟨j, 1, since, (ln : Int) + 1, 0, 0, 0, 0, 0⟩ : Rc))), .int .i64 (Rc.worker ((⟨j, 1, since, (ln : Int) + 1, 0, 0, 0, 0, 0⟩ : Rc)))] 38))
  have fx1 := (Fr.refl W6.heap.size (fun q => (Value.slice a ln cap).ownBlock = some q) W6).alloc (Nat.le_refl _) (.cells #[.int .i64 (Jb.id (Rc.job ((⟨j, 1, since, (ln : Int) + 1, 0, 0, 0, 0, 0⟩ : Rc)))), .int .i64 (Jb.queue (Rc.job ((⟨j, 1, since, (ln : Int) + 1, 0, 0, 0, 0, 0⟩ : Rc)))), .int .i64 (Jb.prio (Rc.job ((⟨j, 1, since, (ln : Int) + 1, 0, 0, 0, 0, 0⟩ : Rc)))), .int .i64 (Jb.runtime (Rc.job ((⟨j, 1, since, (ln : Int) + 1, 0, 0, 0, 0, 0⟩ : Rc)))), .int .i64 (Sh.gpus (Jb.shape (Rc.job ((⟨j, 1, since, (ln : Int) + 1, 0, 0, 0, 0, 0⟩ : Rc))))), .int .i64 (Sh.cpus (Jb.shape (Rc.job ((⟨j, 1, since, (ln : Int) + 1, 0, 0, 0, 0, 0⟩ : Rc))))), .int .i64 (Sh.mn (Jb.shape (Rc.job ((⟨j, 1, since, (ln : Int) + 1, 0, 0, 0, 0, 0⟩ : Rc))))), .int .i64 (Sh.mx (Jb.shape (Rc.job ((⟨j, 1, since, (ln : Int) + 1, 0, 0, 0, 0, 0⟩ : Rc))))), .int .i64 (Rc.state ((⟨j, 1, since, (ln : Int) + 1, 0, 0, 0, 0, 0⟩ : Rc))), .int .i64 (Rc.since ((⟨j, 1, since, (ln : Int) + 1, 0, 0, 0, 0, 0⟩ : Rc))), .int .i64 (Rc.number ((⟨j, 1, since, (ln : Int) + 1, 0, 0, 0, 0, 0⟩ : Rc))), .int .i64 (Rc.members ((⟨j, 1, since, (ln : Int) + 1, 0, 0, 0, 0, 0⟩ : Rc))), .int .i64 (Rc.began ((⟨j, 1, since, (ln : Int) + 1, 0, 0, 0, 0, 0⟩ : Rc))), .int .i64 (Rc.fin ((⟨j, 1, since, (ln : Int) + 1, 0, 0, 0, 0, 0⟩ : Rc))), .int .i64 (Rc.limit ((⟨j, 1, since, (ln : Int) + 1, 0, 0, 0, 0, 0⟩ : Rc))), .int .i64 (Rc.worker ((⟨j, 1, since, (ln : Int) + 1, 0, 0, 0, 0, 0⟩ : Rc)))] 38)
  have hsz7 : (W6.alloc (.cells #[.int .i64 (Jb.id (Rc.job ((⟨j, 1, since, (ln : Int) + 1, 0, 0, 0, 0, 0⟩ : Rc)))), .int .i64 (Jb.queue (Rc.job ((⟨j, 1, since, (ln : Int) + 1, 0, 0, 0, 0, 0⟩ : Rc)))), .int .i64 (Jb.prio (Rc.job ((⟨j, 1, since, (ln : Int) + 1, 0, 0, 0, 0, 0⟩ : Rc)))), .int .i64 (Jb.runtime (Rc.job ((⟨j, 1, since, (ln : Int) + 1, 0, 0, 0, 0, 0⟩ : Rc)))), .int .i64 (Sh.gpus (Jb.shape (Rc.job ((⟨j, 1, since, (ln : Int) + 1, 0, 0, 0, 0, 0⟩ : Rc))))), .int .i64 (Sh.cpus (Jb.shape (Rc.job ((⟨j, 1, since, (ln : Int) + 1, 0, 0, 0, 0, 0⟩ : Rc))))), .int .i64 (Sh.mn (Jb.shape (Rc.job ((⟨j, 1, since, (ln : Int) + 1, 0, 0, 0, 0, 0⟩ : Rc))))), .int .i64 (Sh.mx (Jb.shape (Rc.job ((⟨j, 1, since, (ln : Int) + 1, 0, 0, 0, 0, 0⟩ : Rc))))), .int .i64 (Rc.state ((⟨j, 1, since, (ln : Int) + 1, 0, 0, 0, 0, 0⟩ : Rc))), .int .i64 (Rc.since ((⟨j, 1, since, (ln : Int) + 1, 0, 0, 0, 0, 0⟩ : Rc))), .int .i64 (Rc.number ((⟨j, 1, since, (ln : Int) + 1, 0, 0, 0, 0, 0⟩ : Rc))), .int .i64 (Rc.members ((⟨j, 1, since, (ln : Int) + 1, 0, 0, 0, 0, 0⟩ : Rc))), .int .i64 (Rc.began ((⟨j, 1, since, (ln : Int) + 1, 0, 0, 0, 0, 0⟩ : Rc))), .int .i64 (Rc.fin ((⟨j, 1, since, (ln : Int) + 1, 0, 0, 0, 0, 0⟩ : Rc))), .int .i64 (Rc.limit ((⟨j, 1, since, (ln : Int) + 1, 0, 0, 0, 0, 0⟩ : Rc))), .int .i64 (Rc.worker ((⟨j, 1, since, (ln : Int) + 1, 0, 0, 0, 0, 0⟩ : Rc)))] 38)).heap.size = W6.heap.size + 1 := World.size_alloc _ _
  simp only at hrow hown7 fx1 hsz7
  refine hK _ _ (fun _ => ⟨⟨_, fx1.drew⟩, rfl⟩) ?_
  clear hK K
  refine Rg.wpN_step (fun K hK => ?_) ⟨⟨_, fx1.drew⟩, rfl⟩
  refine step_append_lies _ (by rfl) _ _ _ (by rfl) base 38 i0 _ 16 128 Try.underlying46 hi0 hz0 hz1 hz2 rfl (by omega) (.slice a ln cap) ln _ (by rfl) hown7.drew
    ⟨W6.heap.size, 0, none⟩ 1 1 (Rc.cells ⟨j, 1, since, (ln : Int) + 1, 0, 0, 0, 0, 0⟩) (by rfl) (by rfl) (World.news_of_block (cs := #[.int .i64 (Jb.id (Rc.job ((⟨j, 1, since, (ln : Int) + 1, 0, 0, 0, 0, 0⟩ : Rc)))), .int .i64 (Jb.queue (Rc.job ((⟨j, 1, since, (ln : Int) + 1, 0, 0, 0, 0, 0⟩ : Rc)))), .int .i64 (Jb.prio (Rc.job ((⟨j, 1, since, (ln : Int) + 1, 0, 0, 0, 0, 0⟩ : Rc)))), .int .i64 (Jb.runtime (Rc.job ((⟨j, 1, since, (ln : Int) + 1, 0, 0, 0, 0, 0⟩ : Rc)))), .int .i64 (Sh.gpus (Jb.shape (Rc.job ((⟨j, 1, since, (ln : Int) + 1, 0, 0, 0, 0, 0⟩ : Rc))))), .int .i64 (Sh.cpus (Jb.shape (Rc.job ((⟨j, 1, since, (ln : Int) + 1, 0, 0, 0, 0, 0⟩ : Rc))))), .int .i64 (Sh.mn (Jb.shape (Rc.job ((⟨j, 1, since, (ln : Int) + 1, 0, 0, 0, 0, 0⟩ : Rc))))), .int .i64 (Sh.mx (Jb.shape (Rc.job ((⟨j, 1, since, (ln : Int) + 1, 0, 0, 0, 0, 0⟩ : Rc))))), .int .i64 (Rc.state ((⟨j, 1, since, (ln : Int) + 1, 0, 0, 0, 0, 0⟩ : Rc))), .int .i64 (Rc.since ((⟨j, 1, since, (ln : Int) + 1, 0, 0, 0, 0, 0⟩ : Rc))), .int .i64 (Rc.number ((⟨j, 1, since, (ln : Int) + 1, 0, 0, 0, 0, 0⟩ : Rc))), .int .i64 (Rc.members ((⟨j, 1, since, (ln : Int) + 1, 0, 0, 0, 0, 0⟩ : Rc))), .int .i64 (Rc.began ((⟨j, 1, since, (ln : Int) + 1, 0, 0, 0, 0, 0⟩ : Rc))), .int .i64 (Rc.fin ((⟨j, 1, since, (ln : Int) + 1, 0, 0, 0, 0, 0⟩ : Rc))), .int .i64 (Rc.limit ((⟨j, 1, since, (ln : Int) + 1, 0, 0, 0, 0, 0⟩ : Rc))), .int .i64 (Rc.worker ((⟨j, 1, since, (ln : Int) + 1, 0, 0, 0, 0, 0⟩ : Rc)))]) (t := 38) (fr := (0, 0)) hrow) (by simp [Rc.cells, Value.oneCell'])
    (by omega) (by unfold maxLen; omega) (by omega) (by simp; omega) (W6.heap.size + 1) (by simp) ?_
  intro gg cap' w8 hown2 hgrow hat hlt2
  have fx3 := fx1.drew.grown hgrow (by simp) (fun q e => .inr e)
  refine hK _ _ (fun _ => ⟨⟨_, fx3⟩, rfl⟩) ?_
  clear hK K
  refine Rg.wpN_list (by decide) ?_
  simp only [List.map_cons, List.map_nil]
  have e0 := (fx3.cell (p := ⟨p, 0, none⟩) l1 av1).trans (cell_of_block HP6.out 0)
  have e1 := (fx3.frozen (p := ⟨p, 0, none⟩) l1 av1).trans (frozen_of_block HP6.out 0)
  obtain ⟨y, hy⟩ : ∃ y : Rc, y = ⟨j, 1, since, (ln : Int) + 1, 0, 0, 0, 0, 0⟩ := ⟨_, rfl⟩
  have hgB : base ≤ gg := (hown2.lt gg rfl).1
  have hgw : gg < w8.heap.size := (hown2.lt gg rfl).2
  have hl8 : p < w8.heap.size := Nat.lt_of_lt_of_le l1 fx3.size
  have hZ8 := (fx3.block (w.heap.size + 1) (by have := SZ6.out; have := lt_of_block HK3.out; omega) av3).trans HZ6.out
  have hBk : BookAt (w8.setCell ⟨p, 0, none⟩ (.slice (some ⟨gg, 0, none⟩) (ln + 1) cap')) base p M (.slice (some ⟨gg, 0, none⟩) (l ++ [y]).length cap') (l ++ [y]) := by
    have hlen1 : (l ++ [y]).length = ln + 1 := by simp [hlen.out]
    refine ⟨?_, ?_, ⟨es', c', ?_, ?_⟩, ?_, far⟩
    · rw [hlen1]
      exact setCell_block ((fx3.block _ l1 av1).trans HP6.out) 0 _
    · rw [hlen1, List.flatMap_append, show List.flatMap Rc.cells [y] = Rc.cells ⟨j, 1, since, (ln : Int) + 1, 0, 0, 0, 0, 0⟩ by rw [hy]; simp]
      exact ownsRow_setCell_other hown2 (a := ⟨p, 0, none⟩) (by intro e; simp [Value.ownBlock] at e; omega) _
    · rw [setCell_other _ (Ne.symm far.2.2)]
      exact (fx3.block _ (by have := lt_of_block HM6.out; omega) av4).trans HM6.out
    · have hput : Mp.put (idxR 0 l) j.id (.int .i64 (ln : Int)) = idxR 0 (l ++ [y]) := by
        have hlk : Mp.look (idxR 0 l) j.id = none := by rw [look_idxR, HF.out]; rfl
        unfold Mp.put
        rw [hlk, idxR_append, hy]
        simp [idxR, hlen.out]
      rw [← hput]; exact HE'.out
    · rw [List.map_append, List.nodup_append]
      refine ⟨H.out.nd, by simp, ?_⟩
      intro x hx z hz e
      obtain ⟨r, hr, rfl⟩ := List.mem_map.1 hx
      simp only [List.map_cons, List.map_nil, List.mem_singleton, hy] at hz
      subst hz
      exact findR_none.1 HF.out r hr e
  have hFr9 : Fr w.heap.size (BF p M (Value.slice a l.length cap)) w (w8.setCell ⟨p, 0, none⟩ (.slice (some ⟨gg, 0, none⟩) (ln + 1) cap')) := by
    refine Fr.setCell (p := ⟨p, 0, none⟩) ?_ (.inr (.inl rfl)) _
    have hv : (Value.slice a l.length cap).ownBlock = (Value.slice a ln cap).ownBlock := by rw [hlen.out]
    refine (Fr.of_below HB5.out _).trans ((HFr6.out.mono HB5.out.size fun q _ e => .inr (.inl e)).trans (fx3.mono (by have := SZ6.out; have := HB5.out.size; omega) fun q _ e => .inr (.inr (hv.trans e))))
  have hnew : ∀ q, BF p M (.slice (some ⟨gg, 0, none⟩) (l ++ [y]).length cap') q → BF p M (Value.slice a l.length cap) q ∨ w.heap.size ≤ q := by
    rintro q (rfl | rfl | hq)
    · exact .inl (.inl rfl)
    · exact .inl (.inr (.inl rfl))
    · simp [Value.ownBlock] at hq
      subst hq
      exact hat.elim (fun e => .inl (.inr (.inr (by rw [hlen.out]; exact e)))) (fun e => .inr (by have := SZ6.out; have := HB5.out.size; omega))
  have hZ9 : (w8.setCell ⟨p, 0, none⟩ (.slice (some ⟨gg, 0, none⟩) (ln + 1) cap')).heap[w.heap.size + 1]? = _ := (setCell_other _ (by simp only; omega)).trans hZ8
  have hrec := hBk.recAt (k := ln) (by simp [hlen.out])
  rw [show (l ++ [y])[ln]'(by simp [hlen.out]) = y by simp [← hlen.out]] at hrec
  have HGG := Lib.hid (show gg ≠ w.heap.size + 1 from fun e => hat.elim (fun h => av3 (by rw [h, e])) (fun h => by have := SZ6.out; have := lt_of_block HK3.out; omega))
  have HBK := Lib.hid hBk; have HFR9 := Lib.hid hFr9; have HNEW := Lib.hid hnew; have HREC := Lib.hid hrec; have HZ9 := Lib.hid hZ9; have HY := Lib.hid hy
  clear hBk hFr9 hnew hrec hZ9 hy hown2 hgrow hat hlt2 fx3 fx1 hown7 hrow hsz7 fx0 hZ8 av1 av2 av3 av4
  go_wp2_with fail
  clear e0 e1
  have hrec := HREC.out
  have hz9 := HZ9.out
  have hbk := HBK.out
  have hfr9 := HFR9.out
  have hnew := HNEW.out
  clear HREC HZ9 HBK HFR9 HNEW
  generalize w8.setCell ⟨p, 0, none⟩ (.slice (some ⟨gg, 0, none⟩) (ln + 1) cap') = W9 at hrec hz9 hbk hfr9 hnew ⊢
  have r0 : W9.cell? ⟨gg, ln * 16, none⟩ = some (.int .i64 y.job.id) := (hrec 0 (by omega)).1
  have r1 : W9.cell? ⟨gg, ln * 16 + 1, none⟩ = some (.int .i64 y.job.queue) := (hrec 1 (by omega)).1
  have r2 : W9.cell? ⟨gg, ln * 16 + 2, none⟩ = some (.int .i64 y.job.prio) := (hrec 2 (by omega)).1
  have r3 : W9.cell? ⟨gg, ln * 16 + 3, none⟩ = some (.int .i64 y.job.runtime) := (hrec 3 (by omega)).1
  have r4 : W9.cell? ⟨gg, ln * 16 + 4, none⟩ = some (.int .i64 y.job.shape.gpus) := (hrec 4 (by omega)).1
  have r5 : W9.cell? ⟨gg, ln * 16 + 5, none⟩ = some (.int .i64 y.job.shape.cpus) := (hrec 5 (by omega)).1
  have r6 : W9.cell? ⟨gg, ln * 16 + 6, none⟩ = some (.int .i64 y.job.shape.mn) := (hrec 6 (by omega)).1
  have r7 : W9.cell? ⟨gg, ln * 16 + 7, none⟩ = some (.int .i64 y.job.shape.mx) := (hrec 7 (by omega)).1
  have r8 : W9.cell? ⟨gg, ln * 16 + 8, none⟩ = some (.int .i64 y.state) := (hrec 8 (by omega)).1
  have r9 : W9.cell? ⟨gg, ln * 16 + 9, none⟩ = some (.int .i64 y.since) := (hrec 9 (by omega)).1
  have r10 : W9.cell? ⟨gg, ln * 16 + 10, none⟩ = some (.int .i64 y.number) := (hrec 10 (by omega)).1
  have r11 : W9.cell? ⟨gg, ln * 16 + 11, none⟩ = some (.int .i64 y.members) := (hrec 11 (by omega)).1
  have r12 : W9.cell? ⟨gg, ln * 16 + 12, none⟩ = some (.int .i64 y.began) := (hrec 12 (by omega)).1
  have r13 : W9.cell? ⟨gg, ln * 16 + 13, none⟩ = some (.int .i64 y.fin) := (hrec 13 (by omega)).1
  have r14 : W9.cell? ⟨gg, ln * 16 + 14, none⟩ = some (.int .i64 y.limit) := (hrec 14 (by omega)).1
  have r15 : W9.cell? ⟨gg, ln * 16 + 15, none⟩ = some (.int .i64 y.worker) := (hrec 15 (by omega)).1
  have q0 : W9.cell? ⟨p, 0, none⟩ = some (.slice (some ⟨gg, 0, none⟩) (ln + 1) cap') := (cell_of_block hbk.head 0).trans (by simp [hlen.out])
  have z := cell_of_block hz9
  have zf := frozen_of_block hz9
  have lz := lt_of_block hz9
  have HZ9 := Lib.hid hz9; have HBK := Lib.hid hbk; have HFR9 := Lib.hid hfr9; have HNEW := Lib.hid hnew
  have hwr2 : IntKind.i64.wrap (ln : Int) = (ln : Int) := by rw [wrap_eq]; unfold wrap64; omega
  have i0 : (0 : Int) ≤ ln := by omega
  have i1 : (ln : Int) < ln + 1 := by omega
  clear hrec hz9 hbk hfr9 hnew
  refine wp_region_still_tail 12 (by kernel_rfl) (by kernel_rfl) ?_
  simp only [List.take_succ_cons, List.take_zero, List.drop_succ_cons, List.drop_zero]
  iterate 12 still_step
  refine wpStill_nil ?_
  clear q0 r0 r1 r2 r3 r4 r5 r6 r7 r8 r9 r10 r11 r12 r13 r14 r15
  change wpList _ _ _ _ _ W9.drew
  go_wp2
  refine store16d (x := y) (z := Rc.zero) HZ9.out fun w2 h2 hf2 => ?_
  (try simp only [Exit.inBlock, Exit.then])
  refine bodyPost_ret (results_row_tmp rfl _ w2.drew _ _ _ _ _ recUnder rfl rfl h2 (by kernel_rfl)) rfl ?_
  have hr2 : addR l j since = ((y, 0), l ++ [y]) := by rw [HA.out, HY.out]
  have hBF : ∀ q, BF p M (.slice (some ⟨gg, 0, none⟩) (l ++ [y]).length cap') q → q ≠ w.heap.size + 1 := fun q hq e => by
    rcases hq with h | h | h
    · omega
    · have := H.out.lt (.inr (.inl rfl)); omega
    · exact HGG.out (by simp [Value.ownBlock] at h; omega)
  rw [hr2]
  refine ⟨rfl, _, HBK.out.frame fun q hq => ?_, ?_, HNEW.out⟩
  · exact hf2.block q (HBK.out.lt hq) (hBF q hq)
  · exact (HFR9.out.trans ((hf2.mono (by have := HFR9.out.size; omega) fun q hq e => e).mono (Nat.le_refl _) fun q hq e => by omega)).drew

theorem add_any (base p M : Nat) (v : Value) (l : List Rc) (j : Jb) (since : Int) (w : World) (h : BookAt w base p M v l) (hid : okInt j.id) (hl : l.length ≤ 1000000) (hbase : base ≤ w.heap.size) :
    Calls Try.prog 14 #[.pointer (some ⟨p, 0, none⟩), (.agg #[.int .i64 (Jb.id j), .int .i64 (Jb.queue j), .int .i64 (Jb.prio j), .int .i64 (Jb.runtime j), .int .i64 (Sh.gpus (Jb.shape j)), .int .i64 (Sh.cpus (Jb.shape j)), .int .i64 (Sh.mn (Jb.shape j)), .int .i64 (Sh.mx (Jb.shape j))]), .int .i64 since] w (AddPost base p M v (addR l j since) w) := by
  by_cases hno : (findR l j.id).isSome = true ∨ 4096 ≤ l.length
  · exact add_no base p M v l j since w h hid hl hno
  · refine add_ok base p M v l j since w h hid hl ?_ (fun e => hno (.inr e)) hbase
    cases hf : findR l j.id with
    | none => rfl
    | some k => exact absurd (.inl (by rw [hf]; rfl)) hno
end Go.Proofs.Ytaopekoehaccbaa
