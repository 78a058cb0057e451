/-
  gang's New, Add.
-/
import Derived.Test.YtaopekoehaccbaaGangCl7
set_option linter.unusedVariables false
set_option linter.unusedSimpArgs false
namespace Go.Proofs.Ytaopekoehaccbaa
open Go.RowKit Go.Maps

theorem new_any (w : World) : Calls Try.prog 13 #[] w fun e w' => e = .returned (.pointer (some ⟨w.heap.size + 1, 0, none⟩)) ∧ BookAt w' (w.heap.size + 2) (w.heap.size + 1) w.heap.size (.slice none 0 0) [] ∧ Below w.heap.size w w' := by
  have hmm := @run_makeMap Try.prog
  go_enter Try.func13, Try.ntmps13
  go_wp2
  go_ret
  refine ⟨rfl, ⟨alloc2_new _ _ _, World.ownsRow_nil _ _ _ _, ⟨#[], 0, alloc_other (World.alloc_heap_new _ _), Mp.Ents.nil⟩, List.nodup_nil, by omega, by omega, by omega⟩, ((Below.refl _ _).alloc (Nat.le_refl _) _).alloc (by simp) _⟩

theorem own_form {w : World} {base : Nat} {e : TypeId} {sz : Nat} {v : Value} {n : Nat} {xs : List Value} (h : w.ownsRow base e sz v n xs) : ∃ a cap, v = .slice a n cap := by
  rcases h.2 with ⟨rfl, h0⟩ | ⟨g, cap, cur, rfl, _⟩
  · subst h0; exact ⟨none, 0, rfl⟩
  · exact ⟨some ⟨g, 0, none⟩, cap, rfl⟩
theorem world_two {w : World} {o1 o2 : Obj} {G : World → Prop}
    (H : ∀ w3 : World, Below w.heap.size w w3 → w3.heap[w.heap.size]? = some o1 → w3.heap[w.heap.size + 1]? = some o2 → w3.heap.size = w.heap.size + 1 + 1 → G w3) : G ((w.alloc o1).alloc o2) := by
  have s1 : (w.alloc o1).heap.size = w.heap.size + 1 := World.size_alloc _ _
  refine H _ (((Below.refl _ _).alloc (Nat.le_refl _) o1).alloc (by omega) o2) (alloc_other (World.alloc_heap_new w o1)) ?_ (by rw [World.size_alloc, s1])
  have := World.alloc_heap_new (w.alloc o1) o2
  rwa [s1] at this

def addR (l : List Rc) (j : Jb) (since : Int) : (Rc × Int) × List Rc :=
  if (findR l j.id).isSome = true then ((Rc.zero, 4), l) else if 4096 ≤ l.length then ((Rc.zero, 2), l)
  else ((⟨j, 1, since, (l.length : Int) + 1, 0, 0, 0, 0, 0⟩, 0), l ++ [⟨j, 1, since, (l.length : Int) + 1, 0, 0, 0, 0, 0⟩])
def AddPost (base p M : Nat) (v : Value) (r : (Rc × Int) × List Rc) (w : World) (e : Ending) (w' : World) : Prop :=
  e = .returned (.tuple #[(.agg #[.int .i64 (Jb.id (Rc.job (r.1.1))), .int .i64 (Jb.queue (Rc.job (r.1.1))), .int .i64 (Jb.prio (Rc.job (r.1.1))), .int .i64 (Jb.runtime (Rc.job (r.1.1))), .int .i64 (Sh.gpus (Jb.shape (Rc.job (r.1.1)))), .int .i64 (Sh.cpus (Jb.shape (Rc.job (r.1.1)))), .int .i64 (Sh.mn (Jb.shape (Rc.job (r.1.1)))), .int .i64 (Sh.mx (Jb.shape (Rc.job (r.1.1)))), .int .i64 (Rc.state (r.1.1)), .int .i64 (Rc.since (r.1.1)), .int .i64 (Rc.number (r.1.1)), .int .i64 (Rc.members (r.1.1)), .int .i64 (Rc.began (r.1.1)), .int .i64 (Rc.fin (r.1.1)), .int .i64 (Rc.limit (r.1.1)), .int .i64 (Rc.worker (r.1.1))]), .int .i64 r.1.2]) ∧ ∃ v', BookAt w' base p M v' r.2 ∧ Fr w.heap.size (BF p M v) w w' ∧ ∀ q, BF p M v' q → BF p M v q ∨ w.heap.size ≤ q

set_option maxRecDepth 100000 in
set_option maxHeartbeats 2000000 in
theorem add_no (base p M : Nat) (v : Value) (l : List Rc) (j : Jb) (since : Int) (w : World) (h : BookAt w base p M v l) (hid : okInt j.id) (hl : l.length ≤ 1000000) (hno : (findR l j.id).isSome = true ∨ 4096 ≤ l.length) :
    Calls Try.prog 14 #[.pointer (some ⟨p, 0, none⟩), (.agg #[.int .i64 (Jb.id j), .int .i64 (Jb.queue j), .int .i64 (Jb.prio j), .int .i64 (Jb.runtime j), .int .i64 (Sh.gpus (Jb.shape j)), .int .i64 (Sh.cpus (Jb.shape j)), .int .i64 (Sh.mn (Jb.shape j)), .int .i64 (Sh.mx (Jb.shape j))]), .int .i64 since] w (AddPost base p M v (addR l j since) w) := by
  have lp := h.lt (.inl rfl)
  obtain ⟨a, cap, rfl⟩ := own_form h.own
  obtain ⟨ln, hln⟩ : ∃ ln, l.length = ln := ⟨_, rfl⟩
  have hlen := Lib.hid hln
  have c0 : ∀ y : Later w, y.wd.cell? ⟨p, 0, none⟩ = some (.slice a ln cap) := fun y => (y.cell lp).trans ((cell_of_block h.head 0).trans (by rw [hln]; rfl))
  have c1 : ∀ y : Later w, y.wd.cell? ⟨p, 1, none⟩ = some (.map (some M)) := fun y => (y.cell lp).trans (cell_of_block h.head 1)
  have H := Lib.hid h; have HID := Lib.hid hid
  clear hln h hid
  cases hf : findR l j.id with
  | some k =>
    have HA := Lib.hid (show addR l j since = ((Rc.zero, 4), l) by unfold addR; rw [if_pos (by simp [hf])])
    have hlk : ∀ y : Later w, (Instr.lookup 68 (.map (some M)) (.int .i64 j.id) true).run Try.prog y.wd = .ok (.tuple #[.int .i64 k, .bool true]) y.wd := fun y => by
      have := (H.out.later y.bel).look HID.out
      rw [hf] at this
      exact this
    clear hf
    go_enter Try.func14, Try.ntmps14
    go_wp2_with fail
    refine world_two fun w3 hb k0 k1 hsz => ?_
    have c0 : ∀ y : Later w3, y.wd.cell? ⟨p, 1, none⟩ = some (.map (some M)) := fun y => c1 ⟨y.wd, hb.trans (y.bel.mono hb.size)⟩
    have c2 : ∀ y : Later w3, y.wd.cell? ⟨w.heap.size, 0, none⟩ = some (.int .i64 j.id) := fun y => (y.cell (lt_of_block k0)).trans (cell_of_block k0 0)
    have hlk2 : ∀ y : Later w3, (Instr.lookup 68 (.map (some M)) (.int .i64 j.id) true).run Try.prog y.wd = .ok (.tuple #[.int .i64 k, .bool true]) y.wd := fun y => hlk ⟨y.wd, hb.trans (y.bel.mono hb.size)⟩
    clear c1 hlk
    refine wp_region_later (by kernel_rfl) (by kernel_rfl) ?_
    repeat (quiet_step (fail))
    refine wpQuiet_nil ?_
    rintro w4 ⟨⟨_, hb4⟩, rfl⟩
    have k2 := (hb4.block _ (lt_of_block k0)).trans k0
    have k3 := (hb4.block _ (lt_of_block k1)).trans k1
    have hb5 := hb.trans (hb4.mono hb.size)
    have HB5 := Lib.hid hb5
    have z := cell_of_block k3
    have zf := frozen_of_block k3
    have lz := lt_of_block k3
    have K3 := Lib.hid k3
    clear c0 c2 hlk2 k0 k1 k2 k3 hb hb4 hb5 hsz
    go_wp2
    refine store16 (x := Rc.zero) (z := Rc.zero) K3.out fun w2 h2 hf2 => ?_
    (try simp only [Exit.inBlock, Exit.then])
    refine bodyPost_ret (results_row_tmp rfl _ w2 _ _ _ _ _ recUnder rfl rfl h2 (by kernel_rfl)) rfl ?_
    have hbel : Below w.heap.size w w2 := HB5.out.trans ((hf2.mono (HB5.out.size) fun q hq e => e).below (Nat.le_refl _) fun q hq => by omega)
    rw [HA.out]
    exact ⟨rfl, _, H.out.later hbel, Fr.of_below hbel _, fun q hq => .inl hq⟩
  | none =>
    have hlk : ∀ y : Later w, (Instr.lookup 68 (.map (some M)) (.int .i64 j.id) true).run Try.prog y.wd = .ok (.tuple #[.int .i64 0, .bool false]) y.wd := fun y => by
      have := (H.out.later y.bel).look HID.out
      rw [hf] at this
      exact this
    have hfull : 4096 ≤ l.length := hno.elim (fun h => by rw [hf] at h; cases h) id
    · have HA := Lib.hid (show addR l j since = ((Rc.zero, 2), l) by unfold addR; rw [if_neg (by simp [hf]), if_pos hfull])
      have hfull2 : (4096 : Int) ≤ ln := by have := hlen.out; omega
      clear hf hfull
      go_enter Try.func14, Try.ntmps14
      go_wp2_with fail
      refine world_two fun w3 hb k0 k1 hsz => ?_
      have c1' : ∀ y : Later w3, y.wd.cell? ⟨p, 1, none⟩ = some (.map (some M)) := fun y => c1 ⟨y.wd, hb.trans (y.bel.mono hb.size)⟩
      have c0' : ∀ y : Later w3, y.wd.cell? ⟨p, 0, none⟩ = some (.slice a ln cap) := fun y => c0 ⟨y.wd, hb.trans (y.bel.mono hb.size)⟩
      have c2 : ∀ y : Later w3, y.wd.cell? ⟨w.heap.size, 0, none⟩ = some (.int .i64 j.id) := fun y => (y.cell (lt_of_block k0)).trans (cell_of_block k0 0)
      have hlk2 : ∀ y : Later w3, (Instr.lookup 68 (.map (some M)) (.int .i64 j.id) true).run Try.prog y.wd = .ok (.tuple #[.int .i64 0, .bool false]) y.wd := fun y => hlk ⟨y.wd, hb.trans (y.bel.mono hb.size)⟩
      clear c1 c0 hlk
      refine wp_region_later (by kernel_rfl) (by kernel_rfl) ?_
      repeat (quiet_step (fail))
      refine wpQuiet_nil ?_
      rintro w4 ⟨⟨_, hb4⟩, rfl⟩
      have k2 := (hb4.block _ (lt_of_block k0)).trans k0
      have k3 := (hb4.block _ (lt_of_block k1)).trans k1
      have hb5 := hb.trans (hb4.mono hb.size)
      have d0 := c0' ⟨w4, hb4⟩
      simp only at d0
      have HB5 := Lib.hid hb5
      have z := cell_of_block k3
      have zf := frozen_of_block k3
      have lz := lt_of_block k3
      have K3 := Lib.hid k3
      clear c0' c1' c2 hlk2 k0 k1 k2 k3 hb hb4 hb5 hsz
      go_wp2
      refine store16 (x := Rc.zero) (z := Rc.zero) K3.out fun w2 h2 hf2 => ?_
      (try simp only [Exit.inBlock, Exit.then])
      refine bodyPost_ret (results_row_tmp rfl _ w2 _ _ _ _ _ recUnder rfl rfl h2 (by kernel_rfl)) rfl ?_
      have hbel : Below w.heap.size w w2 := HB5.out.trans ((hf2.mono (HB5.out.size) fun q hq e => e).below (Nat.le_refl _) fun q hq => by omega)
      rw [HA.out]
      exact ⟨rfl, _, H.out.later hbel, Fr.of_below hbel _, fun q hq => .inl hq⟩
end Go.Proofs.Ytaopekoehaccbaa
