/-
  mask.Lowest: its contract.
-/
import Derived.Test.YtcfckooammacmaaDoorLowest
import Derived.Deep.QuietTactic
import Derived.BigQuiet
set_option linter.unusedVariables false
set_option linter.unusedSimpArgs false
namespace Go.Proofs.YtcfckooammacmaaDoor
open Go.RowKit Go.Shelf

attribute [local go_sem] Oper.semAt_some


/-- the kit's entry of a function that holds a range over a function -/
theorem calls_marks {f : FuncId} {fn : Func} {c : Code} {args : Array Value} {w : World} {P : Program} {R : Ending → World → Prop} (hf : P.funcs[f]? = some fn) (hb : fn.body = some c)
    (h : ∀ Q : Exit → Act → World → Prop, (∀ e a w, bodyPostM Fence.wide 9 P fn R e a w → Q e a w) → c.wp P Q { tmps := args ++ Array.replicate (fn.ntmps - args.size) undef, defers := [] } w) : Calls P f args w R :=
  (callsIn_wide (n := 9)).1 (callsIn_of_wp_marks hf hb trivial (wpIn_wide.2 (h _ (fun _ _ _ h => h))) rfl)

theorem gen_act {P : Program} {Q : Exit → Act → World → Prop} {c : Code} {a : Act} {w : World} (h : ∀ b : Act, b = a → c.wp P Q b w) : c.wp P Q a w := h a rfl

def orL (pre : List (Fin 64)) : Nat := pre.foldl (fun a x => a ||| ubit x) 0
theorem orL_snoc (pre : List (Fin 64)) (x : Fin 64) : orL (pre ++ [x]) = orL pre ||| ubit x := by simp [orL]
theorem orL_lt (pre : List (Fin 64)) : orL pre < 18446744073709551616 := by
  unfold orL
  suffices h : ∀ (l : List (Fin 64)) (a : Nat), a < 2 ^ 64 → l.foldl (fun a x => a ||| ubit x) a < 2 ^ 64 from by simpa using h pre 0 (by simp)
  intro l
  induction l with
  | nil => intro a h; exact h
  | cons x r ih => intro a h; exact ih _ (Nat.or_lt_two_pow h (by have := ubit_lt x; simpa using this))
theorem orL_mask (pre : List (Fin 64)) (hp : (pre.map Fin.val).Pairwise (· < ·)) : orL pre = Mk.maskOf (pre.map Fin.val) := by
  suffices h : ∀ (l : List (Fin 64)) (a : Nat) (o : Nat), a < 2 ^ o → (l.map Fin.val).Pairwise (· < ·) → (∀ u ∈ l, o ≤ u.val) → l.foldl (fun a x => a ||| ubit x) a = a + Mk.maskOf (l.map Fin.val) from by
    have := h pre 0 0 (by simp) hp (fun u _ => by omega)
    simpa [orL] using this
  intro l
  induction l with
  | nil => intro a o _ _ _; simp [Mk.maskOf]
  | cons x r ih =>
    intro a o ha hp hb
    rw [List.map_cons, List.pairwise_cons] at hp
    have hx := hb x (by simp)
    have ha' : a < 2 ^ x.val := Nat.lt_of_lt_of_le ha (Nat.pow_le_pow_right (by omega) hx)
    have e : a ||| ubit x = a + 2 ^ x.val := Mk.or_add ha'
    rw [List.foldl_cons, e, ih (a + 2 ^ x.val) (x.val + 1) (by rw [Nat.pow_succ]; omega) hp.2 (fun u hu => by have := hp.1 u.val (List.mem_map_of_mem hu); omega), List.map_cons]
    simp only [Mk.maskOf]; omega
theorem orL_take {m k : Nat} {L : List (Fin 64)} (hL : L.map Fin.val = Mk.units m) : orL (L.take k) = Mk.maskOf ((Mk.units m).take k) := by
  rw [orL_mask _ (by rw [List.map_take, hL]; exact (Mk.units_incr m).sublist (List.take_sublist _ _)), List.map_take, hL]

def orOf (pre : List (Fin 64)) : Nat := Mk.maskOf (pre.map Fin.val)
theorem orOf_snoc (pre : List (Fin 64)) (x : Fin 64) : orOf (pre ++ [x]) = orOf pre + ubit x := by simp [orOf, Mk.maskOf_append, Mk.maskOf, ubit]

noncomputable def lowestF (m : Nat) (n : Int) : Int × Int := if n < 0 then (0, 1) else if (Mk.cnt m : Int) < n then (0, 2) else ((Mk.maskOf ((Mk.units m).take n.toNat) : Nat), 0)
def LowestPost (m : Nat) (n : Int) (w : World) (e : Ending) (w' : World) : Prop := e = .returned (.tuple #[.int .u64 (lowestF m n).1, .int .i64 (lowestF m n).2]) ∧ Below w.heap.size w w'

set_option maxHeartbeats 1000000 in
theorem lowest_neg (m : Nat) (n : Int) (w : World) (hm : m < 18446744073709551616) (hn : n < 0) : Calls Tryd.prog 9 #[.int .u64 m, .int .i64 n] w fun e w' => LowestPost m n w e w' := by
  have HN := Lib.hid (show lowestF m n = (0, 1) by unfold lowestF; rw [if_pos hn])
  refine calls_marks Tryd.func9 rfl fun Q hQ => ?_
  have HQ := Lib.hid hQ
  clear hQ
  simp only [Tryd.ntmps9, List.size_toArray, List.length_cons, List.length_nil, Nat.reduceAdd, Nat.reduceSub, Array.replicate_succ, Array.replicate_zero, List.push_toArray, List.append_toArray, List.nil_append, List.cons_append]
  go_wp2
  refine HQ.out _ _ _ ⟨.tuple #[.int .u64 0, .int .i64 1], by simp [results, Tryd.results9, go_sem], ?_⟩
  exact ⟨by rw [HN.out], (Below.refl _ _).alloc (Nat.le_refl _) _⟩

set_option maxHeartbeats 1000000 in
theorem lowest_many (m : Nat) (n : Int) (w : World) (hm : m < 18446744073709551616) (hn : 0 ≤ n) (hn' : (Mk.cnt m : Int) < n) : Calls Tryd.prog 9 #[.int .u64 m, .int .i64 n] w fun e w' => LowestPost m n w e w' := by
  have HN := Lib.hid (show lowestF m n = (0, 2) by unfold lowestF; rw [if_neg (by omega), if_pos hn'])
  obtain ⟨c, hc⟩ : ∃ c : Nat, Mk.cnt m = c := ⟨_, rfl⟩
  rw [hc] at hn'
  have HC := Lib.hid hc
  clear hc
  refine calls_marks Tryd.func9 rfl fun Q hQ => ?_
  have HQ := Lib.hid hQ
  clear hQ
  simp only [Tryd.ntmps9, List.size_toArray, List.length_cons, List.length_nil, Nat.reduceAdd, Nat.reduceSub, Array.replicate_succ, Array.replicate_zero, List.push_toArray, List.append_toArray, List.nil_append, List.cons_append]
  go_wp2_with fail
  have hx : (w.alloc (.cells #[.int .i64 n] 3)).heap[w.heap.size]? = some (.cells #[.int .i64 n] 3 (0, 0)) := World.alloc_heap_new _ _
  have hB0 : Below w.heap.size w (w.alloc (.cells #[.int .i64 n] 3)) := (Below.refl _ _).alloc (Nat.le_refl _) _
  generalize w.alloc (.cells #[.int .i64 n] 3) = w0 at hx hB0 ⊢
  have d0 : ∀ x : Later w0, x.wd.cell? ⟨w.heap.size, 0, none⟩ = some (.int .i64 n) := fun x => by rw [Later.cell x (lt_of_block hx)]; exact cell_of_block hx 0
  have HX := Lib.hid hx; have HB0 := Lib.hid hB0
  clear hx hB0
  refine wp_region_later (by kernel_rfl) (by kernel_rfl) ?_
  repeat (quiet_step (first | (go_at_call 10; exact Calls.later ((count_any m _ hm).mono (fun e w' h => ⟨by rw [h.1, HC.out], by rw [h.2]; exact Below.refl _ _⟩)))))
  refine wpQuiet_nil ?_
  rintro w2 ⟨⟨_, hb2⟩, rfl⟩
  clear d0
  go_wp2_with fail
  refine HQ.out _ _ _ ⟨.tuple #[.int .u64 0, .int .i64 2], by simp [results, Tryd.results9, go_sem], ?_⟩
  exact ⟨by rw [HN.out], HB0.out.trans (hb2.mono HB0.out.size)⟩

set_option maxHeartbeats 2000000 in
theorem lowest_some (m k : Nat) (w : World) (hm : m < 18446744073709551616) (hk : k ≤ Mk.cnt m) (hk64 : k ≤ 64) : Calls Tryd.prog 9 #[.int .u64 m, .int .i64 k] w fun e w' => LowestPost m k w e w' := by
  have HN := Lib.hid (show lowestF m k = (((Mk.maskOf ((Mk.units m).take k) : Nat) : Int), 0) by unfold lowestF; rw [if_neg (by omega), if_neg (by omega), Int.toNat_natCast])
  obtain ⟨L, hL⟩ := units_fin m
  obtain ⟨c, hc⟩ : ∃ c : Nat, Mk.cnt m = c := ⟨_, rfl⟩
  have hLc : L.length = c := by rw [← hc, ← Mk.units_len, ← hL]; simp
  rw [hc] at hk
  have HC := Lib.hid hc
  have HL := Lib.hid hL
  have HLC := Lib.hid hLc
  clear hc hL hLc
  have hd1 : decide (c < k) = false := by simpa using hk
  have hd2 : decide ((k : Int) < 0) = false := by simp
  refine calls_marks Tryd.func9 rfl fun Q hQ => ?_
  have HQ := Lib.hid hQ
  clear hQ
  simp only [Tryd.ntmps9, List.size_toArray, List.length_cons, List.length_nil, Nat.reduceAdd, Nat.reduceSub, Array.replicate_succ, Array.replicate_zero, List.push_toArray, List.append_toArray, List.nil_append, List.cons_append]
  go_wp2_with fail
  have hx : (w.alloc (.cells #[.int .i64 k] 3)).heap[w.heap.size]? = some (.cells #[.int .i64 k] 3 (0, 0)) := World.alloc_heap_new _ _
  have hB0 : Below w.heap.size w (w.alloc (.cells #[.int .i64 k] 3)) := (Below.refl _ _).alloc (Nat.le_refl _) _
  generalize w.alloc (.cells #[.int .i64 k] 3) = w0 at hx hB0 ⊢
  have d0 : ∀ x : Later w0, x.wd.cell? ⟨w.heap.size, 0, none⟩ = some (.int .i64 k) := fun x => by rw [Later.cell x (lt_of_block hx)]; exact cell_of_block hx 0
  have HX := Lib.hid hx; have HB0 := Lib.hid hB0
  clear hx hB0
  refine wp_region_later (by kernel_rfl) (by kernel_rfl) ?_
  repeat (quiet_step (first | (go_at_call 10; exact Calls.later ((count_any m _ hm).mono (fun e w' h => ⟨by rw [h.1, HC.out], by rw [h.2]; exact Below.refl _ _⟩)))))
  refine wpQuiet_nil ?_
  rintro w2 ⟨⟨_, hb2⟩, rfl⟩
  clear d0
  go_wp2_with fail
  refine ((callsIn_wide (n := 0)).1 (lows_in Fence.wide 0 trivial rfl _ _)).mono ?_
  rintro e w3 ⟨rfl, rfl⟩
  go_wp2_with fail
  have hB2 := HB0.out.trans (hb2.mono HB0.out.size)
  have lw := hb2.size
  have l0 := lt_of_block HX.out
  have hn2 : w2.heap[w.heap.size]? = some (.cells #[.int .i64 k] 3 (0, 0)) := (hb2.block _ l0).trans HX.out
  obtain ⟨o, ho⟩ : ∃ o, w2.heap.size = o := ⟨_, rfl⟩
  have cn : ((w2.alloc (.cells #[.int .u64 0] 22)).alloc (.cells #[.int .u64 m] 22)).heap[w.heap.size]? = some (.cells #[.int .i64 k] 3 (0, 0)) := alloc_other (alloc_other hn2)
  have co : ((w2.alloc (.cells #[.int .u64 0] 22)).alloc (.cells #[.int .u64 m] 22)).heap[o]? = some (.cells #[.int .u64 0] 22 (0, 0)) := alloc_other (by rw [← ho]; exact World.alloc_heap_new _ _)
  have cm : ((w2.alloc (.cells #[.int .u64 0] 22)).alloc (.cells #[.int .u64 m] 22)).heap[o + 1]? = some (.cells #[.int .u64 m] 22 (0, 0)) := by rw [← ho]; exact alloc2_new _ _ _
  have hB3 : Below w.heap.size w ((w2.alloc (.cells #[.int .u64 0] 22)).alloc (.cells #[.int .u64 m] 22)) := (hB2.alloc (by have := HB0.out.size; omega) _).alloc (by have := HB0.out.size; simp; omega) _
  have hsz : ((w2.alloc (.cells #[.int .u64 0] 22)).alloc (.cells #[.int .u64 m] 22)).heap.size = o + 2 := by simp [ho]
  rw [ho]
  try simp only [World.size_alloc, ho]
  generalize (w2.alloc (.cells #[.int .u64 0] 22)).alloc (.cells #[.int .u64 m] 22) = w4 at cn co cm hB3 hsz ⊢
  have lo : w.heap.size < o := by omega
  refine gen_act fun ACT hACT => ?_
  refine (wpIn_wide (n := 9)).1 ?_
  refine rangeFunc_cell (n := 9) rfl (by omega) (gf := 24) (lb := #[.pointer (some ⟨o + 1, 0, none⟩)]) (by rw [hACT]; rfl) trivial (enters_of Tryd.func24 (by kernel_rfl) rfl)
    (lows_stops Fence.wide 8 trivial rfl (by omega) (o + 1) m hm L HL.out w4 (by omega) (cell_of_block cm 0) (frozen_of_block cm 0))
    (fun h k => ⟨k.1.trans h.1, k.2.trans h.2⟩) (fun W l x x' hl _ _ _ => ⟨World.cell?_of_block (World.putObj_heap_other (by simp; omega)), World.frozen?_of_block (World.putObj_heap_other (by simp; omega))⟩) (Below.refl _ _) (fun _ => rfl)
    (fun pre W => pre.length ≤ k ∧ W.cell? ⟨o, 0, none⟩ = some (.int .u64 (orL pre : Nat)) ∧ W.frozen? ⟨o, 0, none⟩ = false ∧ W.cell? ⟨w.heap.size, 0, none⟩ = some (.int .i64 ((k : Int) - pre.length)) ∧ W.frozen? ⟨w.heap.size, 0, none⟩ = false ∧ Below w.heap.size w W)
    (fun c pre W => c = .exit 1 ∧ (∃ x, pre.dropLast ++ [x] = pre ∧ pre.dropLast.length = k) ∧ W.cell? ⟨o, 0, none⟩ = some (.int .u64 (orL pre.dropLast : Nat)) ∧ Below w.heap.size w W)
    (fun s A B row hs hg hr => ⟨hs.1, cell_kept hs.2.1 hg (fun r e => (hr r e).2), (frozen_kept hs.2.1 hg (fun r e => (hr r e).2)).trans hs.2.2.1, cell_kept hs.2.2.2.1 hg (fun r e => (hr r e).2), (frozen_kept hs.2.2.2.1 hg (fun r e => (hr r e).2)).trans hs.2.2.2.2.1, ownFrom_below (Nat.le_refl _) (by omega) s A B row hs.2.2.2.2.2 hg hr⟩)
    (fun c s A B row hs hg hr => ⟨hs.1, hs.2.1, cell_kept hs.2.2.1 hg (fun r e => (hr r e).2), ownFrom_below (Nat.le_refl _) (by omega) s A B row hs.2.2.2 hg hr⟩)
    (fun s A v hs => ⟨hs.1, (World.cell?_of_block (Below.heap_setCell _ _ _ _ (by simp))).trans hs.2.1, (World.frozen?_of_block (Below.heap_setCell _ _ _ _ (by simp))).trans hs.2.2.1, (World.cell?_of_block (Below.heap_setCell _ _ _ _ (by simp; omega))).trans hs.2.2.2.1, (World.frozen?_of_block (Below.heap_setCell _ _ _ _ (by simp; omega))).trans hs.2.2.2.2.1, hs.2.2.2.2.2.setCell (by simp; omega) _⟩)
    (fun c s A v hs => ⟨hs.1, hs.2.1, (World.cell?_of_block (Below.heap_setCell _ _ _ _ (by simp))).trans hs.2.2.1, hs.2.2.2.setCell (by simp; omega) _⟩)
    ⟨by simp, cell_of_block co 0, frozen_of_block co 0, by simpa using cell_of_block cn 0, frozen_of_block cn 0, hB3⟩
    (fun x => { tmps := (ACT.tmps.setIfInBounds 18 (.int .u64 ((ubit x : Nat) : Int))).setIfInBounds 7 (.int .u64 ((ubit x : Nat) : Int)), defers := [] }) ?assign ?body ?done ?stop
  case assign =>
    intro l x W K hK
    subst hACT
    gi_wp2
    exact hK
  case body =>
    rintro l pre x W ⟨hlen, hco, hfo, hcn, hfn, hB⟩ _
    subst hACT
    have HB := Lib.hid hB
    by_cases hk0 : pre.length = k
    · rw [show (k : Int) - pre.length = 0 by omega] at hcn
      have HK0 := Lib.hid hk0
      clear hk0 hlen hB
      gi_wp2
      exact ⟨KeepsOthers.refl _, rfl, ⟨x, by simp, by simpa using HK0.out⟩, by simpa using hco, HB.out⟩
    · have hlt : (0 : Int) < (k : Int) - pre.length := by omega
      have hne : ((k : Int) - pre.length == 0) = false := by simp; omega
      have ho := u64_or_nat (orL pre) (ubit x) (orL_lt pre) (ubit_lt x)
      have HO := Lib.hid ho
      clear ho hk0 hB
      have hno : w.heap.size ≠ o := by omega
      gi_wp2
      rw [HO.out]
      have s1 : ((W.setCell ⟨o, 0, none⟩ (.int .u64 ((orL pre ||| ubit x : Nat) : Int))).setCell ⟨w.heap.size, 0, none⟩ (.int .i64 ((k : Int) - pre.length - 1))).cell? ⟨o, 0, none⟩ = some (.int .u64 ((orL pre ||| ubit x : Nat) : Int)) :=
        (World.cell?_of_block (Below.heap_setCell _ _ _ _ (by simp; omega))).trans (World.cell?_setCell_same' _ _ _ (by rw [hco]; rfl))
      have s2 : ((W.setCell ⟨o, 0, none⟩ (.int .u64 ((orL pre ||| ubit x : Nat) : Int))).setCell ⟨w.heap.size, 0, none⟩ (.int .i64 ((k : Int) - pre.length - 1))).cell? ⟨w.heap.size, 0, none⟩ = some (.int .i64 ((k : Int) - pre.length - 1)) :=
        World.cell?_setCell_same' _ _ _ (by rw [World.cell?_of_block (Below.heap_setCell W ⟨o, 0, none⟩ _ w.heap.size hno), hcn]; rfl)
      refine ⟨(KeepsOthers.setCell _ _ _).trans (KeepsOthers.setCell _ _ _), ⟨?_, ?_⟩, ⟨by simp; omega, by rw [orL_snoc]; exact s1, by simpa using hfo, ?_, by simpa using hfn, (HB.out.setCell (by simp; omega) _).setCell (by simp) _⟩⟩
      · exact (World.cell?_of_block (Below.heap_setCell _ _ _ _ (by simp; omega))).trans (World.cell?_of_block (Below.heap_setCell _ _ _ _ (by simp)))
      · simp
      · rw [s2]
        congr 2
        simp; omega
  case done =>
    rintro D ys W hD rfl ⟨hlen, hco, hfo, hcn, hfn, hB⟩ hK
    subst hACT
    have HLEN := Lib.hid (show ys.take k = ys from List.take_of_length_le (by have := HLC.out; omega))
    have HB := Lib.hid hB
    clear hlen hB hcn hfn
    go_wp2_with fail
    refine HQ.out _ _ _ ⟨by simp, .inl ⟨_, _, rfl, run_takeDeferred hK, ?_⟩⟩
    refine ⟨_, results_tmp2 rfl _ _ _, ?_, HB.out.trans (belowK_b (w := w) (Nat.le_refl _) W D _ _ (by omega) hK rfl rfl)⟩
    rw [HN.out, ← orL_take HL.out, HLEN.out]
    rfl
  case stop =>
    rintro D cx pre W hD hpre ⟨rfl, ⟨x, hx, hlen⟩, hco, hB⟩ hK
    subst hACT
    have HLEN := Lib.hid (show L.take k = pre.dropLast by
      obtain ⟨r, hr⟩ := hpre
      obtain ⟨p0, rfl⟩ : ∃ p0, pre = p0 ++ [x] := ⟨_, hx.symm⟩
      simp only [List.dropLast_concat] at hlen ⊢
      rw [← hr, List.append_assoc, ← hlen, List.take_left])
    have HB := Lib.hid hB
    clear hlen hB hx hpre
    refine wpIn_wide.2 ?_
    go_wp2_with fail
    refine HQ.out _ _ _ ⟨by simp, .inl ⟨_, _, rfl, run_takeDeferred hK, ?_⟩⟩
    refine ⟨_, results_tmp2 rfl _ _ _, ?_, HB.out.trans (belowK_b (w := w) (Nat.le_refl _) W D _ _ (by omega) hK rfl rfl)⟩
    rw [HN.out, ← orL_take HL.out, HLEN.out]
    rfl

theorem cnt_le (m : Nat) : Mk.cnt m ≤ 64 := by
  rw [← Mk.units_len]
  have : ∀ (k o m : Nat), (Mk.us o k m).length ≤ k := fun k => by
    induction k with
    | zero => intro o m; simp [Mk.us]
    | succ k ih =>
      intro o m
      simp only [Mk.us]
      have := ih (o + 1) (m / 2)
      split <;> simp <;> omega
  exact this 64 0 m

theorem lowest_any (m : Nat) (n : Int) (w : World) (hm : m < 18446744073709551616) : Calls Tryd.prog 9 #[.int .u64 m, .int .i64 n] w fun e w' => LowestPost m n w e w' := by
  by_cases h0 : n < 0
  · exact lowest_neg m n w hm h0
  · by_cases h1 : (Mk.cnt m : Int) < n
    · exact lowest_many m n w hm (by omega) h1
    · obtain ⟨k, rfl⟩ : ∃ k : Nat, n = k := ⟨n.toNat, by omega⟩
      exact lowest_some m k w hm (by omega) (by have := cnt_le m; omega)
end Go.Proofs.YtcfckooammacmaaDoor
