/-
  queue: New.
-/
import Derived.Test.YtobdbjkhajinbaaQueue3
set_option linter.unusedVariables false
set_option linter.unusedSimpArgs false
namespace Go.Proofs.Ytobdbjkhajinbaa
open Go.RowKit
theorem infoRow : (Try.prog.info? 39).map (fun i => (i.zero, i.size, i.bytes)) = some (some (.slice none 0 0), 1, 24) := by kernel_rfl
def rightQ (rooms : List Int) : Bool := decide (1 ≤ rooms.length) && decide (rooms.length ≤ 8) && !rooms.any badN
theorem own_ints {w : World} {base : Nat} {u : Value} {xs : List Int} {n : Nat} (h : w.ownsRow base 3 1 u n (xs.flatMap I64.cells)) (hn : xs.length = n) (hne : xs ≠ []) :
    ∃ g cap cs, u = .slice (some ⟨g, 0, none⟩) n cap ∧ base ≤ g ∧ w.heap[g]? = some (.cells cs 3 (0, 0)) ∧ ∀ (i : Nat) (hi : i < xs.length), cs[i]? = some (.int .i64 xs[i]) := by
  subst hn
  obtain ⟨hl, ⟨_, h0⟩ | ⟨g, cap, cur, rfl, hg, hc, hn, hm, hs, ht⟩⟩ := h
  · exact absurd (List.length_eq_zero_iff.1 h0) hne
  · refine ⟨g, cap, cur, rfl, hg, hc, fun i hi => ?_⟩
    have e1 : ∀ ys : List Int, ys.flatMap I64.cells = ys.map (Value.int .i64) := fun ys => by
      induction ys with
      | nil => rfl
      | cons y r ih => rw [List.flatMap_cons, ih]; rfl
    rw [e1] at ht
    have ht2 : cur.toList.take (xs.length * 1) = xs.map (Value.int .i64) := ht
    have h1 : (xs.map (Value.int .i64))[i]? = some (.int .i64 xs[i]) := by rw [List.getElem?_map, List.getElem?_eq_getElem hi]; rfl
    rw [← ht2, List.getElem?_take, if_pos (by omega), Array.getElem?_toList] at h1
    exact h1
theorem QAt.make {w : World} {base p R M cm : Nat} {rooms : List Int} {cs : Array Value} (hn : rooms.length ≤ 8) (hp : w.heap[p]? = some (.cells #[.slice (some ⟨R, 0, none⟩) rooms.length rooms.length, .slice (some ⟨M, 0, none⟩) rooms.length cm] 66 (0, 0)))
    (hR0 : w.heap[R]? = some (.cells (Array.replicate rooms.length (Value.slice none 0 0)) 39 (0, 0))) (hM : w.heap[M]? = some (.cells cs 3 (0, 0))) (hc : ∀ (i : Nat) (h : i < rooms.length), cs[i]? = some (.int .i64 rooms[i]))
    (ho : base ≤ p ∧ base ≤ R ∧ base ≤ M ∧ p ≠ R ∧ p ≠ M ∧ R ≠ M) : QAt w base p R M (List.replicate rooms.length (.slice none 0 0)) (List.replicate rooms.length []) rooms := by
  have hR : w.heap[R]? = some (.cells (List.replicate rooms.length (Value.slice none 0 0)).toArray 39 (0, 0)) := by rw [hR0]; simp
  have rep : ∀ (i : Nat) (v : Value), (List.replicate rooms.length (Value.slice none 0 0))[i]? = some v → v = .slice none 0 0 := fun i v h => by
    rw [List.getElem?_replicate] at h
    split at h
    · exact (Option.some.inj h).symm
    · cases h
  refine ⟨⟨cm, hp⟩, by simp, by simp, hn, hR, ⟨cs, hM, hc⟩, fun i hi => ?_, fun i j v u g _ hv _ hg => ?_, ho, fun i v g hv hg => ?_⟩
  · have hi' : i < rooms.length := by simpa using hi
    refine ⟨none, 0, ?_, ?_⟩
    · rw [List.getElem?_replicate, if_pos hi']; simp
    · simp only [List.getElem_replicate]; exact World.ownsRow_nil _ _ _ _
  · rw [rep i v hv] at hg; simp [Value.ownBlock] at hg
  · rw [rep i v hv] at hg; simp [Value.ownBlock] at hg
/-- what New leaves -/
def NewP (rooms : List Int) (w : World) (e : Ending) (w' : World) : Prop :=
  Below w.heap.size w w' ∧ if rightQ rooms = true then ∃ p R M, e = .returned (.tuple #[.pointer (some ⟨p, 0, none⟩), .int .i64 0]) ∧ QAt w' w.heap.size p R M (List.replicate rooms.length (.slice none 0 0)) (List.replicate rooms.length []) rooms
    else e = .returned (.tuple #[.pointer none, .int .i64 1])
theorem made_rep (n : Nat) : madeCells #[.slice none 0 0] n = Array.replicate n (Value.slice none 0 0) := by
  unfold madeCells
  apply Array.ext
  · simp
  · intro i h1 h2
    simp [Nat.mod_one]
theorem run_make_rows (w : World) (n : Nat) (hn : n ≤ 8) : (Instr.makeSlice 63 (.int .i64 n) (.int .i64 n)).run Try.prog w = .ok (.slice (some ⟨w.heap.size, 0, none⟩) n n) (w.alloc (.cells (Array.replicate n (Value.slice none 0 0)) 39)) := by
  obtain ⟨i0, hi0, hz0, hz1, hz2⟩ := info_parts infoRow
  have := run_makeSlice (P := Try.prog) w 63 39 i0 _ Try.underlying63 hi0 hz0 .i64 .i64 n n (by omega) (by omega) (by rw [hz1]; omega) (by rw [hz2]; omega) (by omega)
  simp only [hz1, Nat.mul_one, Int.toNat_natCast] at this
  have e : (Value.slice none 0 0).cells = #[.slice none 0 0] := rfl
  rw [e, made_rep n] at this
  exact this
set_option maxHeartbeats 2000000 in
theorem new_any (v : Value) (rooms : List Int) (w : World) (h : Rd.SliceOf w v 1 I64.cells rooms) (hl : rooms.length ≤ maxLen) : Calls Try.prog 10 #[v] w (NewP rooms w) := by
  obtain ⟨a, cap, rfl⟩ := h.form
  obtain ⟨n, hn⟩ : ∃ n, rooms.length = n := ⟨_, rfl⟩
  have hl63 : n ≤ 9223372036854775807 := hn ▸ hl
  have HCT := Lib.hid (fun w' (hb : Below w.heap.size w w') => contains_any _ rooms w' (h.later hb) hl)
  have H := Lib.hid h; have HN := Lib.hid hn
  rw [hn] at HCT ⊢
  by_cases h1 : n < 1
  · have d1 : decide ((n : Int) < 1) = true := by simp; omega
    have hr : rightQ rooms = false := by unfold rightQ; rw [hn, decide_eq_false (show ¬ 1 ≤ n by omega)]; rfl
    have HR := Lib.hid hr
    clear h hn hr hl h1
    go_enter Try.func10, Try.ntmps10
    go_wp2_with fail
    refine bodyPost_ret (results_tmp2 rfl _ _ _) rfl ?_
    exact ⟨Below.refl _ _, by rw [if_neg (by rw [HR.out]; decide)]; rfl⟩
  by_cases h2 : 8 < n
  · have d1 : decide ((n : Int) < 1) = false := by simp; omega
    have d2 : decide (8 < (n : Int)) = true := by simp; omega
    have hr : rightQ rooms = false := by unfold rightQ; rw [hn, decide_eq_false (show ¬ n ≤ 8 by omega), Bool.and_false, Bool.false_and]
    have HR := Lib.hid hr
    clear h hn hr hl h1 h2
    go_enter Try.func10, Try.ntmps10
    go_wp2_with fail
    refine bodyPost_ret (results_tmp2 rfl _ _ _) rfl ?_
    exact ⟨Below.refl _ _, by rw [if_neg (by rw [HR.out]; decide)]; rfl⟩
  have d1 : decide ((n : Int) < 1) = false := by simp; omega
  have d2 : decide (8 < (n : Int)) = false := by simp; omega
  have hn8 : n ≤ 8 := by omega
  have hne : rooms ≠ [] := fun e => by rw [e] at hn; simp at hn; omega
  obtain ⟨b, hb⟩ : ∃ b, rooms.any badN = b := ⟨_, rfl⟩
  have hr : rightQ rooms = !b := by unfold rightQ; rw [hn, decide_eq_true (show 1 ≤ n by omega), decide_eq_true hn8, hb]; rfl
  have HR := Lib.hid hr
  rw [hb] at HCT
  have HNE := Lib.hid hne
  clear h hn hr h1 h2 hb hne
  cases b with
  | true =>
    go_enter Try.func10, Try.ntmps10
    go_wp2_with fail
    refine (HCT.out _ (Below.refl _ _)).mono ?_
    rintro e z ⟨rfl, hz⟩
    replace hz := hz.symm
    subst hz
    go_wp2_with fail
    refine bodyPost_ret (results_tmp2 rfl _ _ _) rfl ?_
    exact ⟨Below.refl _ _, by rw [if_neg (by rw [HR.out]; decide)]; rfl⟩
  | false =>
    go_enter Try.func10, Try.ntmps10
    go_wp2_with fail
    refine (HCT.out _ (Below.refl _ _)).mono ?_
    rintro e z ⟨rfl, hz⟩
    replace hz := hz.symm
    subst hz
    go_upto_region 3 with fail
    have hmk := fun w : World => run_make_rows w n hn8
    have fx0 := (Below.refl w.heap.size w).drew
    refine Rg.wp_region_tree (by kernel_rfl) [0, 1, 3] (.two 2 (.one 4 (.fin [5, 6, 7, 8])) 4 (.one 2 (.fin [5, 6, 7, 8]))) 7 (by kernel_rfl) (by kernel_rfl) (by kernel_rfl) (by kernel_rfl) (fun w' => ∃ y : Later w, w' = y.wd) (fun c a a' w hd h => ⟨hd.symm.trans h.1, h.2⟩) ⟨⟨_, fx0⟩, rfl⟩ ?_
    simp only [Rg.picks, List.getElem?_cons_succ, List.getElem?_cons_zero, Option.toList, List.cons_append, List.nil_append]
    iterate 3 (quiet_step (fail))
    refine wpQuiet_nil ?_
    simp only [Rg.wpQ, Rg.pickn, List.getElem?_cons_succ, List.getElem?_cons_zero, Option.toList, List.map_cons, List.map_nil, List.cons_append, List.nil_append]
    have HCL := Lib.hid (fun w' (hb : Below w.heap.size w w') => clone_any _ rooms w' (H.out.later hb) (by rw [HN.out]; omega) HNE.out)
    rw [HN.out] at HCL
    refine ⟨?_, ?_⟩
    · refine Rg.wp1_step (fun K hK => ?_) ⟨⟨_, fx0⟩, rfl⟩
      go_simp
      have hb1 : Below w.heap.size w (w.alloc (.cells (Array.replicate n (Value.slice none 0 0)) 39)).drew := ((Below.refl _ _).alloc (Nat.le_refl _) _).drew
      have kR : (w.alloc (.cells (Array.replicate n (Value.slice none 0 0)) 39)).drew.heap[w.heap.size]? = some (.cells (Array.replicate n (Value.slice none 0 0)) 39 (0, 0)) := World.alloc_heap_new w (.cells (Array.replicate n (Value.slice none 0 0)) 39)
      refine hK _ _ (fun _ => ⟨⟨_, hb1⟩, rfl⟩) ?_
      clear hK K
      obtain ⟨RR, hRR⟩ : ∃ R, w.heap.size = R := ⟨_, rfl⟩
      have HBR := Lib.hid (show w.heap.size ≤ RR by omega)
      rw [hRR] at kR
      generalize (w.alloc (.cells (Array.replicate n (Value.slice none 0 0)) 39)).drew = w1 at hb1 kR ⊢
      rw [show (⟨w.heap.size, 0, none⟩ : Addr) = ⟨RR, 0, none⟩ by rw [hRR]]
      have HB1 := Lib.hid hb1; have HKR := Lib.hid kR
      clear hb1 kR hRR fx0 hmk
      refine Rg.wp1_step (fun K hK => ?_) ⟨⟨_, HB1.out⟩, rfl⟩
      go_simp
      refine (HCL.out _ HB1.out).mono ?_
      rintro e w2 ⟨u, rfl, ho, hb⟩
      have hu := own_ints (xs := rooms) ho HN.out HNE.out
      obtain ⟨g, cm, cs, rfl, hg, hM, hcs⟩ := hu
      have HCS := Lib.hid (show ∀ (i : Nat) (hi : i < rooms.length), cs[i]? = some (.int .i64 rooms[i]) from hcs)
      have HB2 := Lib.hid (HB1.out.trans (hb.mono HB1.out.size)); have HM2 := Lib.hid hM; have HR2 := Lib.hid ((hb.block _ (lt_of_block HKR.out)).trans HKR.out)
      have HBG := Lib.hid (show w.heap.size ≤ g by have := HB1.out.size; omega)
      have HNE2 := Lib.hid (show RR ≠ g by have := lt_of_block HKR.out; omega)
      clear ho hb hg hM hcs
      refine hK _ _ (fun _ => ⟨⟨_, HB2.out⟩, rfl⟩) ?_
      clear hK K
      refine Rg.wpN_step (fun K hK => ?_) ⟨⟨_, HB2.out⟩, rfl⟩
      go_simp
      refine hK _ _ (fun _ => ⟨⟨_, HB2.out⟩, rfl⟩) ?_
      clear hK K
      have hb3 := HB2.out.alloc HB2.out.size (.cells #[.slice (some ⟨RR, 0, none⟩) n n, .slice (some ⟨g, 0, none⟩) n cm] 66)
      have kP := World.alloc_heap_new w2 (.cells #[.slice (some ⟨RR, 0, none⟩) n n, .slice (some ⟨g, 0, none⟩) n cm] 66)
      have hR3 := alloc_other (o' := .cells #[.slice (some ⟨RR, 0, none⟩) n n, .slice (some ⟨g, 0, none⟩) n cm] 66) HR2.out
      have hM3 := alloc_other (o' := .cells #[.slice (some ⟨RR, 0, none⟩) n n, .slice (some ⟨g, 0, none⟩) n cm] 66) HM2.out
      have hPR : w2.heap.size ≠ RR := by have := lt_of_block HR2.out; omega
      have hPM : w2.heap.size ≠ g := by have := lt_of_block HM2.out; omega
      have HB3 := Lib.hid hb3; have HKP := Lib.hid kP; have HR3 := Lib.hid hR3; have HM3 := Lib.hid hM3
      clear hb3 kP hR3 hM3
      refine Rg.wpN_step (fun K hK => ?_) ⟨⟨_, HB2.out⟩, rfl⟩
      go_simp
      refine hK _ _ (fun _ => ⟨⟨_, HB3.out⟩, rfl⟩) ?_
      clear hK K
      refine Rg.wpN_list (by decide) ?_
      simp only [List.map_cons, List.map_nil]
      go_wp2_with fail
      refine bodyPost_ret (results_tmp2 rfl _ _ _) rfl ?_
      refine ⟨HB3.out, ?_⟩
      rw [if_pos (by rw [HR.out]; rfl)]
      refine ⟨w2.heap.size, RR, g, rfl, ?_⟩
      have hq := QAt.make (base := w.heap.size) (p := w2.heap.size) (R := RR) (M := g) (cm := cm) (rooms := rooms) (cs := cs) (by rw [HN.out]; exact hn8) (by rw [HN.out]; exact HKP.out) (by rw [HN.out]; exact HR3.out) HM3.out HCS.out ⟨HB2.out.size, HBR.out, HBG.out, hPR, hPM, HNE2.out⟩
      exact hq
    · refine Rg.wp1_step (fun K hK => ?_) ⟨⟨_, fx0⟩, rfl⟩
      go_simp
      refine (HCL.out _ fx0).mono ?_
      rintro e w1 ⟨u, rfl, ho, hb⟩
      have hu := own_ints (xs := rooms) ho HN.out HNE.out
      obtain ⟨g, cm, cs, rfl, hg, hM, hcs⟩ := hu
      have HCS := Lib.hid (show ∀ (i : Nat) (hi : i < rooms.length), cs[i]? = some (.int .i64 rooms[i]) from hcs)
      have hb1 := fx0.trans (hb.mono fx0.size)
      have HB1 := Lib.hid hb1; have HM1 := Lib.hid hM
      have HBG := Lib.hid (show w.heap.size ≤ g from hg)
      refine hK _ _ (fun _ => ⟨⟨_, HB1.out⟩, rfl⟩) ?_
      clear hK K ho hb hg hM hcs fx0 hb1
      refine Rg.wp1_step (fun K hK => ?_) ⟨⟨_, HB1.out⟩, rfl⟩
      go_simp
      have hb2 := HB1.out.alloc HB1.out.size (.cells (Array.replicate n (Value.slice none 0 0)) 39)
      have kR := World.alloc_heap_new w1 (.cells (Array.replicate n (Value.slice none 0 0)) 39)
      have hM2 := alloc_other (o' := (.cells (Array.replicate n (Value.slice none 0 0)) 39)) HM1.out
      refine hK _ _ (fun _ => ⟨⟨_, hb2⟩, rfl⟩) ?_
      clear hK K
      obtain ⟨RR, hRR⟩ : ∃ R, w1.heap.size = R := ⟨_, rfl⟩
      have HBR := Lib.hid (show w.heap.size ≤ RR by have := HB1.out.size; omega)
      have HNE2 := Lib.hid (show RR ≠ g by have := lt_of_block HM1.out; omega)
      rw [hRR] at kR
      generalize w1.alloc (.cells (Array.replicate n (Value.slice none 0 0)) 39) = w2 at hb2 kR hM2 ⊢
      rw [show (⟨w1.heap.size, 0, none⟩ : Addr) = ⟨RR, 0, none⟩ by rw [hRR]]
      have HB2 := Lib.hid hb2; have HR2 := Lib.hid kR; have HM2 := Lib.hid hM2
      clear hb2 kR hM2 hRR hmk
      refine Rg.wpN_step (fun K hK => ?_) ⟨⟨_, HB2.out⟩, rfl⟩
      go_simp
      refine hK _ _ (fun _ => ⟨⟨_, HB2.out⟩, rfl⟩) ?_
      clear hK K
      have hb3 := HB2.out.alloc HB2.out.size (.cells #[.slice (some ⟨RR, 0, none⟩) n n, .slice (some ⟨g, 0, none⟩) n cm] 66)
      have kP := World.alloc_heap_new w2 (.cells #[.slice (some ⟨RR, 0, none⟩) n n, .slice (some ⟨g, 0, none⟩) n cm] 66)
      have hR3 := alloc_other (o' := .cells #[.slice (some ⟨RR, 0, none⟩) n n, .slice (some ⟨g, 0, none⟩) n cm] 66) HR2.out
      have hM3 := alloc_other (o' := .cells #[.slice (some ⟨RR, 0, none⟩) n n, .slice (some ⟨g, 0, none⟩) n cm] 66) HM2.out
      have hPR : w2.heap.size ≠ RR := by have := lt_of_block HR2.out; omega
      have hPM : w2.heap.size ≠ g := by have := lt_of_block HM2.out; omega
      have HB3 := Lib.hid hb3; have HKP := Lib.hid kP; have HR3 := Lib.hid hR3; have HM3 := Lib.hid hM3
      clear hb3 kP hR3 hM3
      refine Rg.wpN_step (fun K hK => ?_) ⟨⟨_, HB2.out⟩, rfl⟩
      go_simp
      refine hK _ _ (fun _ => ⟨⟨_, HB3.out⟩, rfl⟩) ?_
      clear hK K
      refine Rg.wpN_list (by decide) ?_
      simp only [List.map_cons, List.map_nil]
      go_wp2_with fail
      refine bodyPost_ret (results_tmp2 rfl _ _ _) rfl ?_
      refine ⟨HB3.out, ?_⟩
      rw [if_pos (by rw [HR.out]; rfl)]
      refine ⟨w2.heap.size, RR, g, rfl, ?_⟩
      have hq := QAt.make (base := w.heap.size) (p := w2.heap.size) (R := RR) (M := g) (cm := cm) (rooms := rooms) (cs := cs) (by rw [HN.out]; exact hn8) (by rw [HN.out]; exact HKP.out) (by rw [HN.out]; exact HR3.out) HM3.out HCS.out ⟨HB2.out.size, HBR.out, HBG.out, hPR, hPM, HNE2.out⟩
      exact hq
end Go.Proofs.Ytobdbjkhajinbaa
