/-
  The pool laws' awake.
-/
import Derived.Test.YtdmbjjladkdphaaPool8
set_option linter.unusedVariables false
set_option linter.unusedSimpArgs false
namespace Go.Proofs.Ytdmbjjladkdphaa
open Go.RowKit Go.Maps
variable {W w w' : World} {p nn : Nat} {A fr : List Fe} {dr : List Int} {L : List (Nat × Array Value × TypeId)}

/-- a later world in which a law's blocks are kept -/
structure KW (W : World) (L : List (Nat × Array Value × TypeId)) where
  wd : World
  k : Kept W wd L
theorem nodes_made {w : World} {k : Nat} {us : List Value} {t : TypeId} {ns : List (List Dm)} (hb : w.heap[k]? = some (.cells us.toArray t (0, 0))) (hl : us.length = ns.length) (hm : ns.length ≤ maxLen)
    (h : ∀ (i : Nat) (h : i < ns.length) (u : Value), us[i]? = some u → Rd.SliceOf w u 2 Dm.cells ns[i]) : NodesOf w (.slice (some ⟨k, 0, none⟩) ns.length ns.length) ns := by
  refine .inr ⟨_, _, rfl, Nat.le_refl _, hm, fun i hi => ?_⟩
  have hadd : (⟨k, 0, none⟩ : Addr).add i = ⟨k, i, none⟩ := by
    unfold Addr.add
    split
    · rename_i e'; rw [e']
    · simp
  have hu : us[i]? = some us[i] := List.getElem?_eq_getElem (by omega)
  refine ⟨us[i], ?_, h i hi _ hu⟩
  rw [hadd, cell_of_block hb, List.getElem?_toArray, hu]
/-- one slot that a law has laid by itself -/
theorem slRow_one {b : Nat} {s : Sl} {t : TypeId} (h : w.heap[b]? = some (.cells #[.int .i64 s.spot.node, .int .i64 s.spot.domain, .int .u64 s.mask, .int .i64 s.cpus] t (0, 0))) : SlRow w (.slice (some ⟨b, 0, none⟩) 1 1) [s] := by
  refine ⟨_, 1, rfl, by unfold maxLen; simp, fun k hk => ⟨b, 0, rfl, lt_of_block h, fun j hj => ?_⟩⟩
  have hk0 : k = 0 := by simp at hk; exact hk
  subst hk0
  rw [cell_of_block h, ← Array.getElem?_toList]
  simp [Sl.cells]
theorem PK.takeOne (h : PK W w p nn A fr dr L) (s : Sl) (hs : SlOk s) {b : Nat} {t : TypeId} (hb : (b, #[.int .i64 s.spot.node, .int .i64 s.spot.domain, .int .u64 s.mask, .int .i64 s.cpus], t) ∈ L) (hl : A.length ≤ 1000000) :
    Calls Try.prog 14 #[.pointer (some ⟨p, 0, none⟩), .slice (some ⟨b, 0, none⟩) 1 1] w fun e w' => e = .returned (.int .i64 (eachF (opT dr) A fr [s]).1) ∧ PK W w' p nn A (eachF (opT dr) A fr [s]).2 dr L :=
  h.take (slRow_one (h.kept.blk _ hb)) (fun q hq _ => .inr ⟨_, hb, by simpa [Value.ownBlock] using hq⟩) (by simpa using hs) hl
theorem PK.giveOne (h : PK W w p nn A fr dr L) (s : Sl) (hs : SlOk s) {b : Nat} {t : TypeId} (hb : (b, #[.int .i64 s.spot.node, .int .i64 s.spot.domain, .int .u64 s.mask, .int .i64 s.cpus], t) ∈ L) (hl : A.length ≤ 1000000) : Calls Try.prog 21 #[.pointer (some ⟨p, 0, none⟩), .slice (some ⟨b, 0, none⟩) 1 1] w fun e w' => e = .returned (.int .i64 (eachF (opG A) A fr [s]).1) ∧ PK W w' p nn A (eachF (opG A) A fr [s]).2 dr L :=
  h.give (slRow_one (h.kept.blk _ hb)) (fun q hq _ => .inr ⟨_, hb, by simpa [Value.ownBlock] using hq⟩) (by simpa using hs) hl

set_option maxRecDepth 100000 in
set_option maxHeartbeats 4000000 in
theorem awake_any (W : World) : Calls Try.prog 9 #[] W fun e w' => e = .returned (.bool true) ∧ Below W.heap.size W w' := by
  have K0 := ((Kept.start W).new #[.int .i64 4, .int .i64 8] 66).new #[.slice (some ⟨W.heap.size, 0, none⟩) 1 1] 69
  have h0 : ((W.alloc (.cells #[.int .i64 4, .int .i64 8] 66)).alloc (.cells #[.slice (some ⟨W.heap.size, 0, none⟩) 1 1] 69)).heap[W.heap.size]? = some (.cells #[.int .i64 4, .int .i64 8] 66 (0, 0)) := alloc_other (World.alloc_heap_new _ _)
  have h1 := alloc2_new W (.cells #[.int .i64 4, .int .i64 8] 66) (.cells #[.slice (some ⟨W.heap.size, 0, none⟩) 1 1] 69)
  have HNO := Lib.hid (nodes_made (ns := [[⟨4, 8⟩]]) (us := [.slice (some ⟨W.heap.size, 0, none⟩) 1 1]) h1 rfl (by unfold maxLen; simp) (fun i hi u hu => by
    have hi' : i = 0 := by simp at hi; omega
    subst hi'
    simp at hu; subst hu
    have := Rd.SliceOf.of_block (sz := 2) (cells := Dm.cells) (xs := [⟨4, 8⟩]) h0 (by unfold maxLen; simp) (fun i hi j hj => by
      have hi' : i = 0 := by simp at hi; omega
      subst hi'
      have hj' : j = 0 ∨ j = 1 := by simp [Dm.cells] at hj; omega
      rcases hj' with rfl | rfl <;> rfl)
    simpa using this))
  have HOK := Lib.hid (show nodesOk [[⟨4, 8⟩]] = true by decide)
  have HALL := Lib.hid (show allG 0 [[⟨4, 8⟩]] = [⟨⟨0, 0⟩, 15, 8⟩] by rfl)
  have HNEW := Lib.hid (pnew_any _ _ _ HNO.out (K0.weaken (L' := []) (by simp)) (by rw [HALL.out]; simp))
  have HT1 := Lib.hid (show eachF (opT []) [⟨⟨0, 0⟩, 15, 8⟩] [⟨⟨0, 0⟩, 15, 8⟩] [⟨⟨0, 0⟩, 3, 4⟩] = (0, [⟨⟨0, 0⟩, 12, 4⟩]) by rfl)
  have HT2 := Lib.hid (show eachF (opT []) [⟨⟨0, 0⟩, 15, 8⟩] [⟨⟨0, 0⟩, 12, 4⟩] [⟨⟨0, 0⟩, 3, 4⟩] = (5, [⟨⟨0, 0⟩, 12, 4⟩]) by rfl)
  have HSOK := Lib.hid (show SlOk ⟨⟨0, 0⟩, 3, 4⟩ from ⟨⟨okInt_small (by decide) (by decide), okInt_small (by decide) (by decide)⟩, by decide, okInt_small (by decide) (by decide)⟩)
  clear K0 h0 h1
  go_enter Try.func9, Try.ntmps9
  go_wp2_with fail
  refine HNEW.out.mono ?_
  rintro e w1 hp
  unfold PNew at hp
  obtain ⟨hno, _⟩ | ⟨_, p, rfl, hP⟩ := hp
  · rw [HOK.out] at hno; cases hno
  rw [HALL.out] at hP
  have HP := Lib.hid hP
  have hs1 := hP.kept.size
  have HS1 := Lib.hid hs1
  clear hP hs1
  go_upto_region 5 with fail
  have P2 := HP.out.new #[.int .i64 0, .int .i64 0, .int .u64 3, .int .i64 4] 44
  obtain ⟨B, hB⟩ : ∃ B, w1.heap.size = B := ⟨_, rfl⟩
  rw [hB] at P2 ⊢
  generalize w1.alloc (.cells #[.int .i64 0, .int .i64 0, .int .u64 3, .int .i64 4] 44) = w2 at P2 ⊢
  have d0 : ∀ y : KW W [(B, #[.int .i64 0, .int .i64 0, .int .u64 3, .int .i64 4], 44)], y.wd.cell? ⟨B, 0, none⟩ = some (.int .i64 0) := fun y => cell_of_block (y.k.blk _ (List.mem_cons_self ..)) 0
  have d1 : ∀ y : KW W [(B, #[.int .i64 0, .int .i64 0, .int .u64 3, .int .i64 4], 44)], y.wd.cell? ⟨B, 1, none⟩ = some (.int .i64 0) := fun y => cell_of_block (y.k.blk _ (List.mem_cons_self ..)) 1
  have d2 : ∀ y : KW W [(B, #[.int .i64 0, .int .i64 0, .int .u64 3, .int .i64 4], 44)], y.wd.cell? ⟨B, 2, none⟩ = some (.int .u64 3) := fun y => cell_of_block (y.k.blk _ (List.mem_cons_self ..)) 2
  have d3 : ∀ y : KW W [(B, #[.int .i64 0, .int .i64 0, .int .u64 3, .int .i64 4], 44)], y.wd.cell? ⟨B, 3, none⟩ = some (.int .i64 4) := fun y => cell_of_block (y.k.blk _ (List.mem_cons_self ..)) 3
  have P3 := P2.drew
  go_cut [4, 5] from 6 (fun a4 a5 wy => ∃ wx : World, wx = wy ∧ a4 = .int .i64 0 ∧ a5 = .int .i64 5 ∧ PK W wx p 1 [⟨⟨0, 0⟩, 15, 8⟩] [⟨⟨0, 0⟩, 12, 4⟩] [] [])
  case rest =>
    obtain ⟨wx, rfl, rfl, rfl, P9⟩ := hcut
    have HF := Lib.hid (P9.free (by simp))
    clear d0 d1 d2 d3 P2 P3 P9
    go_wp2_with fail
    refine HF.out.mono ?_
    rintro e w4 ⟨rfl, P4, _⟩
    have k4 := P4.kept.blk _ (List.mem_cons_self ..)
    have e2 : w4.cell? ⟨wx.heap.size, 2, none⟩ = some (.int .u64 12) := cell_of_block k4 2
    have e3 : w4.cell? ⟨wx.heap.size, 3, none⟩ = some (.int .i64 4) := cell_of_block k4 3
    have e0 : w4.cell? ⟨wx.heap.size, 0, none⟩ = some (.int .i64 0) := cell_of_block k4 0
    have lk := lt_of_block k4
    have HB4 := Lib.hid P4.kept.below
    clear P4 k4
    simp only [List.length_cons, List.length_nil]
    go_wp2
    go_ret
    exact ⟨rfl, HB4.out⟩
  haveI : Nonempty (KW W [(B, #[.int .i64 0, .int .i64 0, .int .u64 3, .int .i64 4], 44)]) := ⟨⟨_, P3.kept⟩⟩
  refine Rg.wp_region_tree (by kernel_rfl) [0, 1, 4, 5] (.two 2 (.two 3 (.one 6 (.fin [7, 8, 9])) 6 (.one 3 (.fin [7, 8, 9]))) 6 (.one 2 (.one 3 (.fin [7, 8, 9])))) 9 (by kernel_rfl) (by kernel_rfl) (by kernel_rfl) (by kernel_rfl) (fun w' => ∃ y : KW W [(B, #[.int .i64 0, .int .i64 0, .int .u64 3, .int .i64 4], 44)], w' = y.wd) (fun c a a' w hd h => ⟨hd.symm.trans h.1, h.2⟩) ⟨⟨_, P3.kept⟩, rfl⟩ ?_
  simp only [Rg.picks, List.getElem?_cons_succ, List.getElem?_cons_zero, Option.toList, List.cons_append, List.nil_append]
  repeat (quiet_step (fail))
  refine wpQuiet_nil ?_
  clear d0 d1 d2 d3 P2
  simp only [Rg.wpQ, Rg.pickn, List.getElem?_cons_succ, List.getElem?_cons_zero, Option.toList, List.map_cons, List.map_nil, List.cons_append, List.nil_append]
  generalize w2.drew = w2 at P3 ⊢
  have HP2 := Lib.hid P3
  clear P3
  constructor
  · have P3 := HP2.out.new #[.int .i64 0, .int .i64 0, .int .u64 3, .int .i64 4] 44
    refine Rg.wp1_step (fun K hK => ?_) ⟨⟨_, HP2.out.kept.weaken (by intro x hx; simp at hx ⊢; simp [hx])⟩, rfl⟩
    go_simp
    refine hK _ _ (fun _ => ⟨⟨_, P3.kept.weaken (by intro x hx; simp at hx ⊢; simp [hx])⟩, rfl⟩) ?_
    clear hK K
    obtain ⟨b3, hb3⟩ : ∃ b, w2.heap.size = b := ⟨_, rfl⟩
    rw [hb3] at P3 ⊢
    generalize w2.alloc (.cells #[.int .i64 0, .int .i64 0, .int .u64 3, .int .i64 4] 44) = v3 at P3 ⊢
    have HP3 := Lib.hid P3
    clear P3 hb3
    constructor
    · refine Rg.wp1_step (fun K hK => ?_) ⟨⟨_, HP3.out.kept.weaken (by intro x hx; simp at hx ⊢; simp [hx])⟩, rfl⟩
      go_simp
      refine (HP3.out.takeOne ⟨⟨0, 0⟩, 3, 4⟩ HSOK.out (b := b3) (t := 44) (by simp) (by simp)).mono ?_
      rintro e v4 ⟨rfl, P4⟩
      rw [HT1.out] at P4 ⊢
      have HP4 := Lib.hid P4
      clear P4
      refine hK _ _ (fun _ => ⟨⟨_, HP4.out.kept.weaken (by intro x hx; simp at hx ⊢; simp [hx])⟩, rfl⟩) ?_
      clear hK K
      have P5 := HP4.out.new #[.int .i64 0, .int .i64 0, .int .u64 3, .int .i64 4] 44
      refine Rg.wp1_step (fun K hK => ?_) ⟨⟨_, HP4.out.kept.weaken (by intro x hx; simp at hx ⊢; simp [hx])⟩, rfl⟩
      go_simp
      refine hK _ _ (fun _ => ⟨⟨_, P5.kept.weaken (by intro x hx; simp at hx ⊢; simp [hx])⟩, rfl⟩) ?_
      clear hK K
      obtain ⟨b5, hb5⟩ : ∃ b, v4.heap.size = b := ⟨_, rfl⟩
      rw [hb5] at P5 ⊢
      generalize v4.alloc (.cells #[.int .i64 0, .int .i64 0, .int .u64 3, .int .i64 4] 44) = v5 at P5 ⊢
      have HP5 := Lib.hid P5
      clear P5 hb5
      refine Rg.wpN_step (fun K hK => ?_) ⟨⟨_, HP5.out.kept.weaken (by intro x hx; simp at hx ⊢; simp [hx])⟩, rfl⟩
      go_simp
      refine (HP5.out.takeOne ⟨⟨0, 0⟩, 3, 4⟩ HSOK.out (b := b5) (t := 44) (by simp) (by simp)).mono ?_
      rintro e v6 ⟨rfl, P6⟩
      rw [HT2.out] at P6 ⊢
      have HP6 := Lib.hid P6
      clear P6
      refine hK _ _ (fun _ => ⟨⟨_, HP6.out.kept.weaken (by intro x hx; simp at hx ⊢; simp [hx])⟩, rfl⟩) ?_
      clear hK K
      refine Rg.wpN_step (fun K hK => ?_) ⟨⟨_, HP6.out.kept.weaken (by intro x hx; simp at hx ⊢; simp [hx])⟩, rfl⟩
      go_simp
      refine hK _ _ (fun _ => ⟨⟨_, HP6.out.kept.weaken (by intro x hx; simp at hx ⊢; simp [hx])⟩, rfl⟩) ?_
      clear hK K
      refine Rg.wpN_list (by simp) ?_
      simp only [List.map_cons, List.map_nil]
      go_wp2
      go_meet
      exact ⟨_, rfl, rfl, rfl, HP6.out.sub (by simp)⟩
    · have P4 := HP3.out.new #[.int .i64 0, .int .i64 0, .int .u64 3, .int .i64 4] 44
      refine Rg.wp1_step (fun K hK => ?_) ⟨⟨_, HP3.out.kept.weaken (by intro x hx; simp at hx ⊢; simp [hx])⟩, rfl⟩
      go_simp
      refine hK _ _ (fun _ => ⟨⟨_, P4.kept.weaken (by intro x hx; simp at hx ⊢; simp [hx])⟩, rfl⟩) ?_
      clear hK K
      obtain ⟨b4, hb4⟩ : ∃ b, v3.heap.size = b := ⟨_, rfl⟩
      rw [hb4] at P4 ⊢
      generalize v3.alloc (.cells #[.int .i64 0, .int .i64 0, .int .u64 3, .int .i64 4] 44) = v4 at P4 ⊢
      have HP4 := Lib.hid P4
      clear P4 hb4
      refine Rg.wp1_step (fun K hK => ?_) ⟨⟨_, HP4.out.kept.weaken (by intro x hx; simp at hx ⊢; simp [hx])⟩, rfl⟩
      go_simp
      refine (HP4.out.takeOne ⟨⟨0, 0⟩, 3, 4⟩ HSOK.out (b := b3) (t := 44) (by simp) (by simp)).mono ?_
      rintro e v5 ⟨rfl, P5⟩
      rw [HT1.out] at P5 ⊢
      have HP5 := Lib.hid P5
      clear P5
      refine hK _ _ (fun _ => ⟨⟨_, HP5.out.kept.weaken (by intro x hx; simp at hx ⊢; simp [hx])⟩, rfl⟩) ?_
      clear hK K
      refine Rg.wpN_step (fun K hK => ?_) ⟨⟨_, HP5.out.kept.weaken (by intro x hx; simp at hx ⊢; simp [hx])⟩, rfl⟩
      go_simp
      refine (HP5.out.takeOne ⟨⟨0, 0⟩, 3, 4⟩ HSOK.out (b := b4) (t := 44) (by simp) (by simp)).mono ?_
      rintro e v6 ⟨rfl, P6⟩
      rw [HT2.out] at P6 ⊢
      have HP6 := Lib.hid P6
      clear P6
      refine hK _ _ (fun _ => ⟨⟨_, HP6.out.kept.weaken (by intro x hx; simp at hx ⊢; simp [hx])⟩, rfl⟩) ?_
      clear hK K
      refine Rg.wpN_step (fun K hK => ?_) ⟨⟨_, HP6.out.kept.weaken (by intro x hx; simp at hx ⊢; simp [hx])⟩, rfl⟩
      go_simp
      refine hK _ _ (fun _ => ⟨⟨_, HP6.out.kept.weaken (by intro x hx; simp at hx ⊢; simp [hx])⟩, rfl⟩) ?_
      clear hK K
      refine Rg.wpN_list (by simp) ?_
      simp only [List.map_cons, List.map_nil]
      go_wp2
      go_meet
      exact ⟨_, rfl, rfl, rfl, HP6.out.sub (by simp)⟩
  · have P3 := HP2.out.new #[.int .i64 0, .int .i64 0, .int .u64 3, .int .i64 4] 44
    refine Rg.wp1_step (fun K hK => ?_) ⟨⟨_, HP2.out.kept.weaken (by intro x hx; simp at hx ⊢; simp [hx])⟩, rfl⟩
    go_simp
    refine hK _ _ (fun _ => ⟨⟨_, P3.kept.weaken (by intro x hx; simp at hx ⊢; simp [hx])⟩, rfl⟩) ?_
    clear hK K
    obtain ⟨b3, hb3⟩ : ∃ b, w2.heap.size = b := ⟨_, rfl⟩
    rw [hb3] at P3 ⊢
    generalize w2.alloc (.cells #[.int .i64 0, .int .i64 0, .int .u64 3, .int .i64 4] 44) = v3 at P3 ⊢
    have HP3 := Lib.hid P3
    clear P3 hb3
    have P4 := HP3.out.new #[.int .i64 0, .int .i64 0, .int .u64 3, .int .i64 4] 44
    refine Rg.wp1_step (fun K hK => ?_) ⟨⟨_, HP3.out.kept.weaken (by intro x hx; simp at hx ⊢; simp [hx])⟩, rfl⟩
    go_simp
    refine hK _ _ (fun _ => ⟨⟨_, P4.kept.weaken (by intro x hx; simp at hx ⊢; simp [hx])⟩, rfl⟩) ?_
    clear hK K
    obtain ⟨b4, hb4⟩ : ∃ b, v3.heap.size = b := ⟨_, rfl⟩
    rw [hb4] at P4 ⊢
    generalize v3.alloc (.cells #[.int .i64 0, .int .i64 0, .int .u64 3, .int .i64 4] 44) = v4 at P4 ⊢
    have HP4 := Lib.hid P4
    clear P4 hb4
    refine Rg.wp1_step (fun K hK => ?_) ⟨⟨_, HP4.out.kept.weaken (by intro x hx; simp at hx ⊢; simp [hx])⟩, rfl⟩
    go_simp
    refine (HP4.out.takeOne ⟨⟨0, 0⟩, 3, 4⟩ HSOK.out (b := b4) (t := 44) (by simp) (by simp)).mono ?_
    rintro e v5 ⟨rfl, P5⟩
    rw [HT1.out] at P5 ⊢
    have HP5 := Lib.hid P5
    clear P5
    refine hK _ _ (fun _ => ⟨⟨_, HP5.out.kept.weaken (by intro x hx; simp at hx ⊢; simp [hx])⟩, rfl⟩) ?_
    clear hK K
    refine Rg.wpN_step (fun K hK => ?_) ⟨⟨_, HP5.out.kept.weaken (by intro x hx; simp at hx ⊢; simp [hx])⟩, rfl⟩
    go_simp
    refine (HP5.out.takeOne ⟨⟨0, 0⟩, 3, 4⟩ HSOK.out (b := b3) (t := 44) (by simp) (by simp)).mono ?_
    rintro e v6 ⟨rfl, P6⟩
    rw [HT2.out] at P6 ⊢
    have HP6 := Lib.hid P6
    clear P6
    refine hK _ _ (fun _ => ⟨⟨_, HP6.out.kept.weaken (by intro x hx; simp at hx ⊢; simp [hx])⟩, rfl⟩) ?_
    clear hK K
    refine Rg.wpN_step (fun K hK => ?_) ⟨⟨_, HP6.out.kept.weaken (by intro x hx; simp at hx ⊢; simp [hx])⟩, rfl⟩
    go_simp
    refine hK _ _ (fun _ => ⟨⟨_, HP6.out.kept.weaken (by intro x hx; simp at hx ⊢; simp [hx])⟩, rfl⟩) ?_
    clear hK K
    refine Rg.wpN_list (by simp) ?_
    simp only [List.map_cons, List.map_nil]
    go_wp2
    go_meet
    exact ⟨_, rfl, rfl, rfl, HP6.out.sub (by simp)⟩
end Go.Proofs.Ytdmbjjladkdphaa
