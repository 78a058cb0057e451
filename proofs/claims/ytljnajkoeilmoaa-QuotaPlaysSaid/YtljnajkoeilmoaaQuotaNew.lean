/-
  quota.New: what it makes.
-/
import Derived.Test.YtljnajkoeilmoaaQuota
import Derived.Test.YtljnajkoeilmoaaTypes
import Derived.Deep.AppendLies
import Derived.Deep.RegionHeld3
import Derived.Test.YtljnajkoeilmoaaRegions
set_option linter.unusedVariables false
set_option linter.unusedSimpArgs false
namespace Go.Proofs.Ytljnajkoeilmoaa
open Go.RowKit

def Un.right (x : Un) : Bool := rightB x.gpus x.cpus
def Un.start (x : Un) : Ac := ⟨x.gpus, x.cpus, 0, 0⟩
def newOk (qs : List Un) : Bool := decide (1 ≤ qs.length ∧ qs.length ≤ 8) && qs.all Un.right

def NewPost (qs : List Un) (w : World) (e : Ending) (w' : World) : Prop :=
  (newOk qs = false ∧ e = .returned (.tuple #[.pointer none, .int .i64 1]) ∧ Below w.heap.size w w') ∨
  (newOk qs = true ∧ ∃ p R cap bs, e = .returned (.tuple #[.pointer (some ⟨p, 0, none⟩), .int .i64 0]) ∧ Acc w' p R cap bs (qs.map Un.start) ∧ (∀ k, AccF p R bs k → w.heap.size ≤ k) ∧ Below w.heap.size w w')

theorem infoPtr : (Try.prog.info? 57).map (fun i => (i.zero, i.size, i.bytes)) = some (some (.pointer none), 1, 8) := by kernel_rfl

/-- what has been made when k quotas have been gone through -/
def NewInv (w : World) (qs : List Un) (k : Nat) (wr : World) : Prop :=
  ∃ (v : Value) (bs : List Nat), wr.heap[w.heap.size]? = some (.cells #[v] 55 (0, 0)) ∧ wr.ownsRow (w.heap.size + 1) 57 1 v k (bs.map fun b => .pointer (some ⟨b, 0, none⟩)) ∧ bs.length = k ∧ bs.Nodup ∧
    (∀ (i : Nat) (h : i < bs.length) (h' : i < qs.length), wr.heap[bs[i]]? = some (.cells (qs[i].start).cells 59 (0, 0))) ∧ (∀ b ∈ bs, w.heap.size < b ∧ v.ownBlock ≠ some b) ∧ (qs.take k).all Un.right = true ∧ Below w.heap.size w wr

set_option maxHeartbeats 1000000 in
theorem quotaNew_any (v : Value) (qs : List Un) (w : World) (s : Rd.SliceOf w v 2 Un.cells qs) (hl : qs.length ≤ 100) :
    Calls Try.prog 9 #[v] w fun e w' => NewPost qs w e w' := by
  by_cases h1 : 1 ≤ qs.length ∧ qs.length ≤ 8
  case neg =>
    have HN := Lib.hid (show newOk qs = false by simp [newOk, h1])
    obtain ⟨a, cap, rfl⟩ : ∃ a cap, v = .slice a qs.length cap := by
      rcases s with ⟨rfl, rfl⟩ | ⟨a, cap, rfl, _⟩
      · exact ⟨none, 0, rfl⟩
      · exact ⟨some a, cap, rfl⟩
    by_cases h2 : (qs.length : Int) < 1
    · go_enter Try.func9, Try.ntmps9
      go_wp2
      go_ret2
      exact .inl ⟨HN.out, rfl, Below.refl _ _⟩
    · have h3 : (8 : Int) < qs.length := by omega
      go_enter Try.func9, Try.ntmps9
      go_wp2
      go_ret2
      exact .inl ⟨HN.out, rfl, Below.refl _ _⟩
  case pos =>
    obtain ⟨b, off, cap, rfl, hc1, hc2, hb, hcell⟩ := s.plain (by intro e; rw [e] at h1; simp at h1) (by intro x _; simp [Un.cells])
    obtain ⟨n, hn⟩ : ∃ n, qs.length = n := ⟨_, rfl⟩
    obtain ⟨i0, hi0, hz0, hz1, hz2⟩ := info_parts infoPtr
    have H1 := Lib.hid h1
    have hn1 : 1 ≤ n := by omega
    have hn2 : n ≤ 8 := by omega
    rw [hn] at hc1 ⊢
    have HN := Lib.hid hn
    clear hn h1 s
    go_enter Try.func9, Try.ntmps9
    go_wp2_with fail
    go_loopw [19] (fun i wr => ∃ k : Nat, k ≤ n ∧ i = .int .i64 k ∧ NewInv w qs k wr) (fun i _ => n - (intOf i).toNat)
    case atStart =>
      exact ⟨0, Nat.zero_le _, rfl, .slice none 0 0, [], World.alloc_heap_new w _, World.ownsRow_nil _ _ _ _, rfl, List.nodup_nil, fun i h => by simp at h, fun b h => by simp at h, by simp, (Below.refl _ _).alloc (Nat.le_refl _) _⟩
    case round =>
      obtain ⟨k, hk, rfl, v, bs, hA, hown, hbl, hnd, heach, hfar, hal, hB⟩ := hrel
      by_cases hlt : k < n
      · have hlq : k < qs.length := by rw [HN.out]; exact hlt
        obtain ⟨q, hq⟩ : ∃ q, qs[k] = q := ⟨_, rfl⟩
        have c0 : wr.cell? ⟨b, off + k * 2, none⟩ = some (.int .i64 q.gpus) := by
          rw [hB.cell (p := ⟨b, off + k * 2, none⟩) hb, ← hq]; exact hcell k hlq 0 (by simp [Un.cells])
        have c1 : wr.cell? ⟨b, off + k * 2 + 1, none⟩ = some (.int .i64 q.cpus) := by
          rw [hB.cell (p := ⟨b, off + k * 2 + 1, none⟩) hb, ← hq]; exact hcell k hlq 1 (by simp [Un.cells])
        have hsz := hB.size
        cases hr : q.right with
        | false =>
          have HR := Lib.hid (show rightB q.gpus q.cpus = false from hr)
          have HQ := Lib.hid hq
          clear hr hq hcell heach hown hA hfar hnd hal
          go_wp2_with fail
          refine (right_any _ _ _).mono ?_
          rintro e w1 ⟨rfl, hb1⟩
          rw [HR.out]
          go_wp2
          go_ret2
          exact .inl ⟨by
            have : ¬ (qs.all Un.right = true) := fun h => by
              have := List.all_eq_true.1 h q (HQ.out ▸ List.getElem_mem _)
              rw [show q.right = rightB q.gpus q.cpus from rfl, HR.out] at this; cases this
            simp only [newOk, Bool.and_eq_false_iff]; exact .inr (by simpa using this), rfl, (hB.alloc hsz _).trans (hb1.mono (by simp; omega))⟩
        | true =>
          have HR := Lib.hid (show rightB q.gpus q.cpus = true from hr)
          have HAL := Lib.hid (show (qs.take (k + 1)).all Un.right = true by rw [List.take_succ_eq_append_getElem hlq, List.all_append, hal, hq]; simp [hr])
          have HQ := Lib.hid hq
          have HE := Lib.hid heach; have HF := Lib.hid hfar; have HD := Lib.hid hnd; have HA := Lib.hid hA; have HL := Lib.hid hbl
          clear hr hq hcell heach hA hfar hnd hbl hal
          go_wp2_with fail
          refine (right_any _ _ _).mono ?_
          rintro e w1 ⟨rfl, hb1⟩
          rw [HR.out]
          have s1 := hb1.size
          simp only [World.size_alloc] at s1
          have aA : w1.heap[w.heap.size]? = some (.cells #[v] 55 (0, 0)) := by rw [hb1.block _ (by simp; omega), Below.heap_alloc _ _ _ (lt_of_block HA.out)]; exact HA.out
          have aQ : w1.heap[wr.heap.size]? = some (.cells #[.int .i64 q.gpus, .int .i64 q.cpus] 25 (0, 0)) := by rw [hb1.block _ (by simp)]; exact World.alloc_heap_new wr _
          have own1 : w1.ownsRow (w.heap.size + 1) 57 1 v k (bs.map fun b => .pointer (some ⟨b, 0, none⟩)) :=
            ownsRow_below (ownsRow_below hown (((Below.refl _ _).alloc (Nat.le_refl _)) _)) hb1
          have c2 : w1.cell? ⟨w.heap.size, 0, none⟩ = some v := cell_of_block aA 0
          have c3 : w1.cell? ⟨wr.heap.size, 0, none⟩ = some (.int .i64 q.gpus) := cell_of_block aQ 0
          have c4 : w1.cell? ⟨wr.heap.size, 1, none⟩ = some (.int .i64 q.cpus) := cell_of_block aQ 1
          have fA : w1.frozen? ⟨w.heap.size, 0, none⟩ = false := frozen_of_block aA 0
          have lA := lt_of_block HA.out
          clear c0 c1
          go_wp2_with fail
          have av : v.ownBlock ≠ some w.heap.size := fun e => by have := (hown.lt _ e).1; omega
          have aw : v.ownBlock ≠ some wr.heap.size := fun e => by have := (hown.lt _ e).2; omega
          have lw : wr.heap.size < w1.heap.size := by omega
          have lw' : w.heap.size < w1.heap.size := by omega
          have d0 : ∀ x : LaterF w1 (fun k => v.ownBlock = some k), x.wd.cell? ⟨w.heap.size, 0, none⟩ = some v := fun x => (x.cell lw' av).trans c2
          have d1 : ∀ x : LaterF w1 (fun k => v.ownBlock = some k), x.wd.cell? ⟨wr.heap.size, 0, none⟩ = some (.int .i64 q.gpus) := fun x => (x.cell lw aw).trans c3
          have d2 : ∀ x : LaterF w1 (fun k => v.ownBlock = some k), x.wd.cell? ⟨wr.heap.size, 1, none⟩ = some (.int .i64 q.cpus) := fun x => (x.cell lw aw).trans c4
          refine Rg.wp_region_mix (by kernel_rfl) 7 10 (by kernel_rfl) (fun w' => ∃ x : LaterF w1 (fun k => v.ownBlock = some k), w' = x.wd) (fun c a a' w hd h => ⟨hd.symm.trans h.1, h.2⟩) ⟨⟨w1.drew, (Fr.refl _ _ _).drew⟩, rfl⟩ ?_
          dsimp only [List.take, List.drop, List.length]
          repeat (quiet_step (fail))
          refine wpQuiet_nil ?_
          clear d0 d1 d2
          have fx1 := (Fr.refl w1.heap.size (fun k => v.ownBlock = some k) w1).alloc (Nat.le_refl _) (.cells #[.int .i64 q.gpus, .int .i64 q.cpus, .int .i64 0, .int .i64 0] 59)
          have fx2 := fx1.alloc (by simp) (.cells #[.pointer (some ⟨w1.heap.size, 0, none⟩)] 57)
          refine Rg.wpT_step (fun K hK => ?_) ⟨⟨w1.drew, (Fr.refl _ _ _).drew⟩, rfl⟩
          go_simp
          refine hK _ _ (fun _ => ⟨⟨_, fx1.drew⟩, rfl⟩) ?_
          clear hK K
          refine Rg.wpT_step (fun K hK => ?_) ⟨⟨_, fx1.drew⟩, rfl⟩
          go_simp
          refine hK _ _ (fun _ => ⟨⟨_, fx2.drew⟩, rfl⟩) ?_
          clear hK K
          refine Rg.wpT_step (fun K hK => ?_) ⟨⟨_, fx2.drew⟩, rfl⟩
          refine step_append_lies _ (by rfl) _ _ _ (by rfl) (w.heap.size + 1) 57 i0 _ 1 8 Try.underlying53 hi0 hz0 hz1 hz2 rfl (by omega) v k _ (by rfl) (((own1.alloc _).alloc _).drew)
                ⟨w1.heap.size + 1, 0, none⟩ 1 1 [.pointer (some ⟨w1.heap.size, 0, none⟩)] (by rfl) (by rfl) (World.news_of_block (cs := #[.pointer (some ⟨w1.heap.size, 0, none⟩)]) (t := 57) (fr := (0, 0)) ?nb) (by simp [Value.oneCell'])
                (by omega) (by unfold maxLen; omega) (by omega) (by simp; omega) (w1.heap.size + 2) (by simp) ?_
          case nb => exact alloc2_new _ _ _
          intro gg cap' w2 hown2 hgrow hat hlt2
          have fx3 := fx2.drew.grown hgrow (by simp; omega) (fun j e => .inr e)
          refine hK _ _ (fun _ => ⟨⟨_, fx3⟩, rfl⟩) ?_
          clear hK K
          refine Rg.wpT_list (Nat.le_refl _) ?_
          have e0 : w2.cell? ⟨w.heap.size, 0, none⟩ = some v := (fx3.cell (p := ⟨w.heap.size, 0, none⟩) lw' av).trans c2
          have e1 : w2.frozen? ⟨w.heap.size, 0, none⟩ = false := (fx3.frozen (p := ⟨w.heap.size, 0, none⟩) lw' av).trans fA
          clear c2 c3 c4 fA
          go_wp2
          have hwr : ∀ b ∈ bs, b < wr.heap.size := fun b hb => by
            obtain ⟨i, hi, rfl⟩ := List.getElem_of_mem hb
            exact lt_of_block (HE.out i hi (by have := HL.out; omega))
          have hgg : gg ≠ w.heap.size := by have := (hown2.lt gg rfl).1; omega
          have hgN : gg ≠ w1.heap.size := by
            rcases hat with h | h
            · have := (hown.lt gg h).2; omega
            · omega
          refine ⟨⟨k + 1, by omega, by go_num, .slice (some ⟨gg, 0, none⟩) (k + 1) cap', bs ++ [w1.heap.size], ?_, ?_, by simp [HL.out], ?_, ?_, ?_, HAL.out, ?_⟩, by simp [intOf]; omega⟩
          · have h1 : w2.heap[w.heap.size]? = some (.cells #[v] 55 (0, 0)) := (fx3.block _ lw' av).trans aA
            exact setCell_block h1 0 _
          · have h2 : ((bs ++ [w1.heap.size]).map fun b => Value.pointer (some ⟨b, 0, none⟩)) = (bs.map fun b => Value.pointer (some ⟨b, 0, none⟩)) ++ [.pointer (some ⟨w1.heap.size, 0, none⟩)] := by simp
            rw [h2]
            exact ownsRow_setCell_other hown2 (a := ⟨w.heap.size, 0, none⟩) (by intro e; exact hgg (by simpa [Value.ownBlock] using e)) _
          · rw [List.nodup_append]
            exact ⟨HD.out, by simp, fun a ha b hb e => by have := hwr a ha; simp at hb; omega⟩
          · intro i hi hi'
            by_cases e : i < bs.length
            · rw [List.getElem_append_left e]
              have hb := hwr _ (List.getElem_mem e)
              have hf := HF.out _ (List.getElem_mem e)
              rw [setCell_other _ (by simp; omega), fx3.block _ (by omega) hf.2, hb1.block _ (by simp; omega), Below.heap_alloc _ _ _ hb]
              exact HE.out i e hi'
            · have hik : i = bs.length := by simp at hi; omega
              subst hik
              rw [List.getElem_append_right (Nat.le_refl _)]
              simp only [Nat.sub_self, List.getElem_cons_zero]
              rw [setCell_other _ (by simp; omega), hgrow.block _ (by simp; omega) (by intro e'; have := (hown.lt _ e'.symm).2; omega)]
              show ((w1.alloc _).alloc _).heap[w1.heap.size]? = _
              rw [Below.heap_alloc _ _ _ (by simp), World.alloc_heap_new]
              have hq' : qs[bs.length] = q := by have := HQ.out; simp only [HL.out]; exact this
              rw [hq']
              rfl
          · intro b hb
            rcases List.mem_append.1 hb with hb | hb
            · have h1 := hwr b hb
              have h2 := HF.out b hb
              refine ⟨h2.1, fun e => ?_⟩
              have e' : gg = b := by simpa [Value.ownBlock] using e
              rcases hat with h | h
              · exact h2.2 (e' ▸ h)
              · omega
            · simp at hb
              subst hb
              exact ⟨by omega, fun e => hgN (by simpa [Value.ownBlock] using e)⟩
          · exact (((hB.alloc hsz _).trans (hb1.mono (by simp; omega))).trans (fx3.below (by omega) (fun j hj => by have := (hown.lt j hj).1; omega))).setCell (Nat.le_refl _) _
      · have hkn : k = n := by omega
        subst hkn
        obtain ⟨g, cap2, rfl⟩ : ∃ g cap2, v = .slice (some ⟨g, 0, none⟩) k cap2 := by
          rcases hown.2 with ⟨_, h⟩ | ⟨g, cap2, cur, h, _⟩
          · omega
          · exact ⟨g, cap2, h⟩
        have HA := Lib.hid hA; have HE := Lib.hid heach; have HF := Lib.hid hfar; have HD := Lib.hid hnd; have HL := Lib.hid hbl
        have HAL := Lib.hid hal
        clear hA heach hfar hnd hbl hcell hal
        go_wp2
        go_ret2
        have hg := hown.lt g rfl
        obtain ⟨hxl, h | ⟨g', cap', cur, hv, hgb, hcur, hc1, hc2, hc3, hc4⟩⟩ := hown
        · omega
        · simp only [Value.slice.injEq, Option.some.injEq, Addr.mk.injEq, and_true, true_and] at hv
          obtain ⟨rfl, rfl⟩ := hv
          have hall : qs.all Un.right = true := by have := HAL.out; rwa [List.take_of_length_le (by rw [HN.out]; omega)] at this
          refine .inr ⟨by simp only [newOk, hall, Bool.and_true, decide_eq_true_eq]; rw [HN.out]; omega, w.heap.size, g, cap2, bs, rfl, ⟨by rw [List.length_map, HL.out, HN.out], by rw [List.length_map, HN.out]; exact hc1, ?_, ?_, ⟨cur, hcur, fun i hi => ?_⟩, fun i hi hi' => ?_⟩, ?_, hB⟩
          · refine List.nodup_cons.2 ⟨?_, List.nodup_cons.2 ⟨?_, HD.out⟩⟩
            · intro hm
              rcases List.mem_cons.1 hm with e | hm
              · omega
              · have := (HF.out _ hm).1; omega
            · intro hm
              exact (HF.out _ hm).2 rfl
          · rw [List.length_map, HN.out]; exact HA.out
          · have h1 : (cur.toList.take (k * 1))[i]? = some (.pointer (some ⟨bs[i], 0, none⟩)) := by rw [hc4]; simp [hi]
            rw [List.getElem?_take] at h1
            split at h1
            · simpa using h1
            · cases h1
          · have hi2 : i < qs.length := by simpa using hi
            rw [HE.out i hi' hi2]
            simp
          · rintro j (rfl | rfl | hj)
            · exact Nat.le_refl _
            · omega
            · have := (HF.out j hj).1; omega
end Go.Proofs.Ytljnajkoeilmoaa
