/-
  queue: slices.Delete of one wait.
-/
import Derived.Test.YtobdbjkhajinbaaQueue5
import Derived.Deep.RegionLaw
import Derived.Laws.IdiomCopy
import Derived.Deep.Upon
set_option linter.unusedVariables false
set_option linter.unusedSimpArgs false
namespace Go.Proofs.Ytobdbjkhajinbaa
open Go.RowKit
def overA : Nat → List Value → Array Value → Array Value
  | _, [], cs => cs
  | o, v :: r, cs => overA (o + 1) r (cs.setIfInBounds o v)
theorem overA_size : ∀ (vs : List Value) (o : Nat) (cs : Array Value), (overA o vs cs).size = cs.size
  | [], _, _ => rfl
  | v :: r, o, cs => by rw [overA, overA_size r]; simp
theorem overA_at : ∀ (vs : List Value) (o : Nat) (cs : Array Value) (i : Nat), o + vs.length ≤ cs.size → (overA o vs cs)[i]? = if o ≤ i ∧ i < o + vs.length then vs[i - o]? else cs[i]?
  | [], o, cs, i, _ => by rw [overA, if_neg (by simp)]
  | v :: r, o, cs, i, h => by
    rw [List.length_cons] at h
    rw [overA, overA_at r (o + 1) _ i (by simp; omega)]
    by_cases h1 : i = o
    · subst h1
      rw [if_neg (by omega), if_pos (by simp), Nat.sub_self, Array.getElem?_setIfInBounds_self_of_lt (by omega)]; rfl
    · by_cases h2 : o + 1 ≤ i ∧ i < o + 1 + r.length
      · rw [if_pos h2, if_pos (by rw [List.length_cons]; omega), show i - o = (i - (o + 1)) + 1 by omega, List.getElem?_cons_succ]
      · rw [if_neg h2, if_neg (by rw [List.length_cons]; omega), Array.getElem?_setIfInBounds_ne (Ne.symm h1)]
theorem setCells_blk {b : Nat} {t : TypeId} {z : Nat × Nat} : ∀ (vs : List Value) (o : Nat) (w : World) (cs : Array Value), w.heap[b]? = some (.cells cs t z) → (w.setCells b o vs).heap[b]? = some (.cells (overA o vs cs) t z)
  | [], _, _, _, h => h
  | v :: r, o, w, cs, h => setCells_blk r (o + 1) _ _ (setCell_block h o v)
theorem setCells_frb {b B : Nat} {F : Nat → Prop} {w0 : World} (hb : F b) : ∀ (vs : List Value) (o : Nat) (w : World), Fr B F w0 w → Fr B F w0 (w.setCells b o vs)
  | [], _, _, h => h
  | v :: r, o, w, h => setCells_frb hb r (o + 1) _ (h.setCell (.inr hb) v)
def zeroW : List Value := [.int .i64 0, .int .i64 0, .int .i64 0, .int .i64 0, .int .i64 0, .int .i64 0, .int .i64 0, .int .i64 0, .int .i64 0, .int .i64 0]
theorem zero_wt (w : World) : (zeroValue 35).run Try.prog w = .ok (.agg zeroW.toArray) w := by
  obtain ⟨i0, hi0, hz0, hz1, hz2⟩ := info_parts infoWt
  first | rfl | (simp [zeroValue, typeInfo, hi0, hz0, zeroW, go_sem]; done)
theorem run_clear_wt (w : World) (b o c : Nat) (ty : TypeId) (hc : ∀ j, j < 10 → (w.cell? ⟨b, o + j, none⟩).isSome = true) (hf : ∀ j, j < 10 → w.frozen? ⟨b, o + j, none⟩ = false) :
    (Builtin.clear_ #[39] ty #[.slice (some ⟨b, o, none⟩) 1 c]).run Try.prog w = .ok (.tuple #[]) (w.setCells b o zeroW) := by
  have hzc : (Builtin.zeroCells (Value.agg #[.int .i64 0, .int .i64 0, .int .i64 0, .int .i64 0, .int .i64 0, .int .i64 0, .int .i64 0, .int .i64 0, .int .i64 0, .int .i64 0]).cells 1).toList = zeroW := by
    simp [Builtin.zeroCells, Value.cells, zeroW]
    try decide
    try rfl
  have hst := run_storeCells_cells (P := Try.prog) b o zeroW 0 w (by simpa [zeroW] using hc) (by simpa [zeroW] using hf) (by intro v hv; simp [zeroW] at hv; subst hv; rfl)
  simp only [Nat.add_zero] at hst
  simp [Builtin.clear_, run_underlying (P := Try.prog) Try.underlying39]
  rw [hzc, hst]
  rfl
theorem flatW_len : ∀ l : List Wt, (l.flatMap Wt.cells).length = l.length * 10
  | [] => rfl
  | x :: r => by rw [List.flatMap_cons, List.length_append, flatW_len r, List.length_cons]; simp only [Wt.cells, List.length_cons, List.length_nil]; omega
theorem flatW_one (l : List Wt) : ∀ u ∈ l.flatMap Wt.cells, u.oneCell' = true := by
  intro u hu
  obtain ⟨x, _, hx⟩ := List.mem_flatMap.1 hu
  simp [Wt.cells] at hx
  rcases hx with rfl | rfl | rfl | rfl | rfl | rfl | rfl | rfl | rfl | rfl <;> rfl
theorem flatW_drop : ∀ (l : List Wt) (i : Nat), (l.flatMap Wt.cells).drop (i * 10) = (l.drop i).flatMap Wt.cells
  | l, 0 => by simp
  | [], i + 1 => by simp
  | x :: r, i + 1 => by
    rw [List.flatMap_cons, List.drop_succ_cons, ← flatW_drop r i, show (i + 1) * 10 = 10 + i * 10 by omega, ← List.drop_drop]
    congr 1
theorem flatW_take : ∀ (l : List Wt) (i : Nat), (l.flatMap Wt.cells).take (i * 10) = (l.take i).flatMap Wt.cells
  | l, 0 => by simp
  | [], i + 1 => by simp
  | x :: r, i + 1 => by
    rw [List.flatMap_cons, List.take_succ_cons, List.flatMap_cons, ← flatW_take r i, show (i + 1) * 10 = (Wt.cells x).length + i * 10 by simp [Wt.cells]; omega, List.take_length_add_append]
theorem del_row (l : List Wt) (i n c m : Nat) (cur : Array Value) (news : List Value) (hi : i < n) (hn : l.length = n) (hm : n = m + 1) (hcur : ∀ j, j < n * 10 → cur[j]? = (l.flatMap Wt.cells)[j]?) (hnews : (l.drop (i + 1)).flatMap Wt.cells = news) (hs : cur.size = c * 10) (hnc : n ≤ c) :
    (overA (m * 10) zeroW (overA (0 + i * 10) news cur)).toList.take (m * 10) = (l.eraseIdx i).flatMap Wt.cells := by
  have hnl : news.length = (n - (i + 1)) * 10 := by rw [← hnews, flatW_len, List.length_drop, hn]
  have hlen : (l.eraseIdx i).length = m := by rw [List.length_eraseIdx, hn, if_pos hi]; omega
  have hno : 0 + i * 10 + news.length ≤ cur.size := by omega
  have hzo : m * 10 + zeroW.length ≤ (overA (0 + i * 10) news cur).size := by rw [overA_size, hs]; simp only [zeroW, List.length_cons, List.length_nil]; omega
  have htl : ((l.flatMap Wt.cells).take (i * 10)).length = i * 10 := by rw [List.length_take, flatW_len, hn]; omega
  apply List.ext_getElem?
  intro j
  rw [List.getElem?_take]
  by_cases hj : j < m * 10
  · rw [if_pos hj, Array.getElem?_toList, overA_at _ _ _ _ hzo, if_neg (fun h => by omega), overA_at _ _ _ _ hno]
    rw [List.eraseIdx_eq_take_drop_succ, List.flatMap_append, ← flatW_take, hnews]
    by_cases hji : j < i * 10
    · rw [if_neg (fun h => by omega), List.getElem?_append_left (by omega), List.getElem?_take, if_pos hji, hcur j (by omega)]
    · have h1 : 0 + i * 10 ≤ j ∧ j < 0 + i * 10 + news.length := ⟨by omega, by omega⟩
      rw [if_pos h1, List.getElem?_append_right (by omega), htl, Nat.zero_add]
  · rw [if_neg hj, List.getElem?_eq_none (by rw [flatW_len, hlen]; omega)]
set_option maxHeartbeats 2000000 in
theorem delete_any (base n c i : Nat) (a : Option Addr) (l : List Wt) (w : World) (ho : w.ownsRow base 35 10 (.slice a n c) n (l.flatMap Wt.cells)) (hn : l.length = n) (hi : i < n) (hn1 : n ≤ 1000) :
    Calls Try.prog 33 #[.slice a n c, .int .i64 i, .int .i64 ((i : Int) + 1)] w fun e w' => e = .returned (.slice a (n - 1) c) ∧ w'.ownsRow base 35 10 (.slice a (n - 1) c) (n - 1) ((l.eraseIdx i).flatMap Wt.cells) ∧
      Fr w.heap.size (fun q => (Value.slice a n c).ownBlock = some q) w w' := by
  obtain ⟨hfl, ⟨h0, _⟩ | ⟨g, cap, cur, hv, hg, hc, hnc, hm, hs, ht⟩⟩ := ho
  · simp only [Value.slice.injEq] at h0; omega
  simp only [Value.slice.injEq] at hv
  obtain ⟨rfl, -, rfl⟩ := hv
  have hm63 : c ≤ 9223372036854775807 := hm
  have hH := Lib.hid (And.intro hfl (And.intro hc (And.intro hs ht)))
  have fx0 := (Fr.refl w.heap.size (fun q => q = g) w).drew
  have hni : ¬ ((i : Int) = (i : Int) + 1) := by omega
  have i1 : (0 : Int) ≤ (i : Int) := by omega
  have i2 : (i : Int) ≤ (c : Int) := by omega
  have i3 : (0 : Int) ≤ (i : Int) + 1 := by omega
  have i4 : (i : Int) + 1 ≤ (n : Int) := by omega
  obtain ⟨ad, had⟩ : ∃ ad : Addr, (if c = i + 1 then (⟨g, 0, none⟩ : Addr) else ⟨g, (i + 1) * 10, none⟩) = ad := ⟨_, rfl⟩
  have hsz : ∀ w' : World, (sizeOf (Try.prog.elem 39)).run Try.prog w' = .ok 10 w' := fun w' => by first | rfl | (simp [go_sem]; done)
  have hsl1 : ∀ w' : World, (Instr.slice 39 (.slice (some ⟨g, 0, none⟩) n c) none (some (.int .i64 i)) none).run Try.prog w' = .ok (.slice (some ⟨g, 0, none⟩) i c) w' := fun w' => by
    rw [run_slice_h (P := Try.prog) w' 39 (some ⟨g, 0, none⟩) n c (by kernel_rfl) .i64 i i1 i2, hsz w']
    simp [sliced, Result.andThen]
    try (intro _; rfl)
  have hsl2 : ∀ w' : World, (Instr.slice 39 (.slice (some ⟨g, 0, none⟩) n c) (some (.int .i64 ((i : Int) + 1))) none none).run Try.prog w' = .ok (.slice (some ad) (n - (i + 1)) (c - (i + 1))) w' := fun w' => by
    rw [run_slice_l (P := Try.prog) w' 39 (some ⟨g, 0, none⟩) n c (by kernel_rfl) .i64 ((i : Int) + 1) i3 i4, hsz w', ← had]
    simp [sliced, Result.andThen]
    split
    · rfl
    · simp [Addr.add]
  clear hfl hc hs ht
  go_enter Try.func33, Try.ntmps33
  go_wp2_with fail
  refine Rg.wp_region_pick (by kernel_rfl) [0, 1, 2, 3, 4, 5] [6, 7] 7 (by kernel_rfl) (by kernel_rfl) (by kernel_rfl) (fun w' => ∃ y : LaterF w (fun q => q = g), w' = y.wd) (fun c a a' w hd h => ⟨hd.symm.trans h.1, h.2⟩) ⟨⟨_, fx0⟩, rfl⟩ ?_
  simp only [Rg.picks, List.getElem?_cons_succ, List.getElem?_cons_zero, Option.toList, List.cons_append, List.nil_append]
  repeat (quiet_step (fail))
  refine wpQuiet_nil ?_
  simp only [Rg.pickn, List.getElem?_cons_succ, List.getElem?_cons_zero, Option.toList, List.map_cons, List.map_nil, List.cons_append, List.nil_append]
  obtain ⟨hfl, hc, hs, ht⟩ := hH.out
  obtain ⟨news, hnews⟩ : ∃ news, (l.drop (i + 1)).flatMap Wt.cells = news := ⟨_, rfl⟩
  have hnl : news.length = (n - (i + 1)) * 10 := by rw [← hnews, flatW_len, List.length_drop, hn]
  have hgl : g < w.heap.size := lt_of_block hc
  have hcd : w.drew.heap[g]? = some (.cells cur 35 (0, 0)) := hc
  have hcur : ∀ j, j < n * 10 → cur[j]? = (l.flatMap Wt.cells)[j]? := fun j hj => by
    rw [← ht, List.getElem?_take, if_pos hj, Array.getElem?_toList]
  have hsrc : ∀ j u, news[j]? = some u → w.drew.cell? (ad.add j) = some u := fun j u hu => by
    have hj : j < news.length := (List.getElem?_eq_some_iff.1 hu).1
    have hne : ¬ c = i + 1 := by omega
    have hadd : ad.add j = ⟨g, (i + 1) * 10 + j, none⟩ := by
      rw [← had, if_neg hne]
      unfold Addr.add
      split
      · rename_i e'; rw [e']; rfl
      · rfl
    rw [hadd, cell_of_block hcd, hcur _ (by omega), ← hu, ← hnews, ← flatW_drop, List.getElem?_drop]
  have hone : ∀ u ∈ news, u.oneCell' = true := by rw [← hnews]; exact flatW_one _
  have hspare : ∀ j, j < news.length → (w.drew.cell? ⟨g, 0 + i * 10 + j, none⟩).isSome = true ∧ w.drew.frozen? ⟨g, 0 + i * 10 + j, none⟩ = false := fun j hj => by
    refine ⟨?_, frozen_of_block hcd _⟩
    rw [cell_of_block hcd, Array.getElem?_eq_getElem (by omega)]; rfl
  obtain ⟨i0, hi0, hz0, hz1, hz2⟩ := info_parts infoWt
  have hb5 := setCells_blk news (0 + i * 10) w.drew cur hcd
  have hf5 : Fr w.heap.size (fun q => q = g) w (w.drew.setCells g (0 + i * 10) news) := setCells_frb (b := g) (F := fun q => q = g) rfl _ _ _ fx0
  have HB5 := Lib.hid hb5; have HF5 := Lib.hid hf5; have HNL := Lib.hid hnl; have HNEWS := Lib.hid hnews
  refine Rg.wpN_step (fun K hK => ?_) ⟨⟨_, fx0⟩, rfl⟩
  refine step_append_room (by rfl) _ _ _ (by rfl) 35 i0 10 Try.underlying39 hi0 hz1 g 0 i c (by rfl) ad (n - (i + 1)) (c - (i + 1)) news (by rfl) hnl hsrc hone (by omega) hspare ?_
  refine hK _ _ (fun _ => ⟨⟨_, HF5.out⟩, rfl⟩) ?_
  clear hK K
  generalize w.drew.setCells g (0 + i * 10) news = w5 at HB5 HF5 ⊢
  rw [show i + (n - (i + 1)) = n - 1 by omega]
  have hnn : ((n - 1 : Nat) : Int) = (n : Int) - 1 := by omega
  obtain ⟨m, hm1⟩ : ∃ m, n = m + 1 := ⟨n - 1, by omega⟩
  have HM1 := Lib.hid hm1
  have HCUR := Lib.hid hcur
  clear hfl hc hs ht hcd hcur hsrc hone hspare hb5 hf5 hnl hnews had hsl1 hsl2 fx0 hgl
  have hov := overA_size news (0 + i * 10) cur
  have hcs : cur.size = c * 10 := hH.out.2.2.1
  have hclr := run_clear_wt w5 g (m * 10) (c - m) 0 (fun j hj => by
    rw [cell_of_block HB5.out, Array.getElem?_eq_getElem (by rw [hov]; omega)]; rfl) (fun j hj => frozen_of_block HB5.out _)
  have HCL := Lib.hid hov; have HCS := Lib.hid hcs
  clear hov hcs
  refine Rg.wpN_list (by decide) ?_
  simp only [List.map_cons, List.map_nil]
  go_wp2_with fail
  go_ret
  have hb6 := setCells_blk zeroW (m * 10) w5 _ HB5.out
  have hf6 : Fr w.heap.size (fun q => q = g) w (w5.setCells g (m * 10) zeroW) := setCells_frb (b := g) (F := fun q => q = g) rfl _ _ _ HF5.out
  have hm1 := HM1.out
  have hlen : (l.eraseIdx i).length = m := by rw [List.length_eraseIdx, hn, if_pos hi]; omega
  refine ⟨by first | rfl | (rw [hm1]; rfl), ?_, hf6.mono (Nat.le_refl _) fun q _ e => by rw [e]; rfl⟩
  have hm2 : n - 1 = m := by omega
  rw [hm2]
  refine ⟨by rw [flatW_len, hlen], .inr ⟨g, c, _, rfl, hg, hb6, by omega, hm, by rw [overA_size, HCL.out, HCS.out], ?_⟩⟩
  exact del_row l i n c m cur news hi hn hm1 HCUR.out HNEWS.out HCS.out hnc
end Go.Proofs.Ytobdbjkhajinbaa
