/-
  queue: Remove's closure; Remove, Get.
-/
import Derived.Test.YtobdbjkhajinbaaQueue6
import Derived.Laws.ResultCell
import Derived.Laws.Rows
set_option linter.unusedVariables false
set_option linter.unusedSimpArgs false
namespace Go.Proofs.Ytobdbjkhajinbaa
open Go.RowKit
/-- cells stored one behind the other -/
def setCellsL (b : Nat) : Nat → List Value → World → World
  | _, [], w => w
  | i, v :: r, w => setCellsL b (i + 1) r (w.setCell ⟨b, i, none⟩ v)
def overC : Nat → List Value → List Value → List Value
  | _, [], cs => cs
  | i, v :: r, cs => overC (i + 1) r (cs.set i v)
theorem setCellsL_block {b : Nat} {t : TypeId} {z : Nat × Nat} : ∀ (vs : List Value) (i : Nat) (w : World) (cs : List Value), w.heap[b]? = some (.cells cs.toArray t z) → (setCellsL b i vs w).heap[b]? = some (.cells (overC i vs cs).toArray t z)
  | [], _, _, _, h => h
  | v :: r, i, w, cs, h => setCellsL_block r (i + 1) _ _ (by have := setCell_block h i v; simpa using this)
theorem setCellsL_fr {b B : Nat} {F : Nat → Prop} {w0 : World} (hb : F b) : ∀ (vs : List Value) (i : Nat) (w : World), Fr B F w0 w → Fr B F w0 (setCellsL b i vs w)
  | [], _, _, h => h
  | v :: r, i, w, h => setCellsL_fr hb r (i + 1) _ (h.setCell (.inr hb) v)
theorem own_len (a : Option Addr) (n m c : Nat) : (Value.slice a n c).ownBlock = (Value.slice a m c).ownBlock := by
  cases a <;> rfl
section
variable {w w' : World} {base p R M : Nat} {vs : List Value} {rows : List (List Wt)} {rooms : List Int}
set_option maxRecDepth 100000 in
set_option maxHeartbeats 2000000 in
theorem rem1_any (h : QAt w base p R M vs rows rooms) (X k j : Nat) (hX : w.cell? ⟨X, 0, none⟩ = some (.pointer (some ⟨p, 0, none⟩))) (hXn : ¬ QF p R M vs X) (hk : k < rows.length) (hj : j < rows[k].length) (hfew : ∀ l ∈ rows, l.length ≤ 1000) :
    Calls Try.prog 32 #[.int .i64 k, .int .i64 j, .pointer (some ⟨X, 0, none⟩)] w fun e w' => e = .returned (.tuple #[]) ∧ StepQ base p R M vs (rows.set k (rows[k].eraseIdx j)) rooms w w' := by
  have H := Lib.hid h
  obtain ⟨a, c, hv0, ho⟩ := h.row k hk
  obtain ⟨⟨cm, c0, c1⟩, lp, lR, lM⟩ := h.cells
  obtain ⟨l, hl⟩ : ∃ l, rows[k] = l := ⟨_, rfl⟩
  have hlf : l.length ≤ 1000 := hfew l (hl ▸ List.getElem_mem hk)
  rw [hl] at hv0 ho hj
  obtain ⟨m, hm⟩ : ∃ m, l.length = m := ⟨_, rfl⟩
  rw [hm] at hv0 ho hlf hj
  have hkn : k < rooms.length := by rw [← h.rlen]; exact hk
  obtain ⟨n, hn⟩ : ∃ n, rooms.length = n := ⟨_, rfl⟩
  rw [hn] at c0 hkn
  have hRk : w.cell? ⟨R, k, none⟩ = some (.slice a m c) := by rw [cell_of_block h.rowb, List.getElem?_toArray]; exact hv0
  have hfar := fun g => h.far k _ g hv0
  have lX := World.block_lt_of_cell? w _ hX
  have lX : X < w.heap.size := lX
  have hnp : ¬ (Value.slice a m c).ownBlock = some p := fun e => (hfar p e).1 rfl
  have hnR : ¬ (Value.slice a m c).ownBlock = some R := fun e => (hfar R e).2.1 rfl
  have hnX : ¬ (Value.slice a m c).ownBlock = some X := fun e => hXn (.inr (.inr (.inr ⟨k, _, hv0, e⟩)))
  have fx0 := (Fr.refl w.heap.size (fun g => (Value.slice a m c).ownBlock = some g) w).drew
  have q0 : ∀ y : LaterF w (fun g => (Value.slice a m c).ownBlock = some g), y.wd.cell? ⟨p, 0, none⟩ = some (.slice (some ⟨R, 0, none⟩) n n) := fun y => (y.cell lp hnp).trans c0
  have q1 : ∀ y : LaterF w (fun g => (Value.slice a m c).ownBlock = some g), y.wd.cell? ⟨R, k, none⟩ = some (.slice a m c) := fun y => (y.cell lR hnR).trans hRk
  have q2 : ∀ y : LaterF w (fun g => (Value.slice a m c).ownBlock = some g), y.wd.cell? ⟨X, 0, none⟩ = some (.pointer (some ⟨p, 0, none⟩)) := fun y => (y.cell lX hnX).trans hX
  have HO := Lib.hid ho; have HV0 := Lib.hid hv0; have HM := Lib.hid hm; have HL := Lib.hid hl; have HR0 := Lib.hid h.rowb
  have hj63 : j ≤ 1000 := by omega
  have hwj : IntKind.i64.wrap ((j : Int) + 1) = (j : Int) + 1 := by rw [wrap_eq]; unfold wrap64; omega
  clear h hX hXn hfew c0 c1 hv0 ho hRk hfar hm hl hn lM
  go_enter Try.func32, Try.ntmps32
  refine Rg.wp_region_pick (by kernel_rfl) [0, 1, 2, 3, 4, 5, 6, 7, 8, 9, 10, 11, 12, 13, 14] [15, 16, 17] 16 (by kernel_rfl) (by kernel_rfl) (by kernel_rfl) (fun w' => ∃ y : LaterF w (fun g => (Value.slice a m c).ownBlock = some g), w' = y.wd) (fun c a a' w hd h => ⟨hd.symm.trans h.1, h.2⟩) ⟨⟨_, fx0⟩, rfl⟩ ?_
  simp only [Rg.picks, List.getElem?_cons_succ, List.getElem?_cons_zero, Option.toList, List.cons_append, List.nil_append]
  repeat (quiet_step (fail))
  refine wpQuiet_nil ?_
  clear q0 q1 q2
  simp only [Rg.pickn, List.getElem?_cons_succ, List.getElem?_cons_zero, Option.toList, List.map_cons, List.map_nil, List.cons_append, List.nil_append]
  have HD := Lib.hid (delete_any base m c j a l w.drew HO.out.drew HM.out hj hlf)
  have HR1 := Lib.hid (show w.drew.heap[R]? = some (.cells vs.toArray 39 (0, 0)) from HR0.out)
  have HFX := Lib.hid fx0
  have lR1 : R < w.drew.heap.size := lR
  generalize w.drew = w1 at HD HR1 HFX lR1 ⊢
  refine Rg.wpN_step (fun K hK => ?_) ⟨⟨_, HFX.out⟩, rfl⟩
  go_simp
  refine HD.out.mono ?_
  rintro e w6 ⟨rfl, ho6, hf6⟩
  have fx2 := HFX.out.trans (hf6.mono HFX.out.size fun _ _ e => e)
  have hR6 := (hf6.block R lR1 hnR).trans HR1.out
  have HFX2 := Lib.hid fx2; have HR6 := Lib.hid hR6; have HO6 := Lib.hid ho6
  refine hK _ _ (fun _ => ⟨⟨_, fx2⟩, rfl⟩) ?_
  clear hK K fx2 fx0 hf6 ho6
  have r0 : w6.cell? ⟨R, k, none⟩ = some (.slice a m c) := by rw [cell_of_block hR6, List.getElem?_toArray]; exact HV0.out
  have rz := frozen_of_block hR6 k; have lR6 := lt_of_block hR6
  clear hR6
  refine Rg.wpN_list (by decide) ?_
  simp only [List.map_cons, List.map_nil]
  go_wp2_with fail
  go_end0
  refine ⟨rfl, ?_⟩
  have hR7 : (w6.setCell ⟨R, k, none⟩ (.slice a (m - 1) c)).heap[R]? = some (.cells (vs.set k (.slice a (m - 1) c)).toArray 39 (0, 0)) := by
    rw [setCell_block HR6.out]; simp
  have hfR : Fr w6.heap.size (fun g => g = R) w6 (w6.setCell ⟨R, k, none⟩ (.slice a (m - 1) c)) := Fr.setCell (F := fun g => g = R) (p := ⟨R, k, none⟩) (Fr.refl _ _ _) (.inr rfl) _
  have hf27 := (HFX2.out.mono (F' := fun g => g = R ∨ (Value.slice a m c).ownBlock = some g) (Nat.le_refl _) fun _ _ e => .inr e).trans (hfR.mono HFX2.out.size fun _ _ e => .inl e)
  have hlen : (l.eraseIdx j).length = m - 1 := by rw [List.length_eraseIdx, HM.out, if_pos hj]
  have hown7 := ownsRow_fr HO6.out hfR (fun g hg => ⟨(HO6.out.lt g hg).2, fun e => hnR (by rw [← e, own_len a m (m - 1) c]; exact hg)⟩)
  obtain ⟨hq, hqf⟩ := H.out.put (k := k) (l := l.eraseIdx j) (a := a) (c := c) (v0 := .slice a m c) hk HV0.out hf27 (by rw [hlen]; exact hR7) (by rw [hlen]; exact hown7) (fun g hg => .inl (by rw [own_len a m (l.eraseIdx j).length c]; exact hg))
  rw [HL.out]
  refine ⟨_, hq, hf27.mono (Nat.le_refl _) fun g _ e => ?_, hqf⟩
  rcases e with e | e
  · exact .inr (.inl e)
  · exact .inr (.inr (.inr ⟨k, _, HV0.out, e⟩))
end
end Go.Proofs.Ytobdbjkhajinbaa
