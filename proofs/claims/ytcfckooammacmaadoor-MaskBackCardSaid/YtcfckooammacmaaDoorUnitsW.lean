/-
  mask.Units: its contract.
-/
import Derived.Test.YtcfckooammacmaaDoorLowest2
import Derived.Test.YtcfckooammacmaaDoorRegIn
import Derived.Test.YtcfckooammacmaaDoorTz
import Derived.Test.YtcfckooammacmaaDoorFr
import Derived.Deep.AppendLies
import Derived.RangeFuncBox
set_option linter.unusedVariables false
set_option linter.unusedSimpArgs false
namespace Go.Proofs.YtcfckooammacmaaDoor
open Go.RowKit Go.Shelf

attribute [local go_sem] Oper.semAt_some

theorem infoInt : (Tryd.prog.info? 3).map (fun i => (i.zero, i.size, i.bytes)) = some (some (.int .i64 0), 1, 8) := by kernel_rfl

def encU (x : Fin 64) : Value := .int .i64 (x.val : Nat)

theorem Tab.later {w w' : World} (h : Tab w) (hb : Below w.heap.size w w') (hlt : 0 < w.heap.size) : Tab w' := fun j hj => (hb.cell (p := ⟨0, j, none⟩) hlt).trans (h j hj)

theorem Tab.lt {w : World} (h : Tab w) : 0 < w.heap.size := by
  have := h 0 (by omega)
  rcases Nat.lt_or_ge 0 w.heap.size with h1 | h1
  · exact h1
  · simp [World.cell?, Array.getElem?_eq_none h1] at this

theorem ownsRow_base' {W : World} {base base' : Nat} {e : TypeId} {size : Nat} {v : Value} {k : Nat} {xs : List Value} (h : W.ownsRow base e size v k xs) (hb : base' ≤ base) : W.ownsRow base' e size v k xs := by
  refine ⟨h.1, ?_⟩
  rcases h.2 with hn | ⟨g, cap, cur, hv, hbg, rest⟩
  · exact .inl hn
  · exact .inr ⟨g, cap, cur, hv, Nat.le_trans hb hbg, rest⟩

def UnitsPost (m : Nat) (w : World) (e : Ending) (w' : World) : Prop :=
  ∃ (v : Value) (L : List (Fin 64)), e = .returned v ∧ L.map Fin.val = Mk.units m ∧ w'.ownsRow w.heap.size 3 1 v L.length (L.map encU) ∧ Below w.heap.size w w'

set_option maxHeartbeats 2000000 in
theorem units_any (m : Nat) (w : World) (hm : m < 18446744073709551616) (hT : Tab w) : Calls Tryd.prog 8 #[.int .u64 m] w fun e w' => UnitsPost m w e w' := by
  obtain ⟨i0, hi0, hz0, hz1, hz2⟩ := info_parts infoInt
  obtain ⟨L, hL⟩ := units_fin m
  have hLc : L.length ≤ 64 := by have := cnt_le m; rw [← Mk.units_len, ← hL] at this; simpa using this
  have HL := Lib.hid hL
  clear hL
  have hTl := hT.lt
  have HT := Lib.hid hT
  clear hT
  refine calls_marks Tryd.func8 rfl fun Q hQ => ?_
  have HQ := Lib.hid hQ
  clear hQ
  simp only [Tryd.ntmps8, List.size_toArray, List.length_cons, List.length_nil, Nat.reduceAdd, Nat.reduceSub, Array.replicate_succ, Array.replicate_zero, List.push_toArray, List.append_toArray, List.nil_append, List.cons_append]
  go_wp2_with fail
  refine ((callsIn_wide (n := 0)).1 (lows_in Fence.wide 0 trivial rfl _ _)).mono ?_
  rintro e w3 ⟨rfl, rfl⟩
  go_wp2_with fail
  obtain ⟨o, ho⟩ : ∃ o, w.heap.size = o := ⟨_, rfl⟩
  have co : ((w.alloc (.cells #[.slice none 0 0] 24)).alloc (.cells #[.int .u64 m] 22)).heap[o]? = some (.cells #[.slice none 0 0] 24 (0, 0)) := alloc_other (by rw [← ho]; exact World.alloc_heap_new _ _)
  have cm : ((w.alloc (.cells #[.slice none 0 0] 24)).alloc (.cells #[.int .u64 m] 22)).heap[o + 1]? = some (.cells #[.int .u64 m] 22 (0, 0)) := by rw [← ho]; exact alloc2_new _ _ _
  have hB3 : Below w.heap.size w ((w.alloc (.cells #[.slice none 0 0] 24)).alloc (.cells #[.int .u64 m] 22)) := ((Below.refl _ _).alloc (Nat.le_refl _) _).alloc (by simp) _
  have hsz : ((w.alloc (.cells #[.slice none 0 0] 24)).alloc (.cells #[.int .u64 m] 22)).heap.size = o + 2 := by simp [ho]
  rw [ho]
  try simp only [World.size_alloc, ho]
  generalize (w.alloc (.cells #[.slice none 0 0] 24)).alloc (.cells #[.int .u64 m] 22) = w4 at co cm hB3 hsz ⊢
  refine gen_act fun ACT hACT => ?_
  refine (wpIn_wide (n := 9)).1 ?_
  refine rangeFunc_cell (n := 9) rfl (by omega) (gf := 24) (lb := #[.pointer (some ⟨o + 1, 0, none⟩)]) (by rw [hACT]; rfl) trivial (enters_of Tryd.func24 (by kernel_rfl) rfl)
    (lows_stops Fence.wide 8 trivial rfl (by omega) (o + 1) m hm L HL.out w4 (by omega) (cell_of_block cm 0) (frozen_of_block cm 0))
    (fun h k => ⟨k.1.trans h.1, k.2.trans h.2⟩) (fun W l x x' hl _ _ _ => ⟨World.cell?_of_block (World.putObj_heap_other (by simp; omega)), World.frozen?_of_block (World.putObj_heap_other (by simp; omega))⟩) (Below.refl _ _) (fun _ => rfl)
    (fun pre W => (∃ v, Boxed W o 24 v ∧ W.ownsRow (o + 2) 3 1 v pre.length (pre.map encU) ∧ True) ∧ Below w.heap.size w W ∧ o + 2 ≤ W.heap.size)
    (fun c pre W => False)
    (fun s A B row hs hg hr => ⟨holdsRow_own (o + 2) o 24 3 1 (fun p : List (Fin 64) => p.length) (fun p => p.map encU) (fun _ _ => True) s A B row hs.1 hg (fun r e => (hr r e).2), ownFrom_below (Nat.le_refl _) (by omega) s A B row hs.2.1 hg hr, Nat.le_trans hs.2.2 hg.size⟩)
    (fun c s A B row hs hg hr => hs)
    (fun s A v hs => by
      obtain ⟨⟨u, hu, hr, _⟩, hb, hz⟩ := hs
      have hg := grownBy_setCell' A (o + 1) v
      refine ⟨⟨u, hu.kept hg (by simp), hr.kept hg ?_, trivial⟩, hb.setCell (by simp; omega) _, by have := hg.size; omega⟩
      rcases hr.2 with ⟨rfl, _⟩ | ⟨g, cap, cur, rfl, hbg, _⟩
      · exact .inl rfl
      · refine .inr fun e' => ?_
        have : g = o + 1 := by simpa [Value.ownBlock] using e'
        omega)
    (fun c s A v hs => hs)
    ⟨⟨_, co, ⟨rfl, .inl ⟨rfl, rfl⟩⟩, trivial⟩, hB3, by omega⟩
    (fun x => { tmps := (ACT.tmps.setIfInBounds 7 (.int .u64 ((ubit x : Nat) : Int))).setIfInBounds 4 (.int .u64 ((ubit x : Nat) : Int)), defers := [] }) ?assign ?body ?done ?stop
  case assign =>
    intro l x W K hK
    subst hACT
    gi_wp2
    exact hK
  case body =>
    rintro l pre x W ⟨⟨v, hv, hr, _⟩, hB, hz⟩ hlen
    subst hACT
    have hTW : Tab W.drew := HT.out.later hB.drew hTl
    have HB := Lib.hid hB
    have HTW := Lib.hid hTW
    have hne : v.ownBlock ≠ some o := fun e => hv.not_row (by decide) hr e.symm
    have hlo := hv.lt
    have vc := hv.cell
    have vf := hv.frozen
    clear hB hTW
    gi_wp2
    have d0 : ∀ x : LaterF W (fun k => v.ownBlock = some k), x.wd.cell? ⟨o, 0, none⟩ = some v := fun x => (x.cell hlo hne).trans vc
    have fx0 : Fr W.heap.size (fun k => v.ownBlock = some k) W W.drew := (Fr.refl _ _ _).drew
    have fx1 := (Fr.refl W.heap.size (fun k => v.ownBlock = some k) W).alloc (Nat.le_refl _) (.cells #[.int .i64 (x.val : Nat)] 3)
    refine region_round_mix 2 5 (by kernel_rfl) (by kernel_rfl) (by simp) (fun ⟨_, _, h⟩ => h) (fun w' => ∃ x : LaterF W (fun k => v.ownBlock = some k), w' = x.wd) (fun c a a' w2 hd h => h) ⟨⟨_, fx0⟩, rfl⟩ ?_
    dsimp only [List.take, List.drop, List.length]
    repeat (quiet_step (fail))
    refine wpQuiet_nil ?_
    clear d0
    refine Rg.wpT_step (fun K hK => ?_) ⟨⟨_, fx0⟩, rfl⟩
    go_simp
    refine (tz_bit x _ HTW.out).mono ?_
    rintro e w' ⟨rfl, rfl⟩
    refine hK _ _ (fun _ => ⟨⟨_, fx0⟩, rfl⟩) ?_
    clear hK K
    refine Rg.wpT_step (fun K hK => ?_) ⟨⟨_, fx0⟩, rfl⟩
    go_simp
    refine hK _ _ (fun _ => ⟨⟨_, fx1.drew⟩, rfl⟩) ?_
    clear hK K
    refine Rg.wpT_step (fun K hK => ?_) ⟨⟨_, fx1.drew⟩, rfl⟩
    refine step_append_lies _ (by rfl) _ _ _ (by rfl) (o + 2) 3 i0 _ 1 8 Tryd.underlying24 hi0 hz0 hz1 hz2 rfl (by omega) v pre.length _ (by rfl) ((hr.alloc _).drew)
      ⟨W.heap.size, 0, none⟩ 1 1 [.int .i64 (x.val : Nat)] (by rfl) (by rfl) (World.news_of_block (cs := #[.int .i64 (x.val : Nat)]) (t := 3) (fr := (0, 0)) ?nb) (by simp [Value.oneCell'])
      (by omega) (by unfold maxLen; omega) (by omega) (by simp; omega) (W.heap.size + 1) (by simp) ?_
    case nb => exact World.alloc_heap_new _ _
    intro gg cap' w2 hown2 hgrow hat hlt2
    have fx3 := fx1.drew.grown hgrow (by simp) (fun j e => .inr e)
    refine hK _ _ (fun _ => ⟨⟨_, fx3⟩, rfl⟩) ?_
    clear hK K
    refine Rg.wpT_list (Nat.le_refl _) ?_
    have hgrow' : (W.alloc (.cells #[.int .i64 (x.val : Nat)] 3)).grownBy w2 v.ownBlock := ⟨hgrow.os, hgrow.tape, hgrow.output, hgrow.size, hgrow.block⟩
    obtain ⟨b1, b2, b3, b4, b5⟩ := hv.appended (by decide) (ownsRow_base' hr (show o ≤ o + 2 by omega)) (by omega) (Nat.le_refl _) (ownsRow_base' hown2 (show o ≤ o + 2 by omega)) hgrow'
    have own3 := hown2.kept (grownBy_setCell' w2 o (.slice (some ⟨gg, 0, none⟩) (pre.length + 1) cap')) (.inr (b1.not_row (by decide) hown2).symm)
    have e0 := b1.cell
    have e1 := b1.frozen
    clear vc vf
    have HOWN := Lib.hid own3; have H2 := Lib.hid b2; have H4 := Lib.hid b4; have H5 := Lib.hid b5
    clear own3 b2 b3 b4 b5 hown2 hat
    go_wp2
    have hno : v.ownBlock ≠ some (o + 1) := fun e => by have := (hr.lt _ e).1; omega
    have hbk : (w2.setCell ⟨o, 0, none⟩ (.slice (some ⟨gg, 0, none⟩) (pre.length + 1) cap')).heap[o + 1]? = W.heap[o + 1]? := (Below.heap_setCell w2 ⟨o, 0, none⟩ _ (o + 1) (by simp)).trans (fx3.block (o + 1) (by omega) hno)
    refine ⟨H4.out, ⟨World.cell?_of_block hbk, World.frozen?_of_block hbk⟩, ⟨_, H2.out, ?_, trivial⟩, HB.out.trans (by rw [ho]; exact H5.out), by have := H5.out.size; omega⟩
    have := HOWN.out
    simpa [encU] using this
  case done =>
    rintro D ys W hD rfl ⟨⟨v, hv, hr, _⟩, hB, hz⟩ hK
    subst hACT
    have c1 := hv.cell
    have HB := Lib.hid hB
    clear hB
    go_wp2_with fail
    refine HQ.out _ _ _ ⟨by simp, .inl ⟨_, _, rfl, run_takeDeferred hK, ?_⟩⟩
    refine ⟨_, results_tmp rfl _ _ _, v, ys, rfl, HL.out, ?_, HB.out.trans (belowK_b (w := w) (Nat.le_refl _) W D _ _ (by omega) hK rfl rfl)⟩
    exact ownsRow_putObj (ownsRow_base' hr (by omega)) _ hK rfl
  case stop =>
    rintro D cx pre W hD hpre h
    exact h.elim
end Go.Proofs.YtcfckooammacmaaDoor
