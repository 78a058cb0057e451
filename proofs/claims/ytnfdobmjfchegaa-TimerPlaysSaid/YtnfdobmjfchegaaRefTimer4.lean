/-
  The document's timer: Set, Due.
-/
import Derived.Test.YtnfdobmjfchegaaRefTimer3
set_option linter.unusedVariables false
set_option linter.unusedSimpArgs false
namespace Go.Proofs.Ytnfdobmjfchegaa
open Go.RowKit Go.Maps

variable {w w' : World} {pm : Nat} {v : Value} {s : List En}
theorem idx_none {s : List En} {id : Int} (h : idxN s id = none) : lookE s id = none := by rw [look_idx, h]; rfl
set_option maxHeartbeats 1000000 in
theorem refSet_any (h : RefAt w pm v s) (hr : Row s) (id tick : Int) (hl : s.length ≤ 1000000) :
    Calls Try.prog 15 #[.pointer (some ⟨pm, 0, none⟩), .int .i64 id, .int .i64 tick] w (RefPost pm v (setE s id tick).2 (.int .i64 (setE s id tick).1) w) := by
  by_cases h1 : tick < 0
  · have HS := Lib.hid (show setE s id tick = (1, s) by unfold setE; rw [if_pos (.inl h1)])
    have H := Lib.hid h
    clear h
    rw [HS.out]
    go_enter Try.func15, Try.ntmps15
    go_wp2_with fail
    go_ret
    exact RefPost.same H.out rfl (Below.refl _ _)
  by_cases h2 : 1073741824 < tick
  · have HS := Lib.hid (show setE s id tick = (1, s) by unfold setE; rw [if_pos (.inr h2)])
    have H := Lib.hid h
    have h3 : decide (tick < 0) = false := by simpa using h1
    clear h h1
    rw [HS.out]
    go_enter Try.func15, Try.ntmps15
    go_wp2_with fail
    go_ret
    exact RefPost.same H.out rfl (Below.refl _ _)
  have hne : ¬ (tick < 0 ∨ 1073741824 < tick) := fun e => e.elim h1 h2
  cases hk : idxN s id with
  | none =>
    have hlk := idx_none hk
    by_cases hf : 4096 ≤ s.length
    · have HS := Lib.hid (show setE s id tick = (2, s) by unfold setE; rw [if_neg hne, hlk]; exact if_pos hf)
      have H := Lib.hid h
      have HV := Lib.hid (show idxV s id = -1 by unfold idxV; rw [hk])
      have HF := Lib.hid (find_any h id hl)
      have ht1 : decide (tick < 0) = false := by simpa using h1
      have ht2 : decide ((1073741824 : Int) < tick) = false := by simpa using h2
      have hf2 : decide ((4096 : Int) ≤ (s.length : Int)) = true := by simp; omega
      clear h h1 h2 hne hk hlk hf hl
      rw [HS.out]
      go_enter Try.func15, Try.ntmps15
      go_wp2_with fail
      refine HF.out.mono ?_
      rintro e w1 ⟨rfl, hb⟩
      rw [HV.out]
      have h1 := H.out.later hb
      have q0 := cell_of_block h1.head 0
      have lp := lt_of_block h1.head
      obtain ⟨a, cap, rfl, _⟩ := h1.row
      have HB := Lib.hid hb
      clear hb h1
      go_wp2_with fail
      go_ret
      exact RefPost.same H.out rfl HB.out
    · rw [show setE s id tick = (0, insE ⟨tick, id⟩ (outE s id)) by unfold setE; rw [if_neg hne, hlk]; exact if_neg hf]
      exact refSet_go h hr id tick hl (by omega) (fun _ => by omega)
  | some k =>
    obtain ⟨x, hx, he⟩ := idxN_some hk
    have hlk : lookE s id = some x := by rw [look_idx, hk]; exact hx
    have hgo := refSet_go h hr id tick hl (by omega) (fun h' => by rw [hk] at h'; cases h')
    by_cases ht : x.tick = tick
    · have ex : x = ⟨tick, id⟩ := by
        obtain ⟨xt, xi⟩ := x
        simp only at ht he
        rw [ht, he]
      have hm : (⟨tick, id⟩ : En) ∈ s := ex ▸ List.mem_of_getElem? hx
      have hs : insE ⟨tick, id⟩ (outE s id) = s := ins_out hr hm
      have hres : setE s id tick = (0, insE ⟨tick, id⟩ (outE s id)) := by
        rw [hs]; unfold setE; rw [if_neg hne, hlk]; exact if_pos ht
      rw [hres]
      exact hgo
    · rw [show setE s id tick = (0, insE ⟨tick, id⟩ (outE s id)) by unfold setE; rw [if_neg hne, hlk]; exact if_neg ht]
      exact hgo

def RefDue (pm : Nat) (v : Value) (s : List En) (now : Int) (w : World) (e : Ending) (w' : World) : Prop :=
  ∃ vo, e = .returned vo ∧ w'.ownsRow w.heap.size 3 1 vo (dueE s now).length (idsV (dueE s now)) ∧ ∃ v', RefAt w' pm v' (restE s now) ∧ Fr w.heap.size (fun q => q = pm) w w' ∧ ∀ q, v'.ownBlock = some q → v.ownBlock = some q
set_option maxHeartbeats 4000000 in
theorem refDue_any (h : RefAt w pm v s) (now : Int) (hl : s.length ≤ 1000000) : Calls Try.prog 17 #[.pointer (some ⟨pm, 0, none⟩), .int .i64 now] w (RefDue pm v s now w) := by
  have lp := lt_of_block h.head
  have H := Lib.hid h
  clear h
  obtain ⟨i0, hi0, hz0, hz1, hz2⟩ := info_parts infoInt
  go_enter Try.func17, Try.ntmps17
  go_wp2_with fail
  go_loopw [5] (fun vw wr => ∃ vo done rest v', vw = vo ∧ RefAt wr pm v' rest ∧ Hid (s = done ++ rest ∧ (∀ r, dueE (done ++ r) now = done ++ dueE r now ∧ restE (done ++ r) now = restE r now) ∧ wr.ownsRow w.heap.size 3 1 vo done.length (idsV done) ∧ Fr w.heap.size (fun q => q = pm) w wr ∧ ∀ q, v'.ownBlock = some q → v.ownBlock = some q)) (fun _ wr => rowLen (wr.cell? ⟨pm, 0, none⟩))
  case atStart => exact ⟨_, [], s, v, rfl, H.out, Lib.hid ⟨rfl, fun r => ⟨rfl, rfl⟩, World.ownsRow_nil _ _ _ _, Fr.refl _ _ _, fun q hq => hq⟩⟩
  case round =>
    obtain ⟨vo, done, rest, v', hvo, hR, hI⟩ := hrel
    subst hvo
    have q0 := cell_of_block hR.head 0; have z0 := frozen_of_block hR.head 0
    have lpr := lt_of_block hR.head
    have HR := Lib.hid hR
    have hdl : done.length ≤ 1000000 := by
      have := congrArg List.length hI.out.1
      simp only [List.length_append] at this
      omega
    obtain ⟨a, cap, rfl, hlc, hcm, hc⟩ := hR.row
    cases rest with
    | nil =>
      have hd := (hI.out.2.1 [])
      have Q : RefDue pm v s now w (.returned u5) wr := by
        refine ⟨_, rfl, ?_, _, ?_, hI.out.2.2.2.1, hI.out.2.2.2.2⟩
        · rw [hI.out.1, hd.1]; simpa [dueE] using hI.out.2.2.1
        · rw [hI.out.1, hd.2]; exact HR.out
      have HQ := Lib.hid Q
      rw [List.length_nil] at q0
      clear Q hd hR hc hlc
      go_wp2_with fail
      go_ret
      exact HQ.out
    | cons x r =>
      have hd := (hI.out.2.1 (x :: r))
      obtain ⟨b, o, rfl, hb, hbpm, c0, c1⟩ := hc 0 x rfl
      simp only [Nat.zero_mul, Nat.add_zero] at c0 c1
      obtain ⟨n, hn⟩ : ∃ n, (x :: r).length = n + 1 := ⟨r.length, rfl⟩
      have HN := Lib.hid hn
      rw [hn] at q0 hlc
      by_cases hx : now < x.tick
      · have hx1 : decide (x.tick ≤ now) = false := by simp; omega
        have Q : RefDue pm v s now w (.returned u5) wr := by
          have hst := due_stop (r := r) hx
          refine ⟨_, rfl, ?_, _, ?_, hI.out.2.2.2.1, hI.out.2.2.2.2⟩
          · rw [hI.out.1, hd.1, hst.1]; simpa using hI.out.2.2.1
          · rw [hI.out.1, hd.2, hst.2]; exact HR.out
        have HQ := Lib.hid Q
        clear Q hd hR hc hlc hn
        go_wp2_with fail
        go_ret
        exact HQ.out
      · have hx1 : decide (x.tick ≤ now) = true := by simp; omega
        obtain ⟨a5, cap5, hv5⟩ := own_form hI.out.2.2.1
        have hR1 := hI.out.2.2.1
        rw [hv5] at hR1 ⊢
        obtain ⟨dn, hdn⟩ : ∃ dn, done.length = dn := ⟨_, rfl⟩
        rw [hdn] at hR1 hdl ⊢
        have HO2 := Lib.hid hR1; have HV5 := Lib.hid (show u5.ownBlock = (Value.slice a5 dn cap5).ownBlock by rw [hv5, hdn]); have HDN := Lib.hid hdn
        have hWr := hI.out.2.2.2.1.size
        obtain ⟨ad, hif⟩ : ∃ ad, (if cap = 1 then (some ⟨b, o, none⟩ : Option Addr) else some ⟨b, o + 2, none⟩) = some ad := by split <;> exact ⟨_, rfl⟩
        clear hR1 hv5 hdn hd hR hc hn
        go_wp2_with (at_builtin; refine wpList_append_lies _ rfl _ _ _ rfl w.heap.size 3 i0 _ 1 8 Try.underlying29 hi0 hz0 hz1 hz2 rfl (by omega) (.slice a5 dn cap5) dn _ rfl (HO2.out.alloc _) ⟨wr.heap.size, 0, none⟩ 1 1 [.int .i64 x.id] rfl rfl (World.news_of_block (cs := #[.int .i64 x.id]) (t := 3) (fr := (0, 0)) (World.alloc_heap_new _ _)) (by simp [Value.oneCell']) (by omega) (by unfold maxLen; omega) (by omega) (by simp; omega) (wr.heap.size + 1) (by simp) ?_)
        intro gg cap' w3 hown3 hgrow hat hlt3
        have hbW : b < w.heap.size := by
          obtain ⟨a', cap0, hv, _, _, hc0⟩ := H.out.row
          obtain ⟨b', o', ha', hb', _⟩ := hc0 0 (s[0]'(by rw [hI.out.1]; simp; omega)) (List.getElem?_eq_getElem _)
          have h1 := hI.out.2.2.2.2 b rfl
          rw [hv, ha'] at h1
          simp [Value.ownBlock] at h1
          omega
        have hown5 : ∀ q, u5.ownBlock = some q → w.heap.size ≤ q := fun q hq => (HO2.out.lt q (by rw [← HV5.out]; exact hq)).1
        have hF3 : Fr wr.heap.size (fun q => u5.ownBlock = some q) wr w3 := by
          refine Fr.grown ((Fr.refl _ _ _).alloc (Nat.le_refl _) _) hgrow (by simp) (fun q e => .inr ?_)
          exact HV5.out.trans e
        have hpm3 : w3.heap[pm]? = wr.heap[pm]? := hF3.block pm lpr (fun e => by have := hown5 _ e; omega)
        have hb3 : w3.heap[b]? = wr.heap[b]? := hF3.block b hb (fun e => by have := hown5 _ e; omega)
        have hgg : gg ≠ pm := fun e => by have := (hown3.lt gg rfl).1; omega
        have had : ad = ⟨b, o + 2, none⟩ ∨ (ad = ⟨b, o, none⟩ ∧ n = 0) := by
          by_cases hc : cap = 1
          · rw [if_pos hc] at hif; exact .inr ⟨(Option.some.inj hif).symm, by omega⟩
          · rw [if_neg hc] at hif; exact .inl (Option.some.inj hif).symm
        have hrn : r.length = n := by have := HN.out; simpa using this
        have hR4 : RefAt (w3.setCell ⟨pm, 0, none⟩ (.slice (some ad) n (cap - 1))) pm (.slice (some ad) n (cap - 1)) r := by
          refine ⟨setCell_block (hpm3.trans HR.out.head) 0 _, ⟨_, _, by rw [hrn], by rw [hrn]; omega, by omega, fun k y hy => ?_⟩, (fun n' cap' e => by cases e), fun ad' n' cap' e => ?_⟩
          · obtain ⟨a', cap0, hv, _, _, hc0⟩ := HR.out.row
            obtain ⟨b', o', ha', hb', hn', d0, d1⟩ := hc0 (k + 1) y (by simpa using hy)
            have hk := (List.getElem?_eq_some_iff.1 hy).1
            simp only [Value.slice.injEq] at hv
            rw [ha'] at hv
            simp only [Option.some.injEq, Addr.mk.injEq, and_true] at hv
            obtain ⟨⟨rfl, rfl⟩, -⟩ := hv
            have hadd : ad = ⟨b, o + 2, none⟩ := had.resolve_right (fun h => by omega)
            subst hadd
            have hblk : (w3.setCell ⟨pm, 0, none⟩ (.slice (some ⟨b, o + 2, none⟩) n (cap - 1))).heap[b]? = wr.heap[b]? := (setCell_other _ (by exact hn')).trans hb3
            refine ⟨b, o + 2, rfl, ?_, hn', ?_, ?_⟩
            · have := hF3.size; simp [World.setCell]; omega
            · rw [World.cell?_of_block (a := ⟨b, o + 2 + k * 2, none⟩) hblk, show o + 2 + k * 2 = o + (k + 1) * 2 by omega]; exact d0
            · rw [World.cell?_of_block (a := ⟨b, o + 2 + k * 2 + 1, none⟩) hblk, show o + 2 + k * 2 + 1 = o + (k + 1) * 2 + 1 by omega]; exact d1
          · cases e
            rcases had with h | h
            · rw [h]
            · rw [h.1]
        have hfr4 : Fr w.heap.size (fun q => q = pm) w (w3.setCell ⟨pm, 0, none⟩ (.slice (some ad) n (cap - 1))) := by
          refine Fr.setCell (F := fun q => q = pm) ?_ (.inr rfl) _
          exact hI.out.2.2.2.1.trans (hF3.mono hI.out.2.2.2.1.size fun q hq e => by have := hown5 q e; omega)
        have hown4 : (w3.setCell ⟨pm, 0, none⟩ (.slice (some ad) n (cap - 1))).ownsRow w.heap.size 3 1 (.slice (some ⟨gg, 0, none⟩) (dn + 1) cap') (dn + 1) (idsV done ++ [.int .i64 x.id]) :=
          ownsRow_setCell_other hown3 (a := ⟨pm, 0, none⟩) (by simp [Value.ownBlock]; exact hgg) _
        have q3 : w3.cell? ⟨pm, 0, none⟩ = some (.slice (some ⟨b, o, none⟩) (n + 1) cap) := (World.cell?_of_block (a := ⟨pm, 0, none⟩) hpm3).trans q0
        have z3 : w3.frozen? ⟨pm, 0, none⟩ = false := (World.frozen?_of_block (a := ⟨pm, 0, none⟩) hpm3).trans z0
        have lp3 := Nat.lt_of_lt_of_le lpr hF3.size
        have had2 : ad.block = b := by rcases had with h | h <;> simp [h]
        have HR4 := Lib.hid hR4; have HFR4 := Lib.hid hfr4; have HO4 := Lib.hid hown4; have HQ0 := Lib.hid q0; have HAD2 := Lib.hid had2
        clear hR4 hfr4 hown4 hown3 hgrow hat hlt3 hF3 hpm3 hb3 hown5 had hrn q0 had2
        go_wp2_with fail
        refine ⟨⟨_, done ++ [x], r, _, rfl, HR4.out, Lib.hid ⟨by rw [hI.out.1]; simp, fun r' => ?_, ?_, HFR4.out, fun q hq => hI.out.2.2.2.2 q ?_⟩⟩, ?_⟩
        · have h1 := hI.out.2.1 (x :: r')
          have h2 := due_cons (r := r') (show x.tick ≤ now by simpa using hx1)
          rw [List.append_assoc]
          exact ⟨by rw [List.cons_append, List.nil_append, h1.1, h2.1]; simp, by rw [List.cons_append, List.nil_append, h1.2, h2.2]⟩
        · have h5 : idsV (done ++ [x]) = idsV done ++ [.int .i64 x.id] := by simp [idsV]
          rw [h5, show (done ++ [x]).length = dn + 1 by simp [HDN.out]]
          exact HO4.out
        · simp [Value.ownBlock] at hq ⊢
          rw [← hq, HAD2.out]
        · rw [cell_of_block HR4.out.head 0, HQ0.out]
          show n < n + 1
          omega
end Go.Proofs.Ytnfdobmjfchegaa
