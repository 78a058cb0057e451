/-
  The document's timer: Drop, Set.
-/
import Derived.Test.YtnfdobmjfchegaaRefTimer
set_option linter.unusedVariables false
set_option linter.unusedSimpArgs false
namespace Go.Proofs.Ytnfdobmjfchegaa
open Go.RowKit Go.Maps

theorem infoRef : (Try.prog.info? 47).map (fun i => (i.zero, i.size, i.bytes)) = some (some (.agg #[.int .i64 0, .int .i64 0]), 2, 16) := by kernel_rfl
variable {w w' : World} {pm : Nat} {v : Value} {s : List En}
/-- what the document's timer does: its own cell, and new blocks -/
def RefPost (pm : Nat) (v : Value) (s : List En) (r : Value) (w : World) (e : Ending) (w' : World) : Prop :=
  e = .returned r ∧ ∃ v', RefAt w' pm v' s ∧ Fr w.heap.size (fun q => q = pm) w w' ∧ ∀ q, v'.ownBlock = some q → v.ownBlock = some q ∨ (w.heap.size ≤ q ∧ q < w'.heap.size)
theorem RefPost.same {r : Value} {e : Ending} (h : RefAt w pm v s) (he : e = .returned r) (hb : Below w.heap.size w w') : RefPost pm v s r w e w' :=
  ⟨he, v, h.later hb, Fr.of_below hb _, fun q hq => .inl hq⟩
theorem RefAt.src (h : RefAt w pm v s) {a : Option Addr} {n cap : Nat} (hv : v = .slice a n cap) (lo hi : Nat) (hh : hi ≤ s.length) : ∀ (ad : Addr) (c : Nat), (∀ b o, a = some ⟨b, o, none⟩ → ad = ⟨b, o + lo * 2, none⟩) → Src w 2 (some ad) ((s.take hi).drop lo).length c (((s.take hi).drop lo).flatMap En.cells) := by
  intro ad c had
  refine .inr ⟨ad, rfl, flatE_len _, fun j u hu => ?_⟩
  have hj := (List.getElem?_eq_some_iff.1 hu).1
  rw [flatE_len] at hj
  obtain ⟨q, r, hr, rfl⟩ : ∃ q r, r < 2 ∧ j = q * 2 + r := ⟨j / 2, j % 2, by omega, by omega⟩
  have hq : q < ((s.take hi).drop lo).length := by omega
  rw [flatE_get _ q r hq hr] at hu
  have hl : ((s.take hi).drop lo).length = hi - lo := by simp; omega
  have hx : s[lo + q]? = some (((s.take hi).drop lo)[q]) := by
    have : ((s.take hi).drop lo)[q]? = some (((s.take hi).drop lo)[q]) := List.getElem?_eq_getElem hq
    rw [List.getElem?_drop, List.getElem?_take, if_pos (by omega)] at this
    exact this
  obtain ⟨a', cap', hv', _, _, hc⟩ := h.row
  obtain ⟨b, o, ha, _, _, c0, c1⟩ := hc _ _ hx
  rw [hv] at hv'
  simp only [Value.slice.injEq] at hv'
  obtain ⟨rfl, -, -⟩ := hv'
  rw [had b o ha]
  have e : (⟨b, o + lo * 2, none⟩ : Addr).add (q * 2 + r) = ⟨b, o + lo * 2 + (q * 2 + r), none⟩ := by unfold Addr.add; split <;> simp_all
  rw [e]
  obtain rfl | rfl : r = 0 ∨ r = 1 := by omega
  · rw [show o + lo * 2 + (q * 2 + 0) = o + (lo + q) * 2 by omega, c0]; exact hu
  · rw [show o + lo * 2 + (q * 2 + 1) = o + (lo + q) * 2 + 1 by omega, c1]; exact hu
theorem RefAt.of {v' : Value} {s' : List En} {B : Nat} (ho : w.ownsRow B 47 2 v' s'.length (s'.flatMap En.cells)) (hB : pm < B) (hh : w.heap[pm]? = some (.cells #[v'] 43 (0, 0))) : RefAt w pm v' s' := by
  obtain ⟨h1, ⟨rfl, h0⟩ | ⟨g, cap, cur, rfl, hg, hb, hnc, hm, hsz, ht⟩⟩ := ho
  · exact ⟨hh, ⟨none, 0, by rw [h0], by omega, by unfold maxLen; omega, fun k x hx => by have := (List.getElem?_eq_some_iff.1 hx).1; omega⟩, (fun n cap e => by cases e; exact ⟨rfl, rfl⟩), fun ad n cap e => by cases e⟩
  · refine ⟨hh, ⟨_, cap, rfl, hnc, hm, fun k x hx => ⟨g, 0, rfl, lt_of_block hb, by omega, ?_, ?_⟩⟩, (fun n cap e => by cases e), fun ad n cap e => by cases e; rfl⟩
    all_goals
      obtain ⟨hk, rfl⟩ := List.getElem?_eq_some_iff.1 hx
      rw [cell_of_block hb, ← Array.getElem?_toList]
    · have := flatE_get s' k 0 hk (by omega)
      rw [← ht, List.getElem?_take, if_pos (by omega)] at this
      rw [show 0 + k * 2 = k * 2 + 0 by omega, this]; rfl
    · have := flatE_get s' k 1 hk (by omega)
      rw [← ht, List.getElem?_take, if_pos (by omega)] at this
      rw [show 0 + k * 2 + 1 = k * 2 + 1 by omega, this]; rfl
theorem ens_one (l : List En) : ∀ u ∈ l.flatMap En.cells, u.oneCell' = true := by
  intro u hu
  obtain ⟨x, _, hx⟩ := List.mem_flatMap.1 hu
  simp [En.cells] at hx
  rcases hx with rfl | rfl <;> rfl

set_option maxRecDepth 100000 in
set_option maxHeartbeats 2000000 in
theorem refDrop_any (h : RefAt w pm v s) (hr : Row s) (id : Int) (hl : s.length ≤ 1000000) :
    Calls Try.prog 16 #[.pointer (some ⟨pm, 0, none⟩), .int .i64 id] w (RefPost pm v (dropE s id).2 (.int .i64 (dropE s id).1) w) := by
  have H := Lib.hid h
  have HF := Lib.hid (find_any h id hl)
  cases hk : idxN s id with
  | none =>
    have hlk : lookE s id = none := by rw [look_idx, hk]; rfl
    have HD := Lib.hid (show dropE s id = (3, s) by unfold dropE; rw [hlk])
    have HV := Lib.hid (show idxV s id = -1 by unfold idxV; rw [hk])
    clear h hk hlk
    go_enter Try.func16, Try.ntmps16
    go_wp2_with fail
    refine HF.out.mono ?_
    rintro e w1 ⟨rfl, hb⟩
    rw [HV.out]
    have HB := Lib.hid hb
    clear hb
    go_wp2_with fail
    go_ret
    rw [HD.out]
    exact RefPost.same H.out rfl HB.out
  | some k =>
    obtain ⟨x, hx, he⟩ := idxN_some hk
    have hlk : lookE s id = some x := by rw [look_idx, hk]; exact hx
    have HD := Lib.hid (show dropE s id = (0, s.take k ++ s.drop (k + 1)) by unfold dropE; rw [hlk]; simp only; rw [out_idx hr.ids hk])
    have HV := Lib.hid (show idxV s id = k by unfold idxV; rw [hk])
    have hkn := (List.getElem?_eq_some_iff.1 hx).1
    obtain ⟨a, cap, hv, hlc, hcm, hc⟩ := h.row
    obtain ⟨b, o, ha, hb0, hne, _, _⟩ := hc k x hx
    subst hv ha
    obtain ⟨n, hn⟩ : ∃ n, s.length = n := ⟨_, rfl⟩
    have HN := Lib.hid hn
    rw [hn] at hl hlc hkn
    have hkc : k ≤ cap := by omega
    have hw1 : IntKind.i64.wrap ((k : Int) + 1) = (k : Int) + 1 := by rw [wrap_eq]; unfold wrap64; omega
    have i1 : (k : Int) + 1 ≤ n := by omega
    have i2 : ((k : Int) + 1).toNat = k + 1 := by omega
    have i3 : (0 : Int) ≤ (k : Int) + 1 := by omega
    obtain ⟨ad, hif⟩ : ∃ ad, (if cap = k + 1 then (some ⟨b, o, none⟩ : Option Addr) else some ⟨b, o + (k + 1) * 2, none⟩) = some ad := by split <;> exact ⟨_, rfl⟩
    clear h hk hlk hx hn hc
    go_enter Try.func16, Try.ntmps16
    go_wp2_with fail
    refine HF.out.mono ?_
    rintro e w1 ⟨rfl, hb⟩
    rw [HV.out]
    have h1 := H.out.later hb
    have hh := h1.head
    rw [HN.out] at hh
    have lp := lt_of_block hh
    have q0 : ∀ y : Later w1, y.wd.cell? ⟨pm, 0, none⟩ = some (.slice (some ⟨b, o, none⟩) n cap) := fun y => (y.cell lp).trans (cell_of_block hh 0)
    have HB := Lib.hid hb; have H1 := Lib.hid h1; have HH := Lib.hid hh
    clear hb h1 hh
    go_wp2_with fail
    have fx0 := (Below.refl w1.heap.size w1).drew
    have hs1 := H1.out.src rfl 0 k (by rw [HN.out]; omega) ⟨b, o, none⟩ cap (fun b' o' e => by cases e; simp)
    have hs2 : Src w1 2 (some ad) (n - (k + 1)) (cap - (k + 1)) ((s.drop (k + 1)).flatMap En.cells) := by
      by_cases hc : cap = k + 1
      · have hnil : s.drop (k + 1) = [] := List.drop_eq_nil_of_le (by rw [HN.out]; omega)
        rw [hnil]
        exact .inr ⟨ad, rfl, by simp; omega, fun j u hu => by simp at hu⟩
      · have h2 := H1.out.src rfl (k + 1) n (by rw [HN.out]; omega) ad (cap - (k + 1)) (fun b' o' e => by
          cases e
          rw [if_neg hc] at hif; exact (Option.some.inj hif).symm)
        rw [show s.take n = s by rw [← HN.out]; exact List.take_length, show (s.drop (k + 1)).length = n - (k + 1) by rw [List.length_drop, HN.out]] at h2
        exact h2
    rw [List.drop_zero, show (s.take k).length = k by rw [List.length_take, HN.out]; omega] at hs1
    have HS1 := Lib.hid hs1; have HS2 := Lib.hid hs2
    obtain ⟨i0, hi0, hz0, hz1, hz2⟩ := info_parts infoRef
    clear hs1 hs2
    refine Rg.wp_region_pick (by kernel_rfl) [0, 2, 3, 4, 5, 6, 7, 9, 10, 11, 12, 13, 14, 15] [1, 8, 16, 17, 18, 19] 17 (by kernel_rfl) (by kernel_rfl) (by kernel_rfl) (fun w' => ∃ y : Later w1, w' = y.wd) (fun c a a' w hd h => ⟨hd.symm.trans h.1, h.2⟩) ⟨⟨_, fx0⟩, rfl⟩ ?_
    simp only [Rg.picks, List.getElem?_cons_succ, List.getElem?_cons_zero, Option.toList, List.cons_append, List.nil_append]
    repeat (quiet_step (fail))
    refine wpQuiet_nil ?_
    clear q0
    simp only [Rg.pickn, List.getElem?_cons_succ, List.getElem?_cons_zero, Option.toList, List.map_cons, List.map_nil, List.cons_append, List.nil_append]
    refine Rg.wpN_step (fun K hK => ?_) ⟨⟨_, fx0⟩, rfl⟩
    go_simp
    have B6 : Below w1.heap.size w1 (w1.alloc (.cells #[] 47)).drew := ((Below.refl _ _).alloc (Nat.le_refl _) _).drew
    refine hK _ _ (fun _ => ⟨⟨_, B6⟩, rfl⟩) ?_
    clear hK K
    refine Rg.wpN_step (fun K hK => ?_) ⟨⟨_, B6⟩, rfl⟩
    refine step_append_src _ (by rfl) _ _ _ (by rfl) w1.heap.size 47 i0 _ 2 16 Try.underlying41 hi0 hz0 hz1 hz2 rfl (by omega) (.slice (some ⟨w1.heap.size, 0, none⟩) 0 0) 0 [] (by rfl) (World.ownsRow_made w1 _ 0 (Nat.le_refl _) (by unfold maxLen; omega) rfl).drew
      (some ⟨b, o, none⟩) k cap _ (by rfl) (HS1.out.later B6) (ens_one _) (by unfold maxLen; omega) (by omega) (by simp) ?_
    intro v7 w7 hown7 hg7 hat7
    have B7 : Below w1.heap.size w1 w7 := ((Fr.refl w1.heap.size (fun _ => False) w1).alloc (Nat.le_refl _) _).drew.grown hg7 (by simp) (fun k e => .inl (by simp [Value.ownBlock] at e; omega)) |>.below (Nat.le_refl _) (fun _ h => h.elim)
    refine hK _ _ (fun _ => ⟨⟨_, B7⟩, rfl⟩) ?_
    clear hK K
    refine Rg.wpN_step (fun K hK => ?_) ⟨⟨_, B7⟩, rfl⟩
    refine step_append_src _ (by rfl) _ _ _ (by rfl) w1.heap.size 47 i0 _ 2 16 Try.underlying41 hi0 hz0 hz1 hz2 rfl (by omega) v7 (0 + k) ([] ++ _) (by rfl) hown7
      (some ad) (n - (k + 1)) (cap - (k + 1)) _ (by rfl) (HS2.out.later B7) (ens_one _) (by unfold maxLen; omega) (by omega) B7.size ?_
    intro v8 w8 hown8 hg8 hat8
    have B8 : Below w1.heap.size w1 w8 := (Fr.of_below B7 (fun _ => False)).grown hg8 B7.size (fun k e => .inl ((hown7.lt k e).1)) |>.below (Nat.le_refl _) (fun _ h => h.elim)
    refine hK _ _ (fun _ => ⟨⟨_, B8⟩, rfl⟩) ?_
    clear hK K
    refine Rg.wpN_list (by decide) ?_
    simp only [List.map_cons, List.map_nil]
    have hlen8 : (s.take k ++ s.drop (k + 1)).length = 0 + k + (n - (k + 1)) := by rw [List.length_append, List.length_take, List.length_drop, HN.out]; omega
    have hown9 : w8.ownsRow w1.heap.size 47 2 v8 (s.take k ++ s.drop (k + 1)).length ((s.take k ++ s.drop (k + 1)).flatMap En.cells) := by
      rw [hlen8, List.flatMap_append]; simpa using hown8
    have hh8 := (B8.block _ lp).trans HH.out
    have hv8 : v8.ownBlock ≠ some pm := fun e => by have := (hown9.lt _ e).1; omega
    have Q : RefPost pm (.slice (some ⟨b, o, none⟩) s.length cap) (dropE s id).2 (.int .i64 (dropE s id).1) w (.returned (.int .i64 0)) (w8.setCell ⟨pm, 0, none⟩ v8) := by
      rw [HD.out]
      refine ⟨rfl, v8, RefAt.of (ownsRow_setCell_other hown9 (a := ⟨pm, 0, none⟩) hv8 _) lp (setCell_block hh8 0 v8), ?_, fun q hq => .inr ⟨Nat.le_trans HB.out.size (hown9.lt q hq).1, by simpa [World.setCell] using (hown9.lt q hq).2⟩⟩
      exact Fr.setCell (F := fun q => q = pm) ((Fr.of_below HB.out _).trans ((Fr.of_below B8 _).mono HB.out.size fun _ _ e => e)) (p := ⟨pm, 0, none⟩) (.inr rfl) _
    obtain ⟨a8, c8, hva⟩ := own_form hown9
    obtain ⟨m8, hm8⟩ : ∃ m8, (s.take k ++ s.drop (k + 1)).length = m8 := ⟨_, rfl⟩
    rw [hm8] at hva
    rw [hva] at Q ⊢
    have HQ := Lib.hid Q
    have e0 := cell_of_block hh8 0; have e1 := frozen_of_block hh8 0
    have lp8 := lt_of_block hh8
    clear hown7 hown8 hown9 hg7 hg8 hat7 hat8 hlen8 hh8 Q B6 B7 B8 hv8 hva hm8
    go_wp2_with fail
    go_ret
    exact HQ.out
end Go.Proofs.Ytnfdobmjfchegaa
