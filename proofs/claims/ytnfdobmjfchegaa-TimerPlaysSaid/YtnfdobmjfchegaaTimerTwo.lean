/-
  Two timers and the blocks of a law, kept together.
-/
import Derived.Test.YtnfdobmjfchegaaTimerBook
set_option linter.unusedVariables false
set_option linter.unusedSimpArgs false
namespace Go.Proofs.Ytnfdobmjfchegaa
open Go.RowKit Go.Maps

structure TK2 (W w : World) (p1 N1 : Nat) (s1 : List En) (p2 N2 : Nat) (s2 : List En) (L : List (Nat × Array Value × TypeId)) : Prop where
  ex : ∃ b1 M1 v1 b2 M2 v2, TmAt w b1 p1 M1 v1 N1 s1 ∧ TmAt w b2 p2 M2 v2 N2 s2 ∧ (∀ q, TF p1 M1 v1 q → W.heap.size ≤ q ∧ ¬ TF p2 M2 v2 q ∧ ∀ x ∈ L, x.1 ≠ q) ∧ ∀ q, TF p2 M2 v2 q → W.heap.size ≤ q ∧ ∀ x ∈ L, x.1 ≠ q
  kept : Kept W w L
variable {W w w' : World} {p1 N1 p2 N2 : Nat} {s1 s2 : List En} {L : List (Nat × Array Value × TypeId)}
theorem TK2.swap (h : TK2 W w p1 N1 s1 p2 N2 s2 L) : TK2 W w p2 N2 s2 p1 N1 s1 L := by
  obtain ⟨b1, M1, v1, b2, M2, v2, h1, h2, h3, h4⟩ := h.ex
  exact ⟨⟨b2, M2, v2, b1, M1, v1, h2, h1, fun q hq => ⟨(h4 q hq).1, fun hn => (h3 q hn).2.1 hq, (h4 q hq).2⟩, fun q hq => ⟨(h3 q hq).1, (h3 q hq).2.2⟩⟩, h.kept⟩
theorem TK2.below (h : TK2 W w p1 N1 s1 p2 N2 s2 L) : Below W.heap.size W w := h.kept.below
theorem TK2.later (h : TK2 W w p1 N1 s1 p2 N2 s2 L) (hb : Below w.heap.size w w') : TK2 W w' p1 N1 s1 p2 N2 s2 L := by
  obtain ⟨b1, M1, v1, b2, M2, v2, h1, h2, h3, h4⟩ := h.ex
  exact ⟨⟨b1, M1, v1, b2, M2, v2, h1.later hb, h2.later hb, h3, h4⟩, h.kept.later hb⟩
theorem TK2.sub (h : TK2 W w p1 N1 s1 p2 N2 s2 L) {L' : List (Nat × Array Value × TypeId)} (hL : ∀ x ∈ L', x ∈ L) : TK2 W w p1 N1 s1 p2 N2 s2 L' := by
  obtain ⟨b1, M1, v1, b2, M2, v2, h1, h2, h3, h4⟩ := h.ex
  exact ⟨⟨b1, M1, v1, b2, M2, v2, h1, h2, fun q hq => ⟨(h3 q hq).1, (h3 q hq).2.1, fun x hx => (h3 q hq).2.2 x (hL x hx)⟩, fun q hq => ⟨(h4 q hq).1, fun x hx => (h4 q hq).2 x (hL x hx)⟩⟩, h.kept.weaken hL⟩
theorem TK2.moreBoth (h : TK2 W w p1 N1 s1 p2 N2 s2 L) : TK2 W w p1 (N1 + 1) s1 p2 (N2 + 1) s2 L := by
  obtain ⟨b1, M1, v1, b2, M2, v2, h1, h2, h3, h4⟩ := h.ex
  exact ⟨⟨b1, M1, v1, b2, M2, v2, h1.more (Nat.le_succ _), h2.more (Nat.le_succ _), h3, h4⟩, h.kept⟩
theorem TK2.row1 (h : TK2 W w p1 N1 s1 p2 N2 s2 L) : Row s1 := by
  obtain ⟨b1, M1, v1, b2, M2, v2, h1, _⟩ := h.ex
  exact h1.row
theorem TK2.start (h : TK W w p1 N1 s1 L) : Calls Try.prog 8 #[] w fun e w' => ∃ p, e = .returned (.pointer (some ⟨p, 0, none⟩)) ∧ TK2 W w' p1 N1 s1 p 0 [] L :=
  (new_any w).mono fun e w' ⟨he, hB, hb⟩ => ⟨_, he, by
    obtain ⟨base, M, v, hT, hF⟩ := h.ex
    have hsz := h.kept.size
    have hge : ∀ q, TF (w.heap.size + 1) w.heap.size (.slice none 0 0) q → w.heap.size ≤ q := fun q hq => by
      rcases hq with rfl | rfl | hq
      · omega
      · omega
      · simp [Value.ownBlock] at hq
    exact ⟨⟨base, M, v, _, _, _, hT.later hb, hB, fun q hq => ⟨(hF q hq).1, fun h2 => by have := hT.lt hq; have := hge q h2; omega, (hF q hq).2⟩, fun q hq => ⟨Nat.le_trans hsz (hge q hq), fun x hx e => by have := lt_of_block (h.kept.blk x hx); have := hge q hq; omega⟩⟩, h.kept.later hb⟩⟩
theorem TK2.of {b1 M1 N' : Nat} {v1 r : Value} {s' : List En} {b2 M2 : Nat} {v2 : Value} {e : Ending} (h1 : TmAt w b1 p1 M1 v1 N1 s1) (h2 : TmAt w b2 p2 M2 v2 N2 s2) (h3 : ∀ q, TF p1 M1 v1 q → W.heap.size ≤ q ∧ ¬ TF p2 M2 v2 q ∧ ∀ x ∈ L, x.1 ≠ q) (h4 : ∀ q, TF p2 M2 v2 q → W.heap.size ≤ q ∧ ∀ x ∈ L, x.1 ≠ q) (hk : Kept W w L)
    (hp : TmPost b1 p1 M1 v1 N' s' r w e w') : e = .returned r ∧ TK2 W w' p1 N' s' p2 N2 s2 L := by
  obtain ⟨he, v', hT, hfr, hn⟩ := hp
  have hsz := hk.size
  refine ⟨he, ⟨b1, M1, v', b2, M2, v2, hT, h2.frame (fun q hq => hfr.block q (h2.lt hq) (fun h => (h3 q h).2.1 hq)) hfr.size, fun q hq => ?_, h4⟩, hk.chg hfr fun q hq => ⟨(h3 q hq).1, (h3 q hq).2.2⟩⟩
  rcases hn q hq with h | h
  · exact h3 q h
  · exact ⟨by omega, fun h' => by have := h2.lt h'; omega, fun x hx e => by have := lt_of_block (hk.blk x hx); omega⟩
theorem TK2.set (h : TK2 W w p1 N1 s1 p2 N2 s2 L) (id tick : Int) (hid : okInt id) (hN : N1 < 1000000) :
    Calls Try.prog 9 #[.pointer (some ⟨p1, 0, none⟩), .int .i64 id, .int .i64 tick] w fun e w' => e = .returned (.int .i64 (setE s1 id tick).1) ∧ TK2 W w' p1 (N1 + 1) (setE s1 id tick).2 p2 N2 s2 L := by
  obtain ⟨b1, M1, v1, b2, M2, v2, h1, h2, h3, h4⟩ := h.ex
  exact (set_any h1 id tick hid hN).mono fun e w' hp => TK2.of h1 h2 h3 h4 h.kept hp
theorem TK2.drop (h : TK2 W w p1 N1 s1 p2 N2 s2 L) (id : Int) (hid : okInt id) :
    Calls Try.prog 12 #[.pointer (some ⟨p1, 0, none⟩), .int .i64 id] w fun e w' => e = .returned (.int .i64 (dropE s1 id).1) ∧ TK2 W w' p1 N1 (dropE s1 id).2 p2 N2 s2 L := by
  obtain ⟨b1, M1, v1, b2, M2, v2, h1, h2, h3, h4⟩ := h.ex
  exact (drop_any h1 id hid).mono fun e w' hp => TK2.of h1 h2 h3 h4 h.kept hp
theorem TK2.len (h : TK2 W w p1 N1 s1 p2 N2 s2 L) : Calls Try.prog 10 #[.pointer (some ⟨p1, 0, none⟩)] w fun e w' => e = .returned (.int .i64 s1.length) ∧ TK2 W w' p1 N1 s1 p2 N2 s2 L := by
  obtain ⟨b1, M1, v1, b2, M2, v2, h1, h2, h3, h4⟩ := h.ex
  exact (len_any h1).mono fun e w' hp => ⟨hp.1, h.later hp.2⟩
theorem TK2.next (h : TK2 W w p1 N1 s1 p2 N2 s2 L) (hN : N1 < 1000000) : Calls Try.prog 13 #[.pointer (some ⟨p1, 0, none⟩)] w fun e w' => e = .returned (.tuple #[.int .i64 (headE s1).tick, .bool (!s1.isEmpty)]) ∧ TK2 W w' p1 N1 s1 p2 N2 s2 L := by
  obtain ⟨b1, M1, v1, b2, M2, v2, h1, h2, h3, h4⟩ := h.ex
  exact (next_any h1 hN).mono fun e w' hp => TK2.of h1 h2 h3 h4 h.kept hp
/-- a row of integers, one of the blocks that are kept -/
def RowV (W : World) (L : List (Nat × Array Value × TypeId)) (v : Value) (xs : List Int) : Prop :=
  (v = .slice none 0 0 ∧ xs = []) ∨ ∃ g cap cur, v = .slice (some ⟨g, 0, none⟩) xs.length cap ∧ W.heap.size ≤ g ∧ xs.length ≤ cap ∧ cap ≤ maxLen ∧ cur.size = cap * 1 ∧ cur.toList.take (xs.length * 1) = xs.map (Value.int .i64) ∧ (g, cur, 3) ∈ L
theorem RowV.mono {v : Value} {xs : List Int} (h : RowV W L v xs) {L' : List (Nat × Array Value × TypeId)} (hL : ∀ x ∈ L, x ∈ L') : RowV W L' v xs := by
  rcases h with h | ⟨g, cap, cur, h1, h2, h3, h4, h5, h6, h7⟩
  · exact .inl h
  · exact .inr ⟨g, cap, cur, h1, h2, h3, h4, h5, h6, hL _ h7⟩
theorem RowV.own {v : Value} {xs : List Int} (h : RowV W L v xs) (hk : Kept W w L) : w.ownsRow W.heap.size 3 1 v xs.length (xs.map (Value.int .i64)) := by
  rcases h with ⟨rfl, rfl⟩ | ⟨g, cap, cur, rfl, h2, h3, h4, h5, h6, h7⟩
  · exact World.ownsRow_nil _ _ _ _
  · exact ⟨by simp, .inr ⟨g, cap, cur, rfl, h2, hk.blk _ h7, h3, h4, h5, h6⟩⟩
theorem RowV.int {v : Value} {xs : List Int} (h : RowV W L v xs) (hk : Kept W w L) : IntRow w v xs := by
  rcases h with ⟨rfl, rfl⟩ | ⟨g, cap, cur, rfl, h2, h3, h4, h5, h6, h7⟩
  · exact ⟨none, 0, rfl, fun i x hx => by simp at hx⟩
  · refine ⟨_, cap, rfl, fun i x hx => ⟨g, 0, rfl, ?_, lt_of_block (hk.blk _ h7)⟩⟩
    have hi := (List.getElem?_eq_some_iff.1 hx).1
    rw [cell_of_block (hk.blk _ h7), Nat.zero_add, ← Array.getElem?_toList]
    have h2 : (xs.map (Value.int .i64))[i]? = some (.int .i64 x) := by rw [List.getElem?_map, hx]; rfl
    rw [← h6, List.getElem?_take, if_pos (by omega)] at h2
    exact h2
theorem RowV.form {v : Value} {xs : List Int} (h : RowV W L v xs) : ∃ a cap, v = .slice a xs.length cap := by
  rcases h with ⟨rfl, rfl⟩ | ⟨g, cap, cur, rfl, _⟩
  · exact ⟨none, 0, rfl⟩
  · exact ⟨_, cap, rfl⟩
theorem RowV.src {v : Value} {xs : List Int} (h : RowV W L v xs) (hk : Kept W w L) : ∃ A c, v = .slice A xs.length c ∧ Src w 1 A xs.length c (xs.map (Value.int .i64)) := by
  rcases h with ⟨rfl, rfl⟩ | ⟨g, cap, cur, rfl, h2, h3, h4, h5, h6, h7⟩
  · exact ⟨none, 0, rfl, .inl ⟨rfl, rfl, rfl, rfl⟩⟩
  · refine ⟨_, cap, rfl, .inr ⟨_, rfl, by simp, fun j u hu => ?_⟩⟩
    have hi := (List.getElem?_eq_some_iff.1 hu).1
    simp at hi
    have e : (⟨g, 0, none⟩ : Addr).add j = ⟨g, j, none⟩ := by unfold Addr.add; split <;> simp_all
    rw [e, cell_of_block (hk.blk _ h7), ← Array.getElem?_toList]
    rw [← h6, List.getElem?_take, if_pos (by omega)] at hu
    exact hu
theorem rowV_of {v : Value} {xs : List Int} {B : Nat} (ho : w.ownsRow B 3 1 v xs.length (xs.map (Value.int .i64))) (hB : W.heap.size ≤ B) :
    (v = .slice none 0 0 ∧ xs = []) ∨ ∃ g cur, v.ownBlock = some g ∧ W.heap.size ≤ g ∧ w.heap[g]? = some (.cells cur 3 (0, 0)) ∧ ∀ L, RowV W ((g, cur, 3) :: L) v xs := by
  obtain ⟨h1, ⟨rfl, h0⟩ | ⟨g, cap, cur, rfl, hg, hh, hnc, hm, hsz, ht⟩⟩ := ho
  · exact .inl ⟨rfl, List.length_eq_zero_iff.1 h0⟩
  · exact .inr ⟨g, cur, rfl, by omega, hh, fun L => .inr ⟨g, cap, cur, rfl, by omega, hnc, hm, hsz, ht, List.mem_cons_self ..⟩⟩
theorem TK2.due (h : TK2 W w p1 N1 s1 p2 N2 s2 L) (now : Int) (hN : N1 < 1000000) : Calls Try.prog 11 #[.pointer (some ⟨p1, 0, none⟩), .int .i64 now] w fun e w' => ∃ vo L', e = .returned vo ∧ TK2 W w' p1 N1 (restE s1 now) p2 N2 s2 L' ∧ (∀ x ∈ L, x ∈ L') ∧ RowV W L' vo (idsL (dueE s1 now)) := by
  obtain ⟨b1, M1, v1, b2, M2, v2, h1, h2, h3, h4⟩ := h.ex
  have hsz := h.kept.size
  refine (due_any h1 now hN).mono fun e w' ⟨vo, he, ho, v', hT, hfr, hn, hsep⟩ => ?_
  have h3' : ∀ q, TF p1 M1 v' q → W.heap.size ≤ q ∧ ¬ TF p2 M2 v2 q ∧ ∀ x ∈ L, x.1 ≠ q := fun q hq => by
    rcases hn q hq with h' | h'
    · exact h3 q h'
    · exact ⟨by omega, fun h'' => by have := h2.lt h''; omega, fun x hx e => by have := lt_of_block (h.kept.blk x hx); omega⟩
  have h2' := h2.frame (w' := w') (fun q hq => hfr.block q (h2.lt hq) (fun h => (h3 q h).2.1 hq)) hfr.size
  have hk' := h.kept.chg hfr fun q hq => ⟨(h3 q hq).1, (h3 q hq).2.2⟩
  have e1 : (dueE s1 now).length = (idsL (dueE s1 now)).length := by simp [idsL]
  have e2 : idsV (dueE s1 now) = (idsL (dueE s1 now)).map (Value.int .i64) := by simp [idsV, idsL]
  rw [e1, e2] at ho
  have hown := ho
  rcases rowV_of (W := W) ho hsz with ⟨rfl, h0⟩ | ⟨g, cur, hg, hWg, hblk, hrow⟩
  · exact ⟨_, L, he, ⟨⟨b1, M1, v', b2, M2, v2, hT, h2', h3', h4⟩, hk'⟩, fun _ h => h, .inl ⟨rfl, h0⟩⟩
  · refine ⟨_, (g, cur, 3) :: L, he, ⟨⟨b1, M1, v', b2, M2, v2, hT, h2', fun q hq => ⟨(h3' q hq).1, (h3' q hq).2.1, fun x hx => ?_⟩, fun q hq => ⟨(h4 q hq).1, fun x hx => ?_⟩⟩, hk'.below, fun x hx => ?_⟩, fun _ h => List.mem_cons_of_mem _ h, hrow L⟩
    · rcases List.mem_cons.1 hx with rfl | hx
      · intro e; exact hsep q hq (by rw [hg]; exact congrArg some e)
      · exact (h3' q hq).2.2 x hx
    · rcases List.mem_cons.1 hx with rfl | hx
      · intro e
        have := (hown.lt g hg).1
        have := h2.lt hq
        simp only at e
        omega
      · exact (h4 q hq).2 x hx
    · rcases List.mem_cons.1 hx with rfl | hx
      · exact hblk
      · exact hk'.blk x hx
/-- behind an append onto a row -/
theorem TK2.appended (h : TK2 W w p1 N1 s1 p2 N2 s2 L) {v v' : Value} {xs zs : List Int} (hr : RowV W L v xs) (hg : w.grownBy w' v.ownBlock) (ho : w'.ownsRow W.heap.size 3 1 v' zs.length (zs.map (Value.int .i64))) (hv : v'.ownBlock = v.ownBlock ∨ v'.ownBlock = some w.heap.size) :
    ∃ L', TK2 W w' p1 N1 s1 p2 N2 s2 L' ∧ RowV W L' v' zs := by
  obtain ⟨b1, M1, v1, b2, M2, v2, h1, h2, h3, h4⟩ := h.ex
  have hsz := h.kept.size
  have hv1 : ∀ q, TF p1 M1 v1 q → v.ownBlock ≠ some q := fun q hq e => by
    rcases hr with ⟨rfl, _⟩ | ⟨g, cap, cur, rfl, _, _, _, _, _, h7⟩
    · simp [Value.ownBlock] at e
    · simp [Value.ownBlock] at e
      exact (h3 q hq).2.2 _ h7 e
  have hv2 : ∀ q, TF p2 M2 v2 q → v.ownBlock ≠ some q := fun q hq e => by
    rcases hr with ⟨rfl, _⟩ | ⟨g, cap, cur, rfl, _, _, _, _, _, h7⟩
    · simp [Value.ownBlock] at e
    · simp [Value.ownBlock] at e
      exact (h4 q hq).2 _ h7 e
  have hvW : ∀ q, v.ownBlock = some q → W.heap.size ≤ q := fun q e => ((hr.own h.kept).lt q e).1
  have t1 := h1.frame (w' := w') (fun q hq => hg.block q (h1.lt hq) (fun e => hv1 q hq e.symm)) hg.size
  have t2 := h2.frame (w' := w') (fun q hq => hg.block q (h2.lt hq) (fun e => hv2 q hq e.symm)) hg.size
  have hb : Below W.heap.size W w' := h.kept.below.grown hg hsz (fun q e => hvW q e)
  rcases rowV_of (W := W) ho (Nat.le_refl _) with ⟨rfl, h0⟩ | ⟨g, cur, hgo, hWg, hblk, hrow⟩
  · exact ⟨[], ⟨⟨b1, M1, v1, b2, M2, v2, t1, t2, fun q hq => ⟨(h3 q hq).1, (h3 q hq).2.1, fun x hx => by cases hx⟩, fun q hq => ⟨(h4 q hq).1, fun x hx => by cases hx⟩⟩, hb, fun x hx => by cases hx⟩, .inl ⟨rfl, h0⟩⟩
  · have hne : ∀ q, q < w.heap.size → v.ownBlock ≠ some q → g ≠ q := fun q hq hn e => by
      subst e
      rw [hgo] at hv
      rcases hv with hv | hv
      · exact hn hv.symm
      · simp at hv; omega
    refine ⟨[(g, cur, 3)], ⟨⟨b1, M1, v1, b2, M2, v2, t1, t2, fun q hq => ⟨(h3 q hq).1, (h3 q hq).2.1, fun x hx => ?_⟩, fun q hq => ⟨(h4 q hq).1, fun x hx => ?_⟩⟩, hb, fun x hx => ?_⟩, hrow []⟩
    · rw [List.mem_singleton.1 hx]; exact hne q (h1.lt hq) (hv1 q hq)
    · rw [List.mem_singleton.1 hx]; exact hne q (h2.lt hq) (hv2 q hq)
    · rw [List.mem_singleton.1 hx]; exact hblk
end Go.Proofs.Ytnfdobmjfchegaa
