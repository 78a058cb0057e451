/-
  A timer and the blocks of a law, kept together: the calls restated.
-/
import Derived.Test.YtnfdobmjfchegaaTimerInts
set_option linter.unusedVariables false
set_option linter.unusedSimpArgs false
namespace Go.Proofs.Ytnfdobmjfchegaa
open Go.RowKit Go.Maps

theorem Kept.chg {w0 w w1 : World} {L : List (Nat × Array Value × TypeId)} {F : Nat → Prop} (h : Kept w0 w L) (hf : Fr w.heap.size F w w1) (hF : ∀ q, F q → w0.heap.size ≤ q ∧ ∀ x ∈ L, x.1 ≠ q) : Kept w0 w1 L :=
  ⟨h.below.trans ((hf.mono h.size fun _ _ e => e).below (Nat.le_refl _) fun q hq => (hF q hq).1), fun x hx => (hf.block _ (lt_of_block (h.blk x hx)) fun e => (hF _ e).2 x hx rfl).trans (h.blk x hx)⟩
structure TK (W w : World) (p N : Nat) (s : List En) (L : List (Nat × Array Value × TypeId)) : Prop where
  ex : ∃ base M v, TmAt w base p M v N s ∧ ∀ q, TF p M v q → W.heap.size ≤ q ∧ ∀ x ∈ L, x.1 ≠ q
  kept : Kept W w L
variable {W w w' : World} {p N : Nat} {s : List En} {L : List (Nat × Array Value × TypeId)}
theorem TK.later (h : TK W w p N s L) (hb : Below w.heap.size w w') : TK W w' p N s L := by
  obtain ⟨base, M, v, hB, hF⟩ := h.ex
  exact ⟨⟨base, M, v, hB.later hb, hF⟩, h.kept.later hb⟩
theorem TK.drew (h : TK W w p N s L) : TK W w.drew p N s L := h.later (Below.refl _ _).drew
theorem TK.below (h : TK W w p N s L) : Below W.heap.size W w := h.kept.below
theorem TK.lt (h : TK W w p N s L) : p < w.heap.size := by
  obtain ⟨base, M, v, hB, hF⟩ := h.ex
  exact hB.lt (.inl rfl)
theorem TK.row (h : TK W w p N s L) : Row s := by
  obtain ⟨base, M, v, hB, hF⟩ := h.ex
  exact hB.row
theorem TK.new (h : TK W w p N s L) (cs : Array Value) (t : TypeId) : TK W (w.alloc (.cells cs t)) p N s ((w.heap.size, cs, t) :: L) := by
  obtain ⟨base, M, v, hB, hF⟩ := h.ex
  refine ⟨⟨base, M, v, hB.later ((Below.refl _ _).alloc (Nat.le_refl _) _), fun q hq => ⟨(hF q hq).1, fun x hx => ?_⟩⟩, h.kept.new cs t⟩
  rcases List.mem_cons.1 hx with rfl | hx
  · have := hB.lt hq; simp only; omega
  · exact (hF q hq).2 x hx
theorem TK.sub (h : TK W w p N s L) {L' : List (Nat × Array Value × TypeId)} (hL : ∀ x ∈ L', x ∈ L) : TK W w p N s L' := by
  obtain ⟨base, M, v, hB, hF⟩ := h.ex
  exact ⟨⟨base, M, v, hB, fun q hq => ⟨(hF q hq).1, fun x hx => (hF q hq).2 x (hL x hx)⟩⟩, h.kept.weaken hL⟩
theorem TK.more (h : TK W w p N s L) {N' : Nat} (hN : N ≤ N') : TK W w p N' s L := by
  obtain ⟨base, M, v, hB, hF⟩ := h.ex
  exact ⟨⟨base, M, v, hB.more hN, hF⟩, h.kept⟩
theorem TK.grow {M : Nat} {v v' : Value} (h : TK W w p N s L) (hF : ∀ q, TF p M v q → W.heap.size ≤ q ∧ ∀ x ∈ L, x.1 ≠ q) (hn : ∀ q, TF p M v' q → TF p M v q ∨ w.heap.size ≤ q) : ∀ q, TF p M v' q → W.heap.size ≤ q ∧ ∀ x ∈ L, x.1 ≠ q := fun q hq => by
  rcases hn q hq with hq | hq
  · exact hF q hq
  · have := h.kept.size
    exact ⟨by omega, fun x hx => by have := lt_of_block (h.kept.blk x hx); omega⟩
theorem TK.of {base M N' : Nat} {v r : Value} {s' : List En} {e : Ending} (h : TK W w p N s L) (hF : ∀ q, TF p M v q → W.heap.size ≤ q ∧ ∀ x ∈ L, x.1 ≠ q) (hp : TmPost base p M v N' s' r w e w') : e = .returned r ∧ TK W w' p N' s' L := by
  obtain ⟨he, v', hT, hfr, hn⟩ := hp
  exact ⟨he, ⟨base, M, v', hT, h.grow hF hn⟩, h.kept.chg hfr hF⟩
theorem TK.start (hK : Kept W w L) : Calls Try.prog 8 #[] w fun e w' => ∃ p, e = .returned (.pointer (some ⟨p, 0, none⟩)) ∧ TK W w' p 0 [] L :=
  (new_any w).mono fun e w' ⟨he, hB, hb⟩ => ⟨_, he, ⟨_, _, _, hB, fun q hq => by
    have hsz := hK.size
    have hge : w.heap.size ≤ q := by
      rcases hq with rfl | rfl | hq
      · omega
      · omega
      · simp [Value.ownBlock] at hq
    exact ⟨by omega, fun x hx => by have := lt_of_block (hK.blk x hx); omega⟩⟩, hK.later hb⟩
theorem TK.set (h : TK W w p N s L) (id tick : Int) (hid : okInt id) (hN : N < 1000000) :
    Calls Try.prog 9 #[.pointer (some ⟨p, 0, none⟩), .int .i64 id, .int .i64 tick] w fun e w' => e = .returned (.int .i64 (setE s id tick).1) ∧ TK W w' p (N + 1) (setE s id tick).2 L := by
  obtain ⟨base, M, v, hB, hF⟩ := h.ex
  exact (set_any hB id tick hid hN).mono fun e w' hp => h.of hF hp
theorem TK.drop (h : TK W w p N s L) (id : Int) (hid : okInt id) :
    Calls Try.prog 12 #[.pointer (some ⟨p, 0, none⟩), .int .i64 id] w fun e w' => e = .returned (.int .i64 (dropE s id).1) ∧ TK W w' p N (dropE s id).2 L := by
  obtain ⟨base, M, v, hB, hF⟩ := h.ex
  exact (drop_any hB id hid).mono fun e w' hp => h.of hF hp
theorem TK.len (h : TK W w p N s L) : Calls Try.prog 10 #[.pointer (some ⟨p, 0, none⟩)] w fun e w' => e = .returned (.int .i64 s.length) ∧ TK W w' p N s L := by
  obtain ⟨base, M, v, hB, hF⟩ := h.ex
  exact (len_any hB).mono fun e w' hp => ⟨hp.1, h.later hp.2⟩
theorem TK.at (h : TK W w p N s L) (id : Int) (hid : okInt id) : Calls Try.prog 18 #[.pointer (some ⟨p, 0, none⟩), .int .i64 id] w fun e w' => e = .returned (.tuple #[.int .i64 (match lookE s id with | some e => e.tick | none => 0), .int .i64 (match lookE s id with | some _ => 0 | none => 3)]) ∧ TK W w' p N s L := by
  obtain ⟨base, M, v, hB, hF⟩ := h.ex
  exact (at_any hB id hid).mono fun e w' hp => ⟨hp.1, h.later hp.2⟩
theorem TK.next (h : TK W w p N s L) (hN : N < 1000000) : Calls Try.prog 13 #[.pointer (some ⟨p, 0, none⟩)] w fun e w' => e = .returned (.tuple #[.int .i64 (headE s).tick, .bool (!s.isEmpty)]) ∧ TK W w' p N s L := by
  obtain ⟨base, M, v, hB, hF⟩ := h.ex
  exact (next_any hB hN).mono fun e w' hp => h.of hF hp
def idsL (l : List En) : List Int := l.map (·.id)
/-- a row of ids that came back: nothing, or a block that is kept -/
theorem TK.due (h : TK W w p N s L) (now : Int) (hN : N < 1000000) : Calls Try.prog 11 #[.pointer (some ⟨p, 0, none⟩), .int .i64 now] w fun e w' => ∃ vo L', e = .returned vo ∧ TK W w' p N (restE s now) L' ∧ (∀ x ∈ L, x ∈ L') ∧ IntRow w' vo (idsL (dueE s now)) ∧ ∃ a cap, vo = .slice a (dueE s now).length cap := by
  obtain ⟨base, M, v, hB, hF⟩ := h.ex
  refine (due_any hB now hN).mono fun e w' ⟨vo, he, ho, v', hT, hfr, hn, hsep⟩ => ?_
  have hK : TK W w' p N (restE s now) L := ⟨⟨base, M, v', hT, h.grow hF hn⟩, h.kept.chg hfr hF⟩
  have hlen : (idsL (dueE s now)).length = (dueE s now).length := by simp [idsL]
  obtain ⟨h1, ⟨rfl, h0⟩ | ⟨g, cap, cur, rfl, hg, hh, hnc, hm, hsz, ht⟩⟩ := ho
  · refine ⟨_, L, he, hK, fun _ h => h, ⟨none, 0, by rw [hlen, h0], fun i x hx => ?_⟩, ⟨none, 0, by rw [h0]⟩⟩
    have := (List.getElem?_eq_some_iff.1 hx).1
    omega
  · refine ⟨_, (g, cur, 3) :: L, he, ⟨⟨base, M, v', hT, fun q hq => ⟨(h.grow hF hn q hq).1, fun x hx => ?_⟩⟩, hK.kept.below, fun x hx => ?_⟩, fun _ h => List.mem_cons_of_mem _ h, ⟨some ⟨g, 0, none⟩, cap, by rw [hlen], fun i x hx => ⟨g, 0, rfl, ?_, lt_of_block hh⟩⟩, ⟨_, cap, rfl⟩⟩
    · rcases List.mem_cons.1 hx with rfl | hx
      · intro e; exact hsep q hq (by rw [← e]; rfl)
      · exact (h.grow hF hn q hq).2 x hx
    · rcases List.mem_cons.1 hx with rfl | hx
      · exact hh
      · exact hK.kept.blk x hx
    · have hi := (List.getElem?_eq_some_iff.1 hx).1
      rw [cell_of_block hh, Nat.zero_add, ← Array.getElem?_toList]
      have h2 : (idsV (dueE s now))[i]? = some (.int .i64 x) := by
        unfold idsL at hx
        unfold idsV
        rw [List.getElem?_map] at hx ⊢
        cases hd : (dueE s now)[i]? with
        | none => rw [hd] at hx; cases hx
        | some y => rw [hd] at hx; simp at hx; simp [hx]
      rw [← ht, List.getElem?_take, if_pos (by omega)] at h2
      exact h2

theorem TK.new1 {G : World → Prop} {cs : Array Value} {t : TypeId} (h : TK W w p N s L) (K : ∀ w3, TK W w3 p N s ((w.heap.size, cs, t) :: L) → G w3) : G (w.alloc (.cells cs t)) := K _ (h.new cs t)
/-- a row of ids that a law writes out -/
theorem IntRow.of {g : Nat} {cs : Array Value} {xs : List Int} {t : TypeId} (h : w.heap[g]? = some (.cells cs t (0, 0))) (hc : ∀ (i : Nat) (x : Int), xs[i]? = some x → cs[i]? = some (.int .i64 x)) (cap : Nat) : IntRow w (.slice (some ⟨g, 0, none⟩) xs.length cap) xs :=
  ⟨_, cap, rfl, fun i x hx => ⟨g, 0, rfl, by rw [cell_of_block h, Nat.zero_add]; exact hc i x hx, lt_of_block h⟩⟩
theorem awake_any (w : World) : Calls Try.prog 7 #[] w fun e w' => e = .returned (.bool true) ∧ Below w.heap.size w w' := by
  have K0 := Lib.hid (Kept.start w)
  go_enter Try.func7, Try.ntmps7
  go_wp2_with fail
  refine (TK.start K0.out).mono ?_
  rintro e w1 ⟨p, rfl, G1⟩
  have H1 := Lib.hid G1
  clear G1
  go_wp2_with fail
  refine (H1.out.set 7 5 (by rfl) (by omega)).mono ?_
  rintro e w2 ⟨rfl, G2⟩
  have H2 := Lib.hid G2
  clear G2
  go_wp2_with fail
  refine (H2.out.set 3 5 (by rfl) (by omega)).mono ?_
  rintro e w3 ⟨rfl, G3⟩
  have H3 := Lib.hid G3
  clear G3
  go_wp2_with fail
  refine (H3.out.set 9 4 (by rfl) (by omega)).mono ?_
  rintro e w4 ⟨rfl, G4⟩
  have H4 := Lib.hid (show TK w w4 p 3 [⟨4, 9⟩, ⟨5, 3⟩, ⟨5, 7⟩] [] from G4)
  clear G4
  go_wp2_with fail
  refine (H4.out.next (by omega)).mono ?_
  rintro e w5 ⟨rfl, G5⟩
  have H5 := Lib.hid G5
  clear G5
  rw [show (headE [⟨4, 9⟩, ⟨5, 3⟩, ⟨5, 7⟩] : En).tick = 4 from rfl, show (!([⟨4, 9⟩, ⟨5, 3⟩, ⟨5, 7⟩] : List En).isEmpty) = true from rfl]
  go_wp2_with fail
  refine (H5.out.due 5 (by omega)).mono ?_
  rintro e w6 ⟨vo, L', rfl, G6, _, hr, a, cap, rfl⟩
  have H6 := Lib.hid (show TK w w6 p 3 [] L' from G6)
  have HR := Lib.hid hr
  clear G6 hr
  go_wp2_with fail
  have hb := (Below.refl w6.heap.size w6).alloc (Nat.le_refl _) (.cells #[.int .i64 9, .int .i64 3, .int .i64 7] 3)
  have hrow : IntRow (w6.alloc (.cells #[.int .i64 9, .int .i64 3, .int .i64 7] 3)) (.slice (some ⟨w6.heap.size, 0, none⟩) 3 3) [9, 3, 7] := IntRow.of (xs := [9, 3, 7]) (World.alloc_heap_new _ _) (fun i x hx => by
    rcases i with _ | _ | _ | i
    · simp at hx; subst hx; rfl
    · simp at hx; subst hx; rfl
    · simp at hx; subst hx; rfl
    · simp at hx) 3
  have HB := Lib.hid hb
  refine (ints_any _ _ _ _ _ (HR.out.later hb) hrow (by decide)).mono ?_
  clear hb hrow
  rintro e w7 ⟨rfl, hb7⟩
  rw [show decide (idsL (dueE [⟨4, 9⟩, ⟨5, 3⟩, ⟨5, 7⟩] 5) = [9, 3, 7]) = true by rfl]
  have H7 := Lib.hid ((H6.out.later HB.out).later hb7)
  clear hb7
  go_wp2_with fail
  refine (H7.out.len).mono ?_
  rintro e w8 ⟨rfl, G8⟩
  have HB8 := Lib.hid G8.below
  clear G8
  go_wp2
  go_ret
  exact ⟨rfl, HB8.out⟩
end Go.Proofs.Ytnfdobmjfchegaa
