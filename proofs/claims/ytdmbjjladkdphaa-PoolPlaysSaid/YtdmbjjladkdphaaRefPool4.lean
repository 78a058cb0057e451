/-
  The document's pool: Free, View.
-/
import Derived.Test.YtdmbjjladkdphaaRefPoolLaw
set_option linter.unusedVariables false
set_option linter.unusedSimpArgs false
namespace Go.Proofs.Ytdmbjjladkdphaa
open Go.RowKit Go.Maps
variable {w w' : World} {m nn BA oA cA BD base : Nat} {A tk fr : List Fe} {dr : List Int} {vT : Value}

theorem RpAt.tkCells (h : RpAt w m A tk nn dr BA oA cA BD base vT) {k : Nat} (hk : k < tk.length) {t : Fe} (ht : tk[k] = t) :
    ∃ g cT, vT = .slice (some ⟨g, 0, none⟩) tk.length cT ∧ g < w.heap.size ∧ w.cell? ⟨g, k * 4, none⟩ = some (.int .i64 t.spot.node) ∧ w.cell? ⟨g, k * 4 + 1, none⟩ = some (.int .i64 t.spot.domain) ∧ w.cell? ⟨g, k * 4 + 2, none⟩ = some (.int .u64 t.mask) ∧ w.cell? ⟨g, k * 4 + 3, none⟩ = some (.int .i64 t.cpus) := by
  obtain ⟨_, ⟨rfl, h1⟩ | ⟨g, cT, cur, rfl, hg, hh, hnc, hmm, hsz, htk⟩⟩ := id h.own
  · omega
  · subst ht
    have hc : ∀ j, j < 4 → w.cell? ⟨g, k * 4 + j, none⟩ = (Fe.cells tk[k])[j]? := fun j hj => by
      have h1 := flatMap_get (sz := 4) (cells := Fe.cells) (fun x => rfl) tk k j hk hj
      rw [← htk, List.getElem?_take, if_pos (by omega), Array.getElem?_toList] at h1
      rw [cell_of_block hh, h1]
    exact ⟨g, cT, rfl, lt_of_block hh, hc 0 (by omega), hc 1 (by omega), hc 2 (by omega), hc 3 (by omega)⟩
theorem below_dq (w : World) (n : Nat) : Below w.heap.size w (w.drewN n) := ⟨rfl, rfl, rfl, Nat.le_refl _, fun _ _ => rfl⟩
def freeL (A tk : List Fe) : List Fe := List.zipWith freeT A tk
theorem freeL_get {k : Nat} {al t : Fe} (h1 : A[k]? = some al) (h2 : tk[k]? = some t) : (freeL A tk)[k]? = some (freeT al t) := by
  unfold freeL
  rw [List.getElem?_zipWith, h1, h2]
theorem freeL_len (h : tk.length = A.length) : (freeL A tk).length = A.length := by
  unfold freeL
  rw [List.length_zipWith, h]; omega
theorem freeL_eq (h : PInv A fr) (hA : ∀ f ∈ A, FeOk f) : freeL A (tkL A fr) = fr := by
  refine List.ext_getElem? fun k => ?_
  by_cases hk : k < A.length
  · have hkf : k < fr.length := by rw [h.len]; exact hk
    have h1 : A[k]? = some A[k] := List.getElem?_eq_getElem hk
    have h2 : fr[k]? = some fr[k] := List.getElem?_eq_getElem hkf
    rw [freeL_get h1 (tkL_get h1 h2), h2, free_eq (h.at_ k _ _ h1 h2) (hA _ (List.getElem_mem hk))]
  · rw [List.getElem?_eq_none (by rw [freeL_len (tkL_len h.len)]; omega), List.getElem?_eq_none (by rw [h.len]; omega)]

set_option maxRecDepth 100000 in
set_option maxHeartbeats 4000000 in
theorem rfree_any (h : RpAt w m A tk nn dr BA oA cA BD base vT) (hl : A.length ≤ 1000000) :
    Calls Try.prog 26 #[.pointer (some ⟨m, 0, none⟩)] w fun e w' => ∃ v, e = .returned v ∧ Made w w' v 4 Fe.cells (freeL A tk) ∧ Below w.heap.size w w' := by
  obtain ⟨i0, hi0, hz0, hz1, hz2⟩ := info_parts infoFree
  obtain ⟨n, hn⟩ : ∃ n, A.length = n := ⟨_, rfl⟩
  have HN := Lib.hid hn; have H := Lib.hid h
  have HFL := Lib.hid (show (freeL A tk).length = n by rw [freeL_len h.len, hn])
  have lm := h.lt (.inl rfl)
  rw [hn] at hl
  clear h hn
  go_enter Try.func26, Try.ntmps26
  go_wp2_with fail
  go_loopw [3, 4] (fun v' i wr => ∃ (k : Nat) (v : Value), v = v' ∧ k ≤ n ∧ i = .int .i64 k ∧ Hid (wr.ownsRow w.heap.size 45 4 v k (((freeL A tk).take k).flatMap Fe.cells)) ∧ Below w.heap.size w wr) (fun _ i _ => n - (intOf i).toNat)
  case atStart => exact ⟨0, _, rfl, Nat.zero_le _, rfl, Lib.hid (World.ownsRow_nil _ _ _ _), Below.refl _ _⟩
  case round =>
    obtain ⟨k, v, rfl, hk, rfl, hown, hB⟩ := hrel
    obtain ⟨av, capv, rfl⟩ := own_form hown.out
    have H1 := H.out.later hB
    have c0 := cell_of_block H1.head 0
    have c1 := cell_of_block H1.head 1
    rw [HN.out] at c0
    have lmr := H1.lt (.inl rfl)
    have lar := H1.lt (.inr (.inl rfl))
    have hsz := hB.size
    have HB := Lib.hid hB
    by_cases hlt : k < n
    · have hkA : k < A.length := by rw [HN.out]; exact hlt
      have hkt : k < tk.length := by rw [H.out.len]; exact hkA
      obtain ⟨f, hf⟩ : ∃ f, A[k] = f := ⟨_, rfl⟩
      obtain ⟨t, ht⟩ : ∃ t, tk[k] = t := ⟨_, rfl⟩
      obtain ⟨f0, f1, f2, f3⟩ := H1.allCells hkA hf
      obtain ⟨g, cT, rfl, lg, t0, t1, t2, t3⟩ := H1.tkCells hkt ht
      rw [H.out.len, HN.out] at c1
      have HT := Lib.hid (show ((freeL A tk).take (k + 1)).flatMap Fe.cells = ((freeL A tk).take k).flatMap Fe.cells ++ [.int .i64 f.spot.node, .int .i64 f.spot.domain, .int .u64 (IntKind.u64.wrap (f.mask - t.mask)), .int .i64 (IntKind.i64.wrap (f.cpus - t.cpus))] by
        have hkF : k < (freeL A tk).length := by rw [HFL.out]; exact hlt
        have e : (freeL A tk)[k] = freeT f t := by
          have h1 := freeL_get (A := A) (tk := tk) (List.getElem?_eq_getElem hkA) (List.getElem?_eq_getElem hkt)
          rw [hf, ht] at h1
          exact (List.getElem?_eq_some_iff.1 h1).2
        rw [List.take_succ_eq_append_getElem hkF, List.flatMap_append, e]
        simp [Fe.cells, freeT])
      have HTT := Lib.hid ht
      clear H1 hf ht hB
      go_upto_region 6 with fail
      have hB5 := HB.out.alloc hsz (.cells #[.int .i64 f.spot.node, .int .i64 f.spot.domain, .int .u64 f.mask, .int .i64 f.cpus] 45)
      have HA5 := Lib.hid (H.out.later hB5)
      have k5 := World.alloc_heap_new wr (.cells #[.int .i64 f.spot.node, .int .i64 f.spot.domain, .int .u64 f.mask, .int .i64 f.cpus] 45)
      have ho5 := hown.out.alloc (.cells #[.int .i64 f.spot.node, .int .i64 f.spot.domain, .int .u64 f.mask, .int .i64 f.cpus] 45)
      have hv5 := hown.out.lt
      have lg5 : g < (wr.alloc (.cells #[.int .i64 f.spot.node, .int .i64 f.spot.domain, .int .u64 f.mask, .int .i64 f.cpus] 45)).heap.size := by simp; omega
      obtain ⟨Z, hZ⟩ : ∃ Z, wr.heap.size = Z := ⟨_, rfl⟩
      rw [hZ] at k5 hv5 hsz lg lmr lar
      have HO5 := Lib.hid ho5; have HV5 := Lib.hid hv5
      rw [hZ]
      generalize wr.alloc (.cells #[.int .i64 f.spot.node, .int .i64 f.spot.domain, .int .u64 f.mask, .int .i64 f.cpus] 45) = w5 at hB5 HA5 k5 HO5 lg5 ⊢
      have q0 := cell_of_block HA5.out.head 0
      have q1 := cell_of_block HA5.out.head 1
      rw [HN.out] at q0
      rw [H.out.len, HN.out] at q1
      have z1 := cell_of_block k5 2; have z2 := cell_of_block k5 3; have y1 := frozen_of_block k5 2; have y2 := frozen_of_block k5 3
      have z0 := cell_of_block k5 0; have z00 := cell_of_block k5 1
      have lz := lt_of_block k5
      obtain ⟨g', cT', hv', _, u0, u1, u2, u3⟩ := HA5.out.tkCells hkt HTT.out
      rw [H.out.len, HN.out] at hv'
      simp only [Value.slice.injEq, Option.some.injEq, Addr.mk.injEq, and_true] at hv'
      obtain ⟨rfl, -, rfl⟩ := hv'
      obtain ⟨mm, hmm⟩ : ∃ mm, IntKind.u64.wrap (f.mask - t.mask) = mm := ⟨_, rfl⟩
      obtain ⟨cc, hcc⟩ : ∃ cc, IntKind.i64.wrap (f.cpus - t.cpus) = cc := ⟨_, rfl⟩
      rw [hmm, hcc] at HT
      have HK5 := Lib.hid k5; have HB5 := Lib.hid hB5
      have hgZ : g ≠ Z := by omega
      have hZg : Z ≠ g := by omega
      have HGE := Lib.hid hsz
      have lm5 := HA5.out.lt (.inl rfl)
      clear k5 hB5 f0 f1 f2 f3 t0 t1 t2 t3 c0 c1 hown hv5 ho5
      go_region
      go_wp2_with fail
      go_region
      have k6 := setCell_block (setCell_block HK5.out 2 (.int .u64 mm)) 3 (.int .i64 cc)
      have hB6 := (((HB5.out.setCell (p := ⟨Z, 2, none⟩) HGE.out (.int .u64 mm)).setCell (p := ⟨Z, 3, none⟩) HGE.out (.int .i64 cc)).drew).drew
      have hf6 : Fr Z (fun _ => False) w5 ((w5.setCell ⟨Z, 2, none⟩ (.int .u64 mm)).setCell ⟨Z, 3, none⟩ (.int .i64 cc)).drew.drew := ((((Fr.refl Z (fun _ => False) w5).setCell (p := ⟨Z, 2, none⟩) (.inl (Nat.le_refl _)) _).setCell (p := ⟨Z, 3, none⟩) (.inl (Nat.le_refl _)) _).drew).drew
      have HO6 := Lib.hid (ownsRow_fr HO5.out hf6 (fun q hq => ⟨(HV5.out q hq).2, fun e => e⟩))
      have k6' : ((w5.setCell ⟨Z, 2, none⟩ (.int .u64 mm)).setCell ⟨Z, 3, none⟩ (.int .i64 cc)).drew.drew.heap[Z]? = some (.cells #[.int .i64 f.spot.node, .int .i64 f.spot.domain, .int .u64 mm, .int .i64 cc] 45 (0, 0)) := k6
      generalize ((w5.setCell ⟨Z, 2, none⟩ (.int .u64 mm)).setCell ⟨Z, 3, none⟩ (.int .i64 cc)).drew.drew = w6 at hB6 HO6 k6' ⊢
      have x0 := cell_of_block k6' 0; have x1 := cell_of_block k6' 1; have x2 := cell_of_block k6' 2; have x3 := cell_of_block k6' 3
      have lz6 := lt_of_block k6'
      have HB6 := Lib.hid hB6
      have hsz6 := hB6.size
      clear k6 k6' hB6 hf6 z0 z00 z1 z2 y1 y2 u0 u1 u2 u3 q0 q1 lz lg5 lm5
      go_wp2_with (at_builtin; refine wpList_append_lies _ rfl _ _ _ rfl w.heap.size 45 i0 _ 4 32 Try.underlying38 hi0 hz0 hz1 hz2 rfl (by omega) (.slice av k capv) k _ rfl (HO6.out.alloc _) ⟨w6.heap.size, 0, none⟩ 1 1 [.int .i64 f.spot.node, .int .i64 f.spot.domain, .int .u64 mm, .int .i64 cc] rfl rfl (World.news_of_block (cs := #[.int .i64 f.spot.node, .int .i64 f.spot.domain, .int .u64 mm, .int .i64 cc]) (t := 45) (fr := (0, 0)) (World.alloc_heap_new w6 _)) (by simp [Value.oneCell']) (by omega) (by unfold maxLen; omega) (by omega) (by simp; omega) (w6.heap.size + 1) (by simp) ?_)
      intro gg cap' w7 hown7 hgrow hat hlt7
      have hv := HO6.out.lt
      rw [← HT.out] at hown7
      have HO7 := Lib.hid hown7
      clear hown7
      go_wp2
      exact ⟨⟨k + 1, _, rfl, by omega, by go_num, HO7, (HB6.out.alloc hsz6 _).grown hgrow (by simp; omega) (fun j e => (hv j e).1)⟩, by simp [intOf]; omega⟩
    · obtain rfl : k = n := by omega
      have HO := Lib.hid hown
      clear hown
      go_wp2
      go_ret
      have h1 := HO.out.out
      rw [List.take_of_length_le (by rw [HFL.out]; exact Nat.le_refl _)] at h1
      exact ⟨_, rfl, made_own (fun x => rfl) (by omega) (by rw [HFL.out]; exact h1), HB.out⟩

theorem freeL_spot (h : tk.length = A.length) {k : Nat} (hk : k < (freeL A tk).length) (hkA : k < A.length) : (freeL A tk)[k].spot = A[k].spot := by
  have hkt : k < tk.length := by rw [h]; exact hkA
  have h1 := freeL_get (A := A) (tk := tk) (List.getElem?_eq_getElem hkA) (List.getElem?_eq_getElem hkt)
  rw [(List.getElem?_eq_some_iff.1 h1).2]; rfl
set_option maxRecDepth 100000 in
set_option maxHeartbeats 4000000 in
theorem rview_any (h : RpAt w m A tk nn dr BA oA cA BD base vT) (hl : A.length ≤ 1000000) (hN : ∀ f ∈ A, 0 ≤ f.spot.node ∧ f.spot.node < nn) (hnn : nn ≤ 1000000) :
    Calls Try.prog 27 #[.pointer (some ⟨m, 0, none⟩)] w fun e w' => ∃ v, e = .returned v ∧ Made w w' v 4 Fe.cells (viewF (freeL A tk) dr) ∧ Below w.heap.size w w' := by
  obtain ⟨i0, hi0, hz0, hz1, hz2⟩ := info_parts infoFree
  obtain ⟨n, hn⟩ : ∃ n, A.length = n := ⟨_, rfl⟩
  have HN := Lib.hid hn; have H := Lib.hid h; have HNO := Lib.hid hN
  have HFL := Lib.hid (show (freeL A tk).length = n by rw [freeL_len h.len, hn])
  have HSPT := Lib.hid (fun (k : Nat) (hk : k < (freeL A tk).length) (hkA : k < A.length) => freeL_spot (A := A) (tk := tk) h.len hk hkA)
  have HFREE := Lib.hid (rfree_any h hl)
  rw [hn] at hl
  clear h hn hN
  obtain ⟨Q, hQ⟩ : ∃ Q, freeL A tk = Q := ⟨_, rfl⟩
  rw [hQ] at HFL HSPT HFREE ⊢
  clear hQ
  go_enter Try.func27, Try.ntmps27
  go_wp2_with fail
  refine HFREE.out.mono ?_
  rintro e w1 ⟨v1, rfl, hm1, hb1⟩
  obtain ⟨a1, c1, hv1⟩ := hm1.1.form
  have HSL := Lib.hid hm1.1; have HB1 := Lib.hid hb1
  rw [HFL.out] at hv1
  subst hv1
  clear hm1 hb1
  go_wp2_with fail
  go_loopw [3, 5] (fun v' i wr => ∃ (k : Nat) (v : Value), v = v' ∧ k ≤ n ∧ i = .int .i64 k ∧ Hid (wr.ownsRow w1.heap.size 45 4 v (viewF (Q.take k) dr).length ((viewF (Q.take k) dr).flatMap Fe.cells)) ∧ Below w1.heap.size w1 wr) (fun _ i _ => n - (intOf i).toNat)
  case atStart => exact ⟨0, _, rfl, Nat.zero_le _, rfl, Lib.hid (World.ownsRow_nil _ _ _ _), Below.refl _ _⟩
  case round =>
    obtain ⟨k, v, rfl, hk, rfl, hown, hB⟩ := hrel
    obtain ⟨av, capv, rfl⟩ := own_form hown.out
    obtain ⟨q, hq⟩ : ∃ q, (viewF (Q.take k) dr).length = q := ⟨_, rfl⟩
    have hqk : q ≤ k := by
      have h1 := viewF_len (Q.take k) dr
      rw [List.length_take] at h1
      omega
    have HQ := Lib.hid hq
    rw [hq] at hown ⊢
    clear hq
    have hbig : n ≤ 9223372036854775807 := by omega
    have HB := Lib.hid hB
    have HA := Lib.hid (H.out.later (HB1.out.trans (hB.mono HB1.out.size)))
    have hsz := hB.size
    by_cases hlt : k < n
    · have hkQ : k < Q.length := by rw [HFL.out]; exact hlt
      have hkA : k < A.length := by rw [HN.out]; exact hlt
      obtain ⟨f, hf⟩ : ∃ f, Q[k] = f := ⟨_, rfl⟩
      obtain ⟨b, o, cp, hv, _, _, hb, hc⟩ := Fe.at HSL.out hkQ hf
      rw [HFL.out] at hv
      simp only [Value.slice.injEq] at hv
      obtain ⟨rfl, -, rfl⟩ := hv
      obtain ⟨f0, f1, f2, f3⟩ := hc wr hB
      have lb := Nat.lt_of_lt_of_le hb hB.size
      have hnode := HNO.out A[k] (List.getElem_mem hkA)
      rw [← HSPT.out k hkQ hkA, hf] at hnode
      obtain ⟨j, hj⟩ : ∃ j : Nat, f.spot.node = j := ⟨f.spot.node.toNat, by omega⟩
      have hjn : j < nn := by omega
      have m2 := cell_of_block HA.out.head 2
      have lm := HA.out.lt (.inl rfl)
      have ld := HA.out.lt (.inr (.inr (.inl rfl)))
      have db := cell_of_block HA.out.drn j
      rw [DB_at dr hjn] at db
      have hT := show viewF (Q.take (k + 1)) dr = _ by rw [List.take_succ_eq_append_getElem hkQ, viewF_snoc, hf]
      have HJ := Lib.hid hj
      have HC := Lib.hid hc
      rw [hj] at f0
      clear hc hf hB hnode
      by_cases hd : (j : Int) ∈ dr
      · rw [if_pos (by rw [hj]; exact hd), List.append_nil] at hT
        have HT := Lib.hid hT
        rw [show decide ((j : Int) ∈ dr) = true by simpa using hd] at db
        clear hT hd hj
        go_wp2_with fail
        go_quiet (fail)
        have hbq := below_dq wr nq
        have HBQ := Lib.hid (HB.out.trans (hbq.mono HB.out.size))
        have HOQ := Lib.hid (ownsRow_below hown.out hbq)
        generalize wr.drewN nq = wq at HBQ HOQ ⊢
        clear f0 f1 f2 f3 m2 lm ld db lb hbq
        go_wp2_with fail
        exact ⟨⟨k + 1, _, rfl, by omega, by go_num, Lib.hid (by rw [HT.out, HQ.out]; exact HOQ.out), HBQ.out⟩, by simp [intOf]; omega⟩
      · rw [if_neg (by rw [hj]; exact hd)] at hT
        have HT := Lib.hid hT
        have HTL := Lib.hid (show (viewF (Q.take (k + 1)) dr).length = q + 1 by rw [hT, List.length_append, HQ.out]; rfl)
        have HTF := Lib.hid (show (viewF (Q.take (k + 1)) dr).flatMap Fe.cells = (viewF (Q.take k) dr).flatMap Fe.cells ++ [.int .i64 j, .int .i64 f.spot.domain, .int .u64 f.mask, .int .i64 f.cpus] by rw [hT, List.flatMap_append]; simp [Fe.cells, hj])
        rw [show decide ((j : Int) ∈ dr) = false by simpa using hd] at db
        clear hT hd hj
        go_wp2_with fail
        go_quiet (fail)
        have hbq := below_dq wr nq
        have HBQ := Lib.hid (HB.out.trans (hbq.mono HB.out.size))
        have HOQ := Lib.hid (ownsRow_below hown.out hbq)
        generalize wr.drewN nq = wq at HBQ HOQ ⊢
        clear f0 f1 f2 f3 m2 lm ld db lb hbq
        obtain ⟨f0, f1, f2, f3⟩ := HC.out wq HBQ.out
        rw [HJ.out] at f0
        have lb := Nat.lt_of_lt_of_le hb HBQ.out.size
        have hsz := HBQ.out.size
        go_wp2_with (at_builtin; refine wpList_append_lies _ rfl _ _ _ rfl w1.heap.size 45 i0 _ 4 32 Try.underlying38 hi0 hz0 hz1 hz2 rfl (by omega) (.slice av q capv) q _ rfl (HOQ.out.alloc _) ⟨wq.heap.size, 0, none⟩ 1 1 [.int .i64 j, .int .i64 f.spot.domain, .int .u64 f.mask, .int .i64 f.cpus] rfl rfl (World.news_of_block (cs := #[.int .i64 j, .int .i64 f.spot.domain, .int .u64 f.mask, .int .i64 f.cpus]) (t := 45) (fr := (0, 0)) (World.alloc_heap_new wq _)) (by simp [Value.oneCell']) (by omega) (by unfold maxLen; omega) (by omega) (by simp; omega) (wq.heap.size + 1) (by simp) ?_)
        intro gg cap' w2 hown2 hgrow hat hlt2
        have hv := HOQ.out.lt
        rw [← HTF.out, ← HTL.out] at hown2
        have HO := Lib.hid hown2
        clear hown2
        go_wp2
        exact ⟨⟨k + 1, _, rfl, by omega, by go_num, Lib.hid (by have h1 := HO.out; rw [HTL.out] at h1 ⊢; exact h1), (HBQ.out.alloc hsz _).grown hgrow (by simp; omega) (fun j e => (hv j e).1)⟩, by simp [intOf]; omega⟩
    · obtain rfl : k = n := by omega
      have HO := Lib.hid hown
      clear hown
      go_wp2
      go_ret
      have h1 := HO.out.out
      rw [← HQ.out, List.take_of_length_le (by rw [HFL.out]; exact Nat.le_refl _)] at h1
      rw [← HQ.out, List.take_of_length_le (by rw [HFL.out]; exact Nat.le_refl _)]
      have hmd := made_own (w0 := w1) (cells := Fe.cells) (sz := 4) (fun x => rfl) (by omega) h1
      have hsz1 := HB1.out.size
      exact ⟨_, rfl, ⟨hmd.1, fun a n c e => Nat.le_trans hsz1 (hmd.2.1 a n c e), hmd.2.2⟩, HB1.out.trans (HB.out.mono HB1.out.size)⟩
end Go.Proofs.Ytdmbjjladkdphaa
