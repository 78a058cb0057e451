/-
  slices.Clone of waits; order.Sort.
-/
import Derived.Test.YtlbneinfejnaaaaSortW6
import Derived.Test.YtlbneinfejnaaaaAppAny
set_option linter.unusedVariables false
set_option linter.unusedSimpArgs false
namespace Go.Proofs.Ytlbneinfejnaaaa.Ss
open Go Go.RowKit
variable {W w w' : World} {B N1 N2 : Nat} {now age : Int} {tail : List Value} {d d' : List Wt}
theorem info_partsW {z : Value} {s b : Nat} (h : (Try.prog.info? 27).map (fun i => (i.zero, i.size, i.bytes)) = some (some z, s, b)) : ∃ i, Try.prog.info? 27 = some i ∧ i.zero = some z ∧ i.size = s ∧ i.bytes = b := by
  cases hi : Try.prog.info? 27 with
  | none => rw [hi] at h; cases h
  | some i =>
    rw [hi] at h
    simp only [Option.map_some, Option.some.injEq, Prod.mk.injEq] at h
    exact ⟨i, rfl, h.1, h.2.1, h.2.2⟩
theorem infoW : (Try.prog.info? 27).map (fun i => (i.zero, i.size, i.bytes)) = some (some (.agg #[.int .i64 0, .int .i64 0, .int .i64 0, .int .i64 0, .int .i64 0, .int .i64 0, .int .i64 0, .int .i64 0, .int .i64 0, .int .i64 0]), 10, 80) := by kernel_rfl
theorem flat_len (l : List Wt) : (l.flatMap Wt.cells).length = l.length * 10 := by
  induction l with
  | nil => rfl
  | cons y r ih => rw [List.flatMap_cons, List.length_append, ih, List.length_cons]; simp [Wt.cells]; omega
theorem flat_one (l : List Wt) : ∀ u ∈ l.flatMap Wt.cells, u.oneCell' = true := by
  intro u hu
  obtain ⟨x, _, hx⟩ := List.mem_flatMap.1 hu
  simp [Wt.cells] at hx
  rcases hx with rfl | rfl | rfl | rfl | rfl | rfl | rfl | rfl | rfl | rfl <;> rfl
theorem src_ofW {a : Option Addr} {c : Nat} {l : List Wt} (h : Rd.SliceOf w (.slice a l.length c) 10 Wt.cells l) : Src w 10 a l.length c (l.flatMap Wt.cells) := by
  rcases h with ⟨h1, rfl⟩ | ⟨a', c', h1, _, _, hc⟩
  · simp only [Value.slice.injEq] at h1
    obtain ⟨rfl, _, rfl⟩ := h1
    exact .inl ⟨rfl, rfl, rfl, rfl⟩
  · simp only [Value.slice.injEq] at h1
    obtain ⟨rfl, _, rfl⟩ := h1
    refine .inr ⟨a', rfl, flat_len l, fun j u hu => ?_⟩
    have hj : j < l.length * 10 := by have := (List.getElem?_eq_some_iff.1 hu).1; rwa [flat_len] at this
    have hd : j = (j / 10) * 10 + j % 10 := by omega
    have hq : j / 10 < l.length := by omega
    have hr : j % 10 < 10 := by omega
    have h2 := hc (j / 10) hq (j % 10) (by simpa [Wt.cells] using hr)
    have h3 := flat_at l [] (List.getElem?_eq_getElem hq) hr
    rw [List.append_nil, ← hd, hu] at h3
    rw [hd, h2, h3, List.getElem?_eq_getElem (by simpa [Wt.cells] using hr)]
theorem own_of_row {base : Nat} {n cap : Nat} (hb : w.heap[B]? = some (.cells (d.flatMap Wt.cells ++ tail).toArray 27 (0, 0))) (hn : d.length = n) (h1 : base ≤ B) (h2 : n ≤ cap) (h3 : cap ≤ maxLen) (h4 : n * 10 + tail.length = cap * 10) :
    w.ownsRow base 27 10 (.slice (some ⟨B, 0, none⟩) n cap) n (d.flatMap Wt.cells) := by
  refine ⟨by rw [flat_len, hn], .inr ⟨B, cap, _, rfl, h1, hb, h2, h3, ?_, ?_⟩⟩
  · rw [List.size_toArray, List.length_append, flat_len, hn, h4]
  · rw [List.take_append_of_le_length (by rw [flat_len, hn]; exact Nat.le_refl _), List.take_of_length_le (by rw [flat_len, hn]; exact Nat.le_refl _)]
set_option maxHeartbeats 2000000 in
theorem cloneW_any (v : Value) (xs : List Wt) (w : World) (h : Rd.SliceOf w v 10 Wt.cells xs) (hl : xs.length ≤ 1000000) :
    Calls Try.prog 26 #[v] w fun e w' => ∃ u, e = .returned u ∧ w'.ownsRow w.heap.size 27 10 u xs.length (xs.flatMap Wt.cells) ∧ Below w.heap.size w w' := by
  obtain ⟨i0, hi0, hz0, hz1, hz2⟩ := info_partsW infoW
  obtain ⟨a, c, rfl⟩ := h.form
  cases a with
  | none =>
    have hx : xs = [] ∧ c = 0 := by
      rcases h with ⟨h1, h2⟩ | ⟨a', c', h1, _⟩
      · simp only [Value.slice.injEq] at h1; exact ⟨h2, h1.2.2⟩
      · simp at h1
    obtain ⟨rfl, rfl⟩ := hx
    clear h
    have HO := Lib.hid (World.ownsRow_nil w w.heap.size 27 10)
    have hcmp : ∀ w' : World, (binOp BinOp.eql 43 (.slice none 0 0) (.slice none 0 0)).run Try.prog w' = .ok (.bool true) w' := fun w' => by
      first | rfl | (simp [binOp, go_sem]; done)
    go_enter Try.func26, Try.ntmps26
    go_wp2_with fail
    go_ret
    exact ⟨_, rfl, HO.out, Below.refl _ _⟩
  | some ad =>
    obtain ⟨n, hn⟩ : ∃ n, xs.length = n := ⟨_, rfl⟩
    have hsrc := src_ofW h
    have hb1 := (Below.refl w.heap.size w).alloc (Nat.le_refl _) (.cells #[] 27)
    have hown0 : (w.alloc (.cells #[] 27)).ownsRow w.heap.size 27 10 (.slice (some ⟨w.heap.size, 0, none⟩) 0 0) 0 [] :=
      ⟨rfl, .inr ⟨w.heap.size, 0, #[], rfl, Nat.le_refl _, World.alloc_heap_new w _, Nat.le_refl _, Nat.zero_le _, rfl, rfl⟩⟩
    rw [hn] at hsrc hl ⊢
    have HS := Lib.hid (hsrc.later hb1); have HO := Lib.hid hown0; have HB := Lib.hid hb1; have HONE := Lib.hid (flat_one xs)
    have hcmp : ∀ w' : World, (binOp BinOp.eql 43 (.slice (some ad) n c) (.slice none 0 0)).run Try.prog w' = .ok (.bool false) w' := fun w' => by
      first | rfl | (simp [binOp, go_sem]; done)
    clear h hsrc hb1 hown0 hn
    go_enter Try.func26, Try.ntmps26
    go_wp2_with (at_builtin; refine wpList_append_src _ (by rfl) _ _ _ (by rfl) w.heap.size 27 i0 _ 10 80 Try.underlying43 hi0 hz0 hz1 hz2 rfl (by omega) (.slice (some ⟨w.heap.size, 0, none⟩) 0 0) 0 [] (by rfl) HO.out (some ad) n c _ (by rfl) HS.out HONE.out (by unfold maxLen; omega) (by omega) (by simp) ?_)
    intro v6 w6 hown6 hgrow hat6
    have hf6 := Fr.grown (Fr.refl _ (fun q => (Value.slice (some ⟨w.heap.size, 0, none⟩) 0 0).ownBlock = some q) _) hgrow (Nat.le_refl _) (fun q e => .inr e)
    have hb6 : Below w.heap.size w w6 := HB.out.trans (hf6.below HB.out.size fun q e => by simp only [Value.ownBlock, Option.some.injEq] at e; omega)
    try simp only [Nat.zero_add, List.nil_append] at hown6
    have HFIN := Lib.hid (And.intro hown6 hb6)
    clear hown6 hgrow hat6 hf6 hb6
    go_wp2_with fail
    go_ret
    exact ⟨_, rfl, HFIN.out.1, HFIN.out.2⟩
set_option maxRecDepth 100000 in
theorem insertion0 (a : Option Addr) (c : Nat) (f : Value) (w : World) :
    Calls Try.prog 37 #[.slice a 0 c, .int .i64 0, .int .i64 0, f] w fun e w' => e = .returned (.tuple #[]) ∧ w = w' := by
  go_enter Try.func37, Try.ntmps37
  go_wp2_with fail
  refine wp_loop_rounds 1 ?_
  rw [rounds_succ]
  go_wp2_with fail
  first | go_end0 | (refine bodyPost_ret (results_none rfl _ _ _) rfl ?_)
  exact ⟨rfl, rfl⟩
set_option maxRecDepth 100000 in
theorem stable0 (a : Option Addr) (c : Nat) (f : Value) (w : World) :
    Calls Try.prog 35 #[.slice a 0 c, .int .i64 0, f] w fun e w' => e = .returned (.tuple #[]) ∧ w = w' := by
  go_enter Try.func35, Try.ntmps35
  go_wp2_with fail
  refine wp_loop_rounds 1 ?_
  rw [rounds_succ]
  go_wp2_with fail
  refine (insertion0 a c f w).mono ?_
  rintro e z ⟨rfl, rfl⟩
  go_wp2_with fail
  refine wp_loop_rounds 1 ?_
  rw [rounds_succ]
  go_wp2_with fail
  first | go_end0 | (refine bodyPost_ret (results_none rfl _ _ _) rfl ?_)
  exact ⟨rfl, rfl⟩
theorem sortStable0 (a : Option Addr) (c : Nat) (f : Value) (w : World) :
    Calls Try.prog 27 #[.slice a 0 c, f] w fun e w' => e = .returned (.tuple #[]) ∧ w = w' := by
  go_enter Try.func27, Try.ntmps27
  go_wp2_with fail
  refine (stable0 a c f w).mono ?_
  rintro e z ⟨rfl, rfl⟩
  go_wp2_with fail
  first | go_end0 | (refine bodyPost_ret (results_none rfl _ _ _) rfl ?_)
  exact ⟨rfl, rfl⟩
/-- a row of the call's own, sorted -/
def SortedRow (xs : List Wt) (now age : Int) (base : Nat) (v : Value) (w' : World) : Prop := ∃ d', w'.ownsRow base 27 10 v xs.length (d'.flatMap Wt.cells) ∧ d'.length = xs.length ∧ SE (lw now age) xs d' ∧ Sorted (lw now age) d'
theorem sort_row (v : Value) (xs : List Wt) (base : Nat) (w : World) (h : w.ownsRow base 27 10 v xs.length (xs.flatMap Wt.cells)) (hl : xs.length ≤ 1000000) (hok : ∀ x ∈ xs, RankOk x now age) (hN1 : w.heap[N1]? = some (.cells #[.int .i64 now] 3 (0, 0))) (hN2 : w.heap[N2]? = some (.cells #[.int .i64 age] 3 (0, 0))) (hv1 : v.ownBlock ≠ some N1) (hv2 : v.ownBlock ≠ some N2) :
    Calls Try.prog 27 #[v, .func (.func 28) #[] #[.pointer (some ⟨N1, 0, none⟩), .pointer (some ⟨N2, 0, none⟩)]] w fun e w' => e = .returned (.tuple #[]) ∧ SortedRow xs now age base v w' ∧ Fr w.heap.size (fun g => v.ownBlock = some g) w w' := by
  obtain ⟨hln, ⟨rfl, h0⟩ | ⟨g, cap, cur, rfl, hg, hb, h1, h2, h3, h4⟩⟩ := id h
  · have hx := List.length_eq_zero_iff.1 h0
    subst hx
    refine (sortStable0 none 0 _ w).mono ?_
    rintro e z ⟨rfl, rfl⟩
    exact ⟨rfl, ⟨[], h, rfl, SE.refl _, List.Pairwise.nil⟩, Fr.refl _ _ _⟩
  · have hcur : cur = (xs.flatMap Wt.cells ++ cur.toList.drop (xs.length * 10)).toArray := by
      apply Array.toList_inj.1
      rw [List.toList_toArray, ← h4, List.take_append_drop]
    rw [hcur] at hb
    have htl : xs.length * 10 + (cur.toList.drop (xs.length * 10)).length = cap * 10 := by
      have hcl : cur.toList.length = cap * 10 := by simpa using h3
      rw [List.length_drop, hcl]; omega
    refine (sortStable_any (W := w) ⟨hb, hN1, hN2, fun e => hv1 (by rw [e]; rfl), fun e => hv2 (by rw [e]; rfl), Fr.refl _ _ _, hok, hl⟩ xs.length cap rfl h1).mono ?_
    rintro e w2 ⟨rfl, d', q1, q2, q3, q4⟩
    exact ⟨rfl, ⟨d', own_of_row q1.blk q2 hg h1 h2 htl, q2, q3, q4⟩, q1.fr.mono (Nat.le_refl _) fun k _ e => by rw [e]; rfl⟩
theorem ordSort_any (v : Value) (xs : List Wt) (now age : Int) (w : World) (h : Rd.SliceOf w v 10 Wt.cells xs) (hl : xs.length ≤ 1000000) :
    Calls Try.prog 19 #[v, .int .i64 now, .int .i64 age] w fun e w' => Below w.heap.size w w' ∧
      if (xs.all Wt.right && timeB now age) = true then ∃ u, e = .returned (.tuple #[u, .int .i64 0]) ∧ SortedRow xs now age w.heap.size u w' else e = .returned (.tuple #[.slice none 0 0, .int .i64 1]) := by
  obtain ⟨bo, hbo⟩ : ∃ bo, (xs.all Wt.right && timeB now age) = bo := ⟨_, rfl⟩
  rw [hbo]
  have hb := ((Below.refl w.heap.size w).alloc (Nat.le_refl _) (.cells #[.int .i64 now] 3)).alloc (by simp) (.cells #[.int .i64 age] 3)
  have k1 : ((w.alloc (.cells #[.int .i64 now] 3)).alloc (.cells #[.int .i64 age] 3)).heap[w.heap.size]? = some (.cells #[.int .i64 now] 3 (0, 0)) := alloc_other (World.alloc_heap_new _ _)
  have k2 : ((w.alloc (.cells #[.int .i64 now] 3)).alloc (.cells #[.int .i64 age] 3)).heap[w.heap.size + 1]? = some (.cells #[.int .i64 age] 3 (0, 0)) := alloc2_new _ _ _
  have HBO := Lib.hid hbo; have H := Lib.hid h; have HL := Lib.hid hl
  clear h hl hbo
  go_enter Try.func19, Try.ntmps19
  go_upto_region 1 with fail
  generalize (w.alloc (.cells #[.int .i64 now] 3)).alloc (.cells #[.int .i64 age] 3) = w1 at hb k1 k2 ⊢
  obtain ⟨N1, hN1⟩ : ∃ N1, w.heap.size = N1 := ⟨_, rfl⟩
  have HN1 := Lib.hid hN1
  rw [hN1] at k1 k2 ⊢
  obtain ⟨N2, hN2⟩ : ∃ N2, N1 + 1 = N2 := ⟨_, rfl⟩
  have HN2 := Lib.hid hN2
  rw [hN2] at k2 ⊢
  have c1 := cell_of_block k1 0; have c2 := cell_of_block k2 0
  have l1 := lt_of_block k1; have l2 := lt_of_block k2
  have HB := Lib.hid hb; have K1 := Lib.hid k1; have K2 := Lib.hid k2
  have HR := Lib.hid (right_any now age v xs w1 (H.out.later hb) HL.out)
  rw [HBO.out] at HR
  clear hb k1 k2 hN1 hN2
  go_wp2_with fail
  refine HR.out.mono ?_
  rintro e w2 ⟨rfl, hb2⟩
  have HB2 := Lib.hid (HB.out.trans (hb2.mono HB.out.size))
  have K12 := Lib.hid ((hb2.block _ (lt_of_block K1.out)).trans K1.out); have K22 := Lib.hid ((hb2.block _ (lt_of_block K2.out)).trans K2.out)
  have H2 := Lib.hid ((H.out.later HB.out).later hb2)
  clear hb2 c1 c2 l1 l2 HR
  cases bo with
  | false =>
    go_wp2_with fail
    refine bodyPost_ret (results_tmp2 rfl _ _ _) rfl ?_
    exact ⟨HB2.out, by first | rfl | (rw [if_neg (by simp)]; rfl)⟩
  | true =>
    have HC := Lib.hid (cloneW_any v xs w2 H2.out HL.out)
    go_wp2_with fail
    refine HC.out.mono ?_
    rintro e w3 ⟨u, rfl, ho, hb3⟩
    have hk1 := (hb3.block _ (lt_of_block K12.out)).trans K12.out
    have hk2 := (hb3.block _ (lt_of_block K22.out)).trans K22.out
    have hok : ∀ x ∈ xs, RankOk x now age := fun x hx => by
      have := HBO.out
      rw [Bool.and_eq_true, List.all_eq_true] at this
      exact rank_ok (this.1 x hx) this.2
    have hv1 : u.ownBlock ≠ some N1 := fun e => by have := (ho.lt _ e).1; have := lt_of_block K12.out; omega
    have hv2 : u.ownBlock ≠ some N2 := fun e => by have := (ho.lt _ e).1; have := lt_of_block K22.out; omega
    have HSR := Lib.hid (sort_row (N1 := N1) (N2 := N2) u xs w2.heap.size w3 ho HL.out hok hk1 hk2 hv1 hv2)
    have HO := Lib.hid ho; have HB3 := Lib.hid hb3
    clear ho hb3 hk1 hk2 hok hv1 hv2 HC
    go_wp2_with fail
    refine HSR.out.mono ?_
    rintro e w4 ⟨rfl, hsr, hfr⟩
    have HFIN := Lib.hid (show Below w.heap.size w w4 ∧ SortedRow xs now age w.heap.size u w4 from by
      have hs2 := HB2.out.size
      have b3 : Below w.heap.size w w3 := HB2.out.trans (HB3.out.mono hs2)
      refine ⟨b3.trans (hfr.below b3.size fun g e => by have := (HO.out.lt g e).1; omega), ?_⟩
      obtain ⟨d', q1, q2⟩ := hsr
      refine ⟨d', ⟨q1.1, q1.2.imp (fun e => e) fun ⟨g, cap, cur, a1, a2, a3⟩ => ⟨g, cap, cur, a1, by omega, a3⟩⟩, q2⟩)
    clear hsr hfr HSR
    go_wp2_with fail
    refine bodyPost_ret (results_tmp2 rfl _ _ _) rfl ?_
    exact ⟨HFIN.out.1, by first | exact ⟨u, rfl, HFIN.out.2⟩ | exact ⟨u, rfl, HN1.out ▸ HFIN.out.2⟩⟩
end Go.Proofs.Ytlbneinfejnaaaa.Ss
