/-
  wire: many domains, many queues, read one by one.
-/
import Derived.Test.YtghfdiaaonjofaaWireMany
set_option linter.unusedVariables false
set_option linter.unusedSimpArgs false
namespace Go.Proofs.Ytghfdiaaonjofaa
open Go.RowKit
theorem readC_one (s : ByteArray) (a : Nat) : readC s a [(0, 1)] #[.int .i64 0] = #[.int .i64 (byteF s a)] := by simp [readC, numF_one]
/-- a count -/
theorem get1_any (R N lo : Nat) (s : ByteArray) (a : Nat) (sh : Bool) (v : Value) (w : World) (hR : w.heap[R]? = some (.cells #[.string s, .int .i64 (a : Nat), .bool sh] 65 (0, 0))) (hN : w.heap[N]? = some (.cells #[.int .i64 0] 3 (0, 0)))
    (hf : FieldRow w lo N v [(0, 1)]) (hRN : R ≠ N) (hlo : R < lo ∧ N < lo) (hs : s.size ≤ 100000) (ha : sh = true ∨ a ≤ s.size) :
    Calls Try.prog 21 #[.pointer (some ⟨R, 0, none⟩), v] w fun e w' => e = .returned (.tuple #[]) ∧ ∃ (nn a1 : Nat) (sh1 : Bool), w'.heap[R]? = some (.cells #[.string s, .int .i64 (a1 : Nat), .bool sh1] 65 (0, 0)) ∧ w'.heap[N]? = some (.cells #[.int .i64 (nn : Nat)] 3 (0, 0)) ∧ nn ≤ 255 ∧
      Fr w.heap.size (fun q => q = R ∨ q = N) w w' ∧ (sh1 = true → sh = true ∨ s.size < a + 1) ∧ (sh1 = false → sh = false ∧ a + 1 ≤ s.size ∧ a1 = a + 1 ∧ nn = (byteF s a).toNat) := by
  by_cases h : sh = true ∨ s.size < a + 1
  · refine (get_stop R N lo s a sh 0 1 [] v w hR hf hlo.1 hs (h.elim .inl fun h => ha.elim .inl fun ha => .inr ⟨ha, h⟩) (by simp)).mono ?_
    rintro e w' ⟨rfl, h1, h2⟩
    refine ⟨rfl, 0, a, true, h2, ?_, by omega, h1.mono (Nat.le_refl _) fun _ _ e => .inl e, fun _ => h, fun h => by simp at h⟩
    rw [h1.block N (lt_of_block hN) (Ne.symm hRN)]
    exact hN
  · have hsh : sh = false := by cases sh <;> simp at h ⊢
    subst hsh
    have hfit : a + 1 ≤ s.size := by
      have := fun x => h (.inr x)
      omega
    refine (get_any R N lo s a [(0, 1)] v _ _ w hR hN hf hRN hlo (fun p hp => by simp only [List.mem_cons, List.not_mem_nil, or_false] at hp; subst hp; exact ⟨by decide, by decide, rfl⟩) (by decide) hs (by omega) (by decide)).mono ?_
    rintro e w' ⟨rfl, h1, h2⟩
    rcases h2 with ⟨_, h2, h3⟩ | ⟨h2, _⟩
    · have hb := byteF_bound s a
      refine ⟨rfl, (byteF s a).toNat, a + 1, false, h2, ?_, by omega, h1, fun h => by simp at h, fun _ => ⟨rfl, hfit, rfl, rfl⟩⟩
      rw [h3, readC_one, Int.toNat_of_nonneg hb.1]
    · exact absurd h2 (by simp only [total]; omega)
/-- one thing read: in one form for both ends -/
theorem OneP.uni {R X : Nat} {s : ByteArray} {t : TypeId} {n : Nat} {res : Option (List Value × Nat)} {w w' : World} {e : Ending} (h : OneP R X s t n res w e w') (hn : ∀ p, res = some p → p.1.length = n ∧ ∀ u ∈ p.1, ∃ m, u = .int .i64 m) :
    e = .returned (.tuple #[]) ∧ Fr w.heap.size (fun q => q = R ∨ q = X) w w' ∧ ∃ (cs : List Value) (a2 : Nat) (sh : Bool), w'.heap[R]? = some (.cells #[.string s, .int .i64 (a2 : Nat), .bool sh] 65 (0, 0)) ∧ w'.heap[X]? = some (.cells cs.toArray t (0, 0)) ∧ cs.length = n ∧ (∀ u ∈ cs, ∃ m, u = .int .i64 m) ∧
      (sh = false → res = some (cs, a2)) ∧ (sh = true → res = none) := by
  obtain ⟨he, hf, h⟩ := h
  cases res with
  | none =>
    obtain ⟨a2, cs, h1, h2, h3, h4⟩ := h
    exact ⟨he, hf, cs.toList, a2, true, h1, by simpa using h2, by simpa using h3, fun u hu => by
      obtain ⟨k, hk⟩ := List.getElem?_of_mem hu
      exact h4 k u (by simpa using hk), fun h => by simp at h, fun _ => rfl⟩
  | some p =>
    exact ⟨he, hf, p.1, p.2, false, h.1, h.2, (hn p rfl).1, (hn p rfl).2, fun _ => rfl, fun h => by simp at h⟩
/-- what many leaves -/
def ManyP (R : Nat) (s : ByteArray) {α : Type} (t : TypeId) (sz : Nat) (cells : α → List Value) (res : Option (List α × Nat)) (w : World) (e : Ending) (w' : World) : Prop :=
  ∃ av k cv, e = .returned (.slice av k cv) ∧ Fr w.heap.size (fun q => q = R) w w' ∧ match res with
    | some (xs, b) => w'.heap[R]? = some (.cells #[.string s, .int .i64 (b : Nat), .bool false] 65 (0, 0)) ∧ w'.ownsRow w.heap.size t sz (.slice av k cv) xs.length (xs.flatMap cells)
    | none => ∃ a2 : Nat, w'.heap[R]? = some (.cells #[.string s, .int .i64 (a2 : Nat), .bool true] 65 (0, 0))

theorem infoDm : (Try.prog.info? 87).map (fun i => (i.zero, i.size, i.bytes)) = some (some (.agg #[.int .i64 0, .int .i64 0]), 2, 16) := by kernel_rfl
set_option maxRecDepth 100000 in
set_option maxHeartbeats 2000000 in
theorem many_dom (R RB : Nat) (s : ByteArray) (a : Nat) (sh : Bool) (w : World) (hB : w.heap[RB]? = some (.cells #[.pointer (some ⟨R, 0, none⟩)] 63 (0, 0)))
    (hR : w.heap[R]? = some (.cells #[.string s, .int .i64 (a : Nat), .bool sh] 65 (0, 0))) (hRB : RB ≠ R) (hs : s.size ≤ 100000) (ha : sh = true ∨ a ≤ s.size) :
    Calls Try.prog 33 #[.pointer (some ⟨R, 0, none⟩), .func (.func 34) #[] #[.pointer (some ⟨RB, 0, none⟩)]] w (ManyP R s 87 2 Dm.cells (if sh = true then none else manyR s (domR s) a) w) := by
  obtain ⟨res, hres⟩ : ∃ res, (if sh = true then none else manyR s (domR s) a) = res := ⟨_, rfl⟩
  rw [hres]
  have HRES := Lib.hid hres
  have hb1 := ((Below.refl w.heap.size w).alloc (Nat.le_refl _) (.cells #[.int .i64 0] 3)).alloc (by simp) (.cells #[.pointer (some ⟨w.heap.size, 0, none⟩), .int .i64 1] 73)
  have k1 : ((w.alloc (.cells #[.int .i64 0] 3)).alloc (.cells #[.pointer (some ⟨w.heap.size, 0, none⟩), .int .i64 1] 73)).heap[w.heap.size]? = some (.cells #[.int .i64 0] 3 (0, 0)) := alloc_other (World.alloc_heap_new _ _)
  have k2 : ((w.alloc (.cells #[.int .i64 0] 3)).alloc (.cells #[.pointer (some ⟨w.heap.size, 0, none⟩), .int .i64 1] 73)).heap[w.heap.size + 1]? = some (.cells #[.pointer (some ⟨w.heap.size, 0, none⟩), .int .i64 1] 73 (0, 0)) := alloc2_new _ _ _
  have lR := lt_of_block hR; have lB := lt_of_block hB
  have hR1 := (hb1.block _ lR).trans hR
  have hB1 := (hb1.block _ lB).trans hB
  have HB1 := Lib.hid hb1; have HK1 := Lib.hid k1; have HK2 := Lib.hid k2; have HR1 := Lib.hid hR1; have HBB1 := Lib.hid hB1
  clear hres hB hR hb1 k1 k2 hR1 hB1
  go_enter Try.func33, Try.ntmps33
  go_wp2_with fail
  obtain ⟨w1, hw1⟩ : ∃ w1, (w.alloc (.cells #[.int .i64 0] 3)).alloc (.cells #[.pointer (some ⟨w.heap.size, 0, none⟩), .int .i64 1] 73) = w1 := ⟨_, rfl⟩
  rw [hw1] at HB1 HK1 HK2 HR1 HBB1 ⊢
  clear hw1
  obtain ⟨N, hN⟩ : ∃ N, w.heap.size = N := ⟨_, rfl⟩
  have HNE := Lib.hid hN
  rw [hN] at HK1 HK2 lR lB ⊢
  clear hN
  have hrow : FieldRow w1 (N + 1) N (.slice (some ⟨N + 1, 0, none⟩) 1 1) [(0, 1)] := field_row (l := [(0, 1)]) HK2.out (Nat.le_refl _) (fun i hi => by simp at hi; subst hi; exact ⟨rfl, rfl⟩)
  refine (get1_any R N (N + 1) s a sh _ w1 HR1.out HK1.out hrow (by omega) ⟨by omega, by omega⟩ hs ha).mono ?_
  rintro e w2 ⟨rfl, nn, a1, sh1, hR2, hN2, hnn, hf2, ht2, hf2'⟩
  have hB2 := (hf2.block RB (lt_of_block HBB1.out) (fun e => e.elim hRB (by omega))).trans HBB1.out
  have hfw : Fr w.heap.size (fun q => q = R) w w2 := (Fr.of_below HB1.out _).trans (hf2.mono HB1.out.size fun q hq e => e.elim (fun e => e) (fun e => by have := HNE.out; omega))
  have h1 : sh1 = true → res = none := fun h => by
    rw [← HRES.out]
    rcases ht2 h with h | h
    · rw [if_pos h]
    · split
      · rfl
      · unfold manyR; rw [if_neg (by omega)]
  have h2 : sh1 = false → a1 ≤ s.size ∧ res = manyK (domR s) nn a1 := fun h => by
    obtain ⟨e1, e2, e3, e4⟩ := hf2' h
    subst e1 e3 e4
    rw [← HRES.out, if_neg (by decide)]
    unfold manyR
    rw [if_pos e2]
    exact ⟨e2, rfl⟩
  have HT1 := Lib.hid h1; have HT2 := Lib.hid h2; have HR2 := Lib.hid hR2; have HN2 := Lib.hid hN2; have HB2 := Lib.hid hB2; have HFW := Lib.hid hfw
  clear ht2 hf2' h1 h2 hR2 hN2 hB2 hfw hf2 hrow
  go_wp2_with fail
  go_loopw [6, 7] (fun ov kv wr => ∃ (vo : Value) (k b : Nat) (sh : Bool) (cs : List Value), ov = vo ∧ kv = .int .i64 k ∧ k ≤ nn ∧ Hid (wr.heap[R]? = some (.cells #[.string s, .int .i64 (b : Nat), .bool sh] 65 (0, 0)) ∧ wr.heap[N]? = some (.cells #[.int .i64 (nn : Nat)] 3 (0, 0)) ∧
      wr.heap[RB]? = some (.cells #[.pointer (some ⟨R, 0, none⟩)] 63 (0, 0)) ∧ Fr w.heap.size (fun q => q = R) w wr ∧ wr.ownsRow N 87 2 vo k cs ∧ vo.ownBlock ≠ some N ∧ (sh = true → res = none) ∧
      (sh = false → b ≤ s.size ∧ res = manyK (domR s) nn a1 ∧ ∃ xs : List Dm, xs.length = k ∧ manyK (domR s) k a1 = some (xs, b) ∧ cs = xs.flatMap Dm.cells))) (fun _ kv _ => nn - (intOf kv).toNat)
  case atStart =>
    exact ⟨_, 0, a1, sh1, [], rfl, rfl, Nat.zero_le _, Lib.hid ⟨HR2.out, HN2.out, HB2.out, HFW.out, World.ownsRow_nil _ _ _ _, by simp [Value.ownBlock], HT1.out, fun h => ⟨(HT2.out h).1, (HT2.out h).2, [], rfl, rfl, rfl⟩⟩⟩
  case round =>
    obtain ⟨vo, k, b, sh, cs, rfl, rfl, hk, hI⟩ := hrel
    obtain ⟨av, cv, rfl⟩ := own_form hI.out.2.2.2.2.1
    have hR3 := hI.out.1; have hN3 := hI.out.2.1; have hB3 := hI.out.2.2.1
    have r2 := cell_of_block hR3 2; have n0 := cell_of_block hN3 0
    have lR3 := lt_of_block hR3; have lN3 := lt_of_block hN3; have lB3 := lt_of_block hB3
    have HR3 := Lib.hid hR3; have HN3 := Lib.hid hN3; have HB3 := Lib.hid hB3
    clear hR3 hN3 hB3
    by_cases hlt : k < nn
    · cases sh with
      | true =>
        have HF := Lib.hid hI.out.2.2.2.1
        go_wp2_with fail
        go_ret
        unfold ManyP
        rw [hI.out.2.2.2.2.2.2.1 (by simp)]
        exact ⟨_, _, _, rfl, HF.out, b, HR3.out⟩
      | false =>
        obtain ⟨hbs, hrk, xs, hxl, hxk, hxc⟩ := hI.out.2.2.2.2.2.2.2 (by simp)
        subst hxc
        have HRK := Lib.hid hrk; have HXL := Lib.hid hxl; have HXK := Lib.hid hxk
        clear hrk hxl hxk
        go_wp2_with fail
        have hb4 := (Below.refl wr.heap.size wr).alloc (Nat.le_refl _) (.cells #[.int .i64 0, .int .i64 0] 87)
        have k4 := World.alloc_heap_new wr (.cells #[.int .i64 0, .int .i64 0] 87)
        generalize wr.alloc (.cells #[.int .i64 0, .int .i64 0] 87) = w4 at hb4 k4 ⊢
        obtain ⟨X, hX⟩ : ∃ X, wr.heap.size = X := ⟨_, rfl⟩
        rw [hX] at hb4 k4 lR3 lN3 lB3 ⊢
        have HXE := Lib.hid hX
        clear hX r2 n0
        have HB4 := Lib.hid hb4; have HK4 := Lib.hid k4
        clear hb4 k4
        refine (one_dom X RB R s b w4 HK4.out ((HB4.out.block _ lB3).trans HB3.out) ((HB4.out.block _ lR3).trans HR3.out) (by omega) ⟨hRB, by omega⟩ hs hbs).mono ?_
        intro e w5 hone
        obtain ⟨rfl, hf5, cs, a2, sh2, hR5, hX5, hcs, hint, hs1, hs2⟩ := hone.uni (fun p hp => by
          cases hq : domR s b with
          | none => rw [hq] at hp; cases hp
          | some q => rw [hq] at hp; simp only [Option.map_some, Option.some.injEq] at hp; subst hp; exact ⟨rfl, fun u hu => by simp only [Dm.cells, List.mem_cons, List.not_mem_nil, or_false] at hu; rcases hu with rfl | rfl <;> exact ⟨_, rfl⟩⟩)
        clear hone
        have hN5 := (hf5.block N (Nat.lt_of_lt_of_le (lt_of_block HN3.out) HB4.out.size) (by omega)).trans ((HB4.out.block _ lN3).trans HN3.out)
        have hB5 := (hf5.block RB (Nat.lt_of_lt_of_le (lt_of_block HB3.out) HB4.out.size) (by omega)).trans ((HB4.out.block _ lB3).trans HB3.out)
        have hf35 : Fr wr.heap.size (fun q => q = R) wr w5 := by
          rw [HXE.out]
          exact (Fr.of_below HB4.out _).trans (hf5.mono (HXE.out ▸ HB4.out.size) fun q hq e => e.elim (fun e => e) (fun e => by omega))
        have hown := hI.out.2.2.2.2.1
        have hown5 := ownsRow_fr (F := fun q => q = R) hown hf35 (fun g hg => ⟨(hown.lt g hg).2, fun e => by have := (hown.lt g hg).1; subst e; omega⟩)
        have hfw5 := hI.out.2.2.2.1.trans (hf35.mono hI.out.2.2.2.1.size fun _ _ e => e)
        have hvN := hI.out.2.2.2.2.2.1
        have hlv := hown5.lt
        obtain ⟨c0, c1, rfl⟩ : ∃ c0 c1, cs = [c0, c1] := by
          match cs, hcs with
          | [c0, c1], _ => exact ⟨c0, c1, rfl⟩
        obtain ⟨m0, rfl⟩ := hint c0 (by simp)
        obtain ⟨m1, rfl⟩ := hint c1 (by simp)
        clear hint
        have q0 := cell_of_block hX5 0; have q1 := cell_of_block hX5 1; have lX5 := lt_of_block hX5
        have lN5 := lt_of_block hN5
        obtain ⟨i0, hi0, hz0, hz1, hz2⟩ := info_parts infoDm
        have HO5 := Lib.hid hown5; have HR5 := Lib.hid hR5; have HN5 := Lib.hid hN5; have HB5 := Lib.hid hB5; have HFW5 := Lib.hid hfw5; have HVN := Lib.hid hvN; have HLV := Lib.hid hlv; have HS1 := Lib.hid hs1; have HS2 := Lib.hid hs2; have HX5 := Lib.hid hX5
        clear hown hown5 hR5 hN5 hB5 hfw5 hvN hlv hs1 hs2 hX5 hf5 hf35 hcs
        go_wp2_with (at_builtin; refine wpList_append_lies _ rfl _ _ _ rfl N 87 i0 _ 2 16 Try.underlying77 hi0 hz0 hz1 hz2 rfl (by omega) (.slice av k cv) k _ rfl (HO5.out.alloc _) ⟨w5.heap.size, 0, none⟩ 1 1 [.int .i64 m0, .int .i64 m1] rfl rfl (World.news_of_block (cs := #[.int .i64 m0, .int .i64 m1]) (t := 87) (fr := (0, 0)) (World.alloc_heap_new w5 _)) (by simp [Value.oneCell']) (by omega) (by unfold maxLen; omega) (by omega) (by simp; omega) (w5.heap.size + 1) (by simp) ?_)
        intro gg cap' w6 hown6 hgrow hat hlt6
        have hf6 : Fr w5.heap.size (fun q => (Value.slice av k cv).ownBlock = some q) w5 w6 := Fr.grown ((Fr.refl _ _ _).alloc (Nat.le_refl _) _) hgrow (by simp) (fun q e => .inr e)
        have hR6 := (hf6.block R (lt_of_block HR5.out) (fun e => by have := (HLV.out _ e).1; omega)).trans HR5.out
        have hN6 := (hf6.block N (lt_of_block HN5.out) HVN.out).trans HN5.out
        have hB6 := (hf6.block RB (lt_of_block HB5.out) (fun e => by have := (HLV.out _ e).1; omega)).trans HB5.out
        have hgg : gg ≠ N := fun e => by
          rcases hat with h | h
          · exact HVN.out (e ▸ h)
          · have := lt_of_block HN5.out; omega
        have hfw6 : Fr w.heap.size (fun q => q = R) w w6 := HFW5.out.trans (hf6.mono HFW5.out.size fun q hq e => by have := (HLV.out q e).1; have := HNE.out; omega)
        have h1 : sh2 = true → res = none := fun h => by
          have h3 : domR s b = none := by
            have := HS2.out h
            cases hq : domR s b with
            | none => rfl
            | some q => rw [hq] at this; cases this
          have h4 := manyK_snoc (domR s) k a1 xs b HXK.out
          rw [h3] at h4
          rw [HRK.out]
          exact manyK_none_le h4 hlt
        have h2 : sh2 = false → a2 ≤ s.size ∧ res = manyK (domR s) nn a1 ∧ ∃ xs' : List Dm, xs'.length = k + 1 ∧ manyK (domR s) (k + 1) a1 = some (xs', a2) ∧ xs.flatMap Dm.cells ++ [.int .i64 m0, .int .i64 m1] = xs'.flatMap Dm.cells := fun h => by
          have h3 := HS1.out h
          cases hq : domR s b with
          | none => rw [hq] at h3; cases h3
          | some q =>
            obtain ⟨x, c⟩ := q
            rw [hq] at h3
            simp only [Option.map_some, Option.some.injEq, Prod.mk.injEq] at h3
            obtain ⟨h3, rfl⟩ := h3
            have h4 := manyK_snoc (domR s) k a1 xs b HXK.out
            rw [hq] at h4
            refine ⟨(domR_ge b x c hbs hq).2, HRK.out, xs ++ [x], by simp [HXL.out], h4, ?_⟩
            rw [List.flatMap_append, ← h3]
            simp
        have HFIN := Lib.hid (And.intro hR6 (And.intro hN6 (And.intro hB6 (And.intro hfw6 (And.intro hown6 (And.intro hgg (And.intro h1 h2)))))))
        clear hR6 hN6 hB6 hfw6 hown6 hgg h1 h2 hgrow hat hlt6 hf6 q0 q1 lX5 lN5
        go_wp2_with fail
        refine ⟨⟨_, k + 1, a2, sh2, _, rfl, by go_num, by omega, Lib.hid ⟨HFIN.out.1, HFIN.out.2.1, HFIN.out.2.2.1, HFIN.out.2.2.2.1, HFIN.out.2.2.2.2.1, ?_, HFIN.out.2.2.2.2.2.2.1, HFIN.out.2.2.2.2.2.2.2⟩⟩, by simp [intOf]; omega⟩
        simp only [Value.ownBlock, ne_eq, Option.some.injEq]
        exact HFIN.out.2.2.2.2.2.1
    · obtain rfl : k = nn := by omega
      have HF := Lib.hid hI.out.2.2.2.1
      go_wp2_with fail
      go_ret
      unfold ManyP
      cases sh with
      | true =>
        rw [hI.out.2.2.2.2.2.2.1 (by simp)]
        exact ⟨_, _, _, rfl, HF.out, b, HR3.out⟩
      | false =>
        obtain ⟨hbs, hrk, xs, hxl, hxk, rfl⟩ := hI.out.2.2.2.2.2.2.2 (by simp)
        rw [hrk, hxk]
        refine ⟨_, _, _, rfl, HF.out, HR3.out, ?_⟩
        rw [HNE.out, hxl]
        exact hI.out.2.2.2.2.1

theorem infoQu : (Try.prog.info? 92).map (fun i => (i.zero, i.size, i.bytes)) = some (some (.agg #[.int .i64 0, .int .i64 0, .int .i64 0]), 3, 24) := by kernel_rfl
set_option maxRecDepth 100000 in
set_option maxHeartbeats 2000000 in
theorem many_qu (R RB : Nat) (s : ByteArray) (a : Nat) (sh : Bool) (w : World) (hB : w.heap[RB]? = some (.cells #[.pointer (some ⟨R, 0, none⟩)] 63 (0, 0)))
    (hR : w.heap[R]? = some (.cells #[.string s, .int .i64 (a : Nat), .bool sh] 65 (0, 0))) (hRB : RB ≠ R) (hs : s.size ≤ 100000) (ha : sh = true ∨ a ≤ s.size) :
    Calls Try.prog 35 #[.pointer (some ⟨R, 0, none⟩), .func (.func 36) #[] #[.pointer (some ⟨RB, 0, none⟩)]] w (ManyP R s 92 3 Qu.cells (if sh = true then none else manyR s (quR s) a) w) := by
  obtain ⟨res, hres⟩ : ∃ res, (if sh = true then none else manyR s (quR s) a) = res := ⟨_, rfl⟩
  rw [hres]
  have HRES := Lib.hid hres
  have hb1 := ((Below.refl w.heap.size w).alloc (Nat.le_refl _) (.cells #[.int .i64 0] 3)).alloc (by simp) (.cells #[.pointer (some ⟨w.heap.size, 0, none⟩), .int .i64 1] 73)
  have k1 : ((w.alloc (.cells #[.int .i64 0] 3)).alloc (.cells #[.pointer (some ⟨w.heap.size, 0, none⟩), .int .i64 1] 73)).heap[w.heap.size]? = some (.cells #[.int .i64 0] 3 (0, 0)) := alloc_other (World.alloc_heap_new _ _)
  have k2 : ((w.alloc (.cells #[.int .i64 0] 3)).alloc (.cells #[.pointer (some ⟨w.heap.size, 0, none⟩), .int .i64 1] 73)).heap[w.heap.size + 1]? = some (.cells #[.pointer (some ⟨w.heap.size, 0, none⟩), .int .i64 1] 73 (0, 0)) := alloc2_new _ _ _
  have lR := lt_of_block hR; have lB := lt_of_block hB
  have hR1 := (hb1.block _ lR).trans hR
  have hB1 := (hb1.block _ lB).trans hB
  have HB1 := Lib.hid hb1; have HK1 := Lib.hid k1; have HK2 := Lib.hid k2; have HR1 := Lib.hid hR1; have HBB1 := Lib.hid hB1
  clear hres hB hR hb1 k1 k2 hR1 hB1
  go_enter Try.func35, Try.ntmps35
  go_wp2_with fail
  obtain ⟨w1, hw1⟩ : ∃ w1, (w.alloc (.cells #[.int .i64 0] 3)).alloc (.cells #[.pointer (some ⟨w.heap.size, 0, none⟩), .int .i64 1] 73) = w1 := ⟨_, rfl⟩
  rw [hw1] at HB1 HK1 HK2 HR1 HBB1 ⊢
  clear hw1
  obtain ⟨N, hN⟩ : ∃ N, w.heap.size = N := ⟨_, rfl⟩
  have HNE := Lib.hid hN
  rw [hN] at HK1 HK2 lR lB ⊢
  clear hN
  have hrow : FieldRow w1 (N + 1) N (.slice (some ⟨N + 1, 0, none⟩) 1 1) [(0, 1)] := field_row (l := [(0, 1)]) HK2.out (Nat.le_refl _) (fun i hi => by simp at hi; subst hi; exact ⟨rfl, rfl⟩)
  refine (get1_any R N (N + 1) s a sh _ w1 HR1.out HK1.out hrow (by omega) ⟨by omega, by omega⟩ hs ha).mono ?_
  rintro e w2 ⟨rfl, nn, a1, sh1, hR2, hN2, hnn, hf2, ht2, hf2'⟩
  have hB2 := (hf2.block RB (lt_of_block HBB1.out) (fun e => e.elim hRB (by omega))).trans HBB1.out
  have hfw : Fr w.heap.size (fun q => q = R) w w2 := (Fr.of_below HB1.out _).trans (hf2.mono HB1.out.size fun q hq e => e.elim (fun e => e) (fun e => by have := HNE.out; omega))
  have h1 : sh1 = true → res = none := fun h => by
    rw [← HRES.out]
    rcases ht2 h with h | h
    · rw [if_pos h]
    · split
      · rfl
      · unfold manyR; rw [if_neg (by omega)]
  have h2 : sh1 = false → a1 ≤ s.size ∧ res = manyK (quR s) nn a1 := fun h => by
    obtain ⟨e1, e2, e3, e4⟩ := hf2' h
    subst e1 e3 e4
    rw [← HRES.out, if_neg (by decide)]
    unfold manyR
    rw [if_pos e2]
    exact ⟨e2, rfl⟩
  have HT1 := Lib.hid h1; have HT2 := Lib.hid h2; have HR2 := Lib.hid hR2; have HN2 := Lib.hid hN2; have HB2 := Lib.hid hB2; have HFW := Lib.hid hfw
  clear ht2 hf2' h1 h2 hR2 hN2 hB2 hfw hf2 hrow
  go_wp2_with fail
  go_loopw [6, 7] (fun ov kv wr => ∃ (vo : Value) (k b : Nat) (sh : Bool) (cs : List Value), ov = vo ∧ kv = .int .i64 k ∧ k ≤ nn ∧ Hid (wr.heap[R]? = some (.cells #[.string s, .int .i64 (b : Nat), .bool sh] 65 (0, 0)) ∧ wr.heap[N]? = some (.cells #[.int .i64 (nn : Nat)] 3 (0, 0)) ∧
      wr.heap[RB]? = some (.cells #[.pointer (some ⟨R, 0, none⟩)] 63 (0, 0)) ∧ Fr w.heap.size (fun q => q = R) w wr ∧ wr.ownsRow N 92 3 vo k cs ∧ vo.ownBlock ≠ some N ∧ (sh = true → res = none) ∧
      (sh = false → b ≤ s.size ∧ res = manyK (quR s) nn a1 ∧ ∃ xs : List Qu, xs.length = k ∧ manyK (quR s) k a1 = some (xs, b) ∧ cs = xs.flatMap Qu.cells))) (fun _ kv _ => nn - (intOf kv).toNat)
  case atStart =>
    exact ⟨_, 0, a1, sh1, [], rfl, rfl, Nat.zero_le _, Lib.hid ⟨HR2.out, HN2.out, HB2.out, HFW.out, World.ownsRow_nil _ _ _ _, by simp [Value.ownBlock], HT1.out, fun h => ⟨(HT2.out h).1, (HT2.out h).2, [], rfl, rfl, rfl⟩⟩⟩
  case round =>
    obtain ⟨vo, k, b, sh, cs, rfl, rfl, hk, hI⟩ := hrel
    obtain ⟨av, cv, rfl⟩ := own_form hI.out.2.2.2.2.1
    have hR3 := hI.out.1; have hN3 := hI.out.2.1; have hB3 := hI.out.2.2.1
    have r2 := cell_of_block hR3 2; have n0 := cell_of_block hN3 0
    have lR3 := lt_of_block hR3; have lN3 := lt_of_block hN3; have lB3 := lt_of_block hB3
    have HR3 := Lib.hid hR3; have HN3 := Lib.hid hN3; have HB3 := Lib.hid hB3
    clear hR3 hN3 hB3
    by_cases hlt : k < nn
    · cases sh with
      | true =>
        have HF := Lib.hid hI.out.2.2.2.1
        go_wp2_with fail
        go_ret
        unfold ManyP
        rw [hI.out.2.2.2.2.2.2.1 (by simp)]
        exact ⟨_, _, _, rfl, HF.out, b, HR3.out⟩
      | false =>
        obtain ⟨hbs, hrk, xs, hxl, hxk, hxc⟩ := hI.out.2.2.2.2.2.2.2 (by simp)
        subst hxc
        have HRK := Lib.hid hrk; have HXL := Lib.hid hxl; have HXK := Lib.hid hxk
        clear hrk hxl hxk
        go_wp2_with fail
        have hb4 := (Below.refl wr.heap.size wr).alloc (Nat.le_refl _) (.cells #[.int .i64 0, .int .i64 0, .int .i64 0] 92)
        have k4 := World.alloc_heap_new wr (.cells #[.int .i64 0, .int .i64 0, .int .i64 0] 92)
        generalize wr.alloc (.cells #[.int .i64 0, .int .i64 0, .int .i64 0] 92) = w4 at hb4 k4 ⊢
        obtain ⟨X, hX⟩ : ∃ X, wr.heap.size = X := ⟨_, rfl⟩
        rw [hX] at hb4 k4 lR3 lN3 lB3 ⊢
        have HXE := Lib.hid hX
        clear hX r2 n0
        have HB4 := Lib.hid hb4; have HK4 := Lib.hid k4
        clear hb4 k4
        refine (one_qu X RB R s b w4 HK4.out ((HB4.out.block _ lB3).trans HB3.out) ((HB4.out.block _ lR3).trans HR3.out) (by omega) ⟨hRB, by omega⟩ hs hbs).mono ?_
        intro e w5 hone
        obtain ⟨rfl, hf5, cs, a2, sh2, hR5, hX5, hcs, hint, hs1, hs2⟩ := hone.uni (fun p hp => by
          cases hq : quR s b with
          | none => rw [hq] at hp; cases hp
          | some q => rw [hq] at hp; simp only [Option.map_some, Option.some.injEq] at hp; subst hp; exact ⟨rfl, fun u hu => by simp only [Qu.cells, List.mem_cons, List.not_mem_nil, or_false] at hu; rcases hu with rfl | rfl | rfl <;> exact ⟨_, rfl⟩⟩)
        clear hone
        have hN5 := (hf5.block N (Nat.lt_of_lt_of_le (lt_of_block HN3.out) HB4.out.size) (by omega)).trans ((HB4.out.block _ lN3).trans HN3.out)
        have hB5 := (hf5.block RB (Nat.lt_of_lt_of_le (lt_of_block HB3.out) HB4.out.size) (by omega)).trans ((HB4.out.block _ lB3).trans HB3.out)
        have hf35 : Fr wr.heap.size (fun q => q = R) wr w5 := by
          rw [HXE.out]
          exact (Fr.of_below HB4.out _).trans (hf5.mono (HXE.out ▸ HB4.out.size) fun q hq e => e.elim (fun e => e) (fun e => by omega))
        have hown := hI.out.2.2.2.2.1
        have hown5 := ownsRow_fr (F := fun q => q = R) hown hf35 (fun g hg => ⟨(hown.lt g hg).2, fun e => by have := (hown.lt g hg).1; subst e; omega⟩)
        have hfw5 := hI.out.2.2.2.1.trans (hf35.mono hI.out.2.2.2.1.size fun _ _ e => e)
        have hvN := hI.out.2.2.2.2.2.1
        have hlv := hown5.lt
        obtain ⟨c0, c1, c2, rfl⟩ : ∃ c0 c1 c2, cs = [c0, c1, c2] := by
          match cs, hcs with
          | [c0, c1, c2], _ => exact ⟨c0, c1, c2, rfl⟩
        obtain ⟨m0, rfl⟩ := hint c0 (by simp)
        obtain ⟨m1, rfl⟩ := hint c1 (by simp)
        obtain ⟨m2, rfl⟩ := hint c2 (by simp)
        clear hint
        have q0 := cell_of_block hX5 0; have q1 := cell_of_block hX5 1; have q2 := cell_of_block hX5 2; have lX5 := lt_of_block hX5
        have lN5 := lt_of_block hN5
        obtain ⟨i0, hi0, hz0, hz1, hz2⟩ := info_parts infoQu
        have HO5 := Lib.hid hown5; have HR5 := Lib.hid hR5; have HN5 := Lib.hid hN5; have HB5 := Lib.hid hB5; have HFW5 := Lib.hid hfw5; have HVN := Lib.hid hvN; have HLV := Lib.hid hlv; have HS1 := Lib.hid hs1; have HS2 := Lib.hid hs2; have HX5 := Lib.hid hX5
        clear hown hown5 hR5 hN5 hB5 hfw5 hvN hlv hs1 hs2 hX5 hf5 hf35 hcs
        go_wp2_with (at_builtin; refine wpList_append_lies _ rfl _ _ _ rfl N 92 i0 _ 3 24 Try.underlying41 hi0 hz0 hz1 hz2 rfl (by omega) (.slice av k cv) k _ rfl (HO5.out.alloc _) ⟨w5.heap.size, 0, none⟩ 1 1 [.int .i64 m0, .int .i64 m1, .int .i64 m2] rfl rfl (World.news_of_block (cs := #[.int .i64 m0, .int .i64 m1, .int .i64 m2]) (t := 92) (fr := (0, 0)) (World.alloc_heap_new w5 _)) (by simp [Value.oneCell']) (by omega) (by unfold maxLen; omega) (by omega) (by simp; omega) (w5.heap.size + 1) (by simp) ?_)
        intro gg cap' w6 hown6 hgrow hat hlt6
        have hf6 : Fr w5.heap.size (fun q => (Value.slice av k cv).ownBlock = some q) w5 w6 := Fr.grown ((Fr.refl _ _ _).alloc (Nat.le_refl _) _) hgrow (by simp) (fun q e => .inr e)
        have hR6 := (hf6.block R (lt_of_block HR5.out) (fun e => by have := (HLV.out _ e).1; omega)).trans HR5.out
        have hN6 := (hf6.block N (lt_of_block HN5.out) HVN.out).trans HN5.out
        have hB6 := (hf6.block RB (lt_of_block HB5.out) (fun e => by have := (HLV.out _ e).1; omega)).trans HB5.out
        have hgg : gg ≠ N := fun e => by
          rcases hat with h | h
          · exact HVN.out (e ▸ h)
          · have := lt_of_block HN5.out; omega
        have hfw6 : Fr w.heap.size (fun q => q = R) w w6 := HFW5.out.trans (hf6.mono HFW5.out.size fun q hq e => by have := (HLV.out q e).1; have := HNE.out; omega)
        have h1 : sh2 = true → res = none := fun h => by
          have h3 : quR s b = none := by
            have := HS2.out h
            cases hq : quR s b with
            | none => rfl
            | some q => rw [hq] at this; cases this
          have h4 := manyK_snoc (quR s) k a1 xs b HXK.out
          rw [h3] at h4
          rw [HRK.out]
          exact manyK_none_le h4 hlt
        have h2 : sh2 = false → a2 ≤ s.size ∧ res = manyK (quR s) nn a1 ∧ ∃ xs' : List Qu, xs'.length = k + 1 ∧ manyK (quR s) (k + 1) a1 = some (xs', a2) ∧ xs.flatMap Qu.cells ++ [.int .i64 m0, .int .i64 m1, .int .i64 m2] = xs'.flatMap Qu.cells := fun h => by
          have h3 := HS1.out h
          cases hq : quR s b with
          | none => rw [hq] at h3; cases h3
          | some q =>
            obtain ⟨x, c⟩ := q
            rw [hq] at h3
            simp only [Option.map_some, Option.some.injEq, Prod.mk.injEq] at h3
            obtain ⟨h3, rfl⟩ := h3
            have h4 := manyK_snoc (quR s) k a1 xs b HXK.out
            rw [hq] at h4
            refine ⟨(quR_ge b x c hbs hq).2, HRK.out, xs ++ [x], by simp [HXL.out], h4, ?_⟩
            rw [List.flatMap_append, ← h3]
            simp
        have HFIN := Lib.hid (And.intro hR6 (And.intro hN6 (And.intro hB6 (And.intro hfw6 (And.intro hown6 (And.intro hgg (And.intro h1 h2)))))))
        clear hR6 hN6 hB6 hfw6 hown6 hgg h1 h2 hgrow hat hlt6 hf6 q0 q1 q2 lX5 lN5
        go_wp2_with fail
        refine ⟨⟨_, k + 1, a2, sh2, _, rfl, by go_num, by omega, Lib.hid ⟨HFIN.out.1, HFIN.out.2.1, HFIN.out.2.2.1, HFIN.out.2.2.2.1, HFIN.out.2.2.2.2.1, ?_, HFIN.out.2.2.2.2.2.2.1, HFIN.out.2.2.2.2.2.2.2⟩⟩, by simp [intOf]; omega⟩
        simp only [Value.ownBlock, ne_eq, Option.some.injEq]
        exact HFIN.out.2.2.2.2.2.1
    · obtain rfl : k = nn := by omega
      have HF := Lib.hid hI.out.2.2.2.1
      go_wp2_with fail
      go_ret
      unfold ManyP
      cases sh with
      | true =>
        rw [hI.out.2.2.2.2.2.2.1 (by simp)]
        exact ⟨_, _, _, rfl, HF.out, b, HR3.out⟩
      | false =>
        obtain ⟨hbs, hrk, xs, hxl, hxk, rfl⟩ := hI.out.2.2.2.2.2.2.2 (by simp)
        rw [hrk, hxk]
        refine ⟨_, _, _, rfl, HF.out, HR3.out, ?_⟩
        rw [HNE.out, hxl]
        exact hI.out.2.2.2.2.1
end Go.Proofs.Ytghfdiaaonjofaa
