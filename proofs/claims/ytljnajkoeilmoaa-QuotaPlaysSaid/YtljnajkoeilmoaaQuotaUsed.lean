/-
  quota: Used, Queues; the document's Same.
-/
import Derived.Test.YtljnajkoeilmoaaQuotaApi
set_option linter.unusedVariables false
set_option linter.unusedSimpArgs false
namespace Go.Proofs.Ytljnajkoeilmoaa
open Go.RowKit

theorem infoUnits : (Try.prog.info? 25).map (fun i => (i.zero, i.size, i.bytes)) = some (some (.agg #[.int .i64 0, .int .i64 0]), 2, 16) := by kernel_rfl

def usedOf (st : List Ac) : List Un := st.map fun x => ⟨x.ug, x.uc⟩

/-- a slice that is made from block B on -/
def Fresh (B : Nat) (v : Value) : Prop := ∀ a n c, v = .slice (some a) n c → B ≤ a.block

theorem sliceOf_own {w : World} {base : Nat} {e : TypeId} {sz : Nat} {v : Value} {α : Type} {cells : α → List Value} {xs : List α} (hsz : ∀ x, (cells x).length = sz) (hpos : 0 < sz) (h : w.ownsRow base e sz v xs.length (xs.flatMap cells)) :
    Rd.SliceOf w v sz cells xs ∧ Fresh base v := by
  obtain ⟨hl, ⟨rfl, h0⟩ | ⟨g, cap, cur, rfl, hg, hc, hn, hm, hs, ht⟩⟩ := h
  · exact ⟨.inl ⟨rfl, List.length_eq_zero_iff.1 h0⟩, fun a n c h => by cases h⟩
  · refine ⟨.inr ⟨_, _, rfl, hn, hm, fun i hi j hj => ?_⟩, fun a n c h => by cases h; exact hg⟩
    have hj' : j < sz := by rw [hsz] at hj; exact hj
    have hadd : (⟨g, 0, none⟩ : Addr).add (i * sz + j) = ⟨g, i * sz + j, none⟩ := by
      unfold Addr.add
      split
      · rename_i e'; rw [e']
      · simp
    rw [hadd]
    have hlt : i * sz + j < xs.length * sz := by
      have : (i + 1) * sz ≤ xs.length * sz := Nat.mul_le_mul_right _ hi
      rw [Nat.add_mul] at this
      omega
    have hcell : w.cell? ⟨g, i * sz + j, none⟩ = cur[i * sz + j]? := by simp [World.cell?, hc]
    rw [hcell]
    have h1 : (cur.toList.take (xs.length * sz))[i * sz + j]? = cur.toList[i * sz + j]? := by rw [List.getElem?_take, if_pos hlt]
    rw [ht] at h1
    rw [← Array.getElem?_toList, ← h1]
    have key : ∀ (l : List α) (i j : Nat) (hi : i < l.length) (hj : j < sz), (l.flatMap cells)[i * sz + j]? = (cells l[i])[j]? := by
      intro l
      induction l with
      | nil => intro i j hi; simp at hi
      | cons x r ih =>
        intro i j hi hj
        rw [List.flatMap_cons]
        cases i with
        | zero => rw [List.getElem?_append_left (by rw [hsz]; omega)]; simp
        | succ i =>
          rw [List.getElem?_append_right (by rw [hsz, Nat.add_mul]; omega), hsz]
          have : (i + 1) * sz + j - sz = i * sz + j := by rw [Nat.add_mul]; omega
          rw [this]
          simpa using ih i j (by simpa using hi) hj
    rw [key xs i j hi hj', List.getElem?_eq_getElem]

def UsedPost (st : List Ac) (w : World) (e : Ending) (w' : World) : Prop :=
  ∃ v, e = .returned v ∧ Rd.SliceOf w' v 2 Un.cells (usedOf st) ∧ Fresh w.heap.size v ∧ Below w.heap.size w w'

set_option maxHeartbeats 1000000 in
theorem used_any (p R cap : Nat) (bs : List Nat) (st : List Ac) (w : World) (h : Acc w p R cap bs st) (hl : st.length ≤ 8) :
    Calls Try.prog 13 #[.pointer (some ⟨p, 0, none⟩)] w fun e w' => UsedPost st w e w' := by
  obtain ⟨i0, hi0, hz0, hz1, hz2⟩ := info_parts infoUnits
  obtain ⟨cs, hrow, hcs⟩ := h.row
  have c0 : w.cell? ⟨p, 0, none⟩ = some (.slice (some ⟨R, 0, none⟩) st.length cap) := cell_of_block h.head 0
  have lp := lt_of_block h.head
  obtain ⟨n, hn⟩ : ∃ n, st.length = n := ⟨_, rfl⟩
  have H := Lib.hid h; have HR := Lib.hid hrow; have HC := Lib.hid hcs; have HN := Lib.hid hn
  rw [hn] at c0
  clear h hrow hcs
  have hn8 : n ≤ 8 := by omega
  clear hn hl
  go_enter Try.func13, Try.ntmps13
  go_wp2_with fail
  go_loopw [3, 11] (fun v' i wr => ∃ (k : Nat) (v : Value), v = v' ∧ k ≤ n ∧ i = .int .i64 k ∧ wr.ownsRow w.heap.size 25 2 v k ((usedOf (st.take k)).flatMap Un.cells) ∧ Below w.heap.size w wr) (fun _ i _ => n - (intOf i).toNat)
  case atStart => exact ⟨0, _, rfl, Nat.zero_le _, rfl, World.ownsRow_nil _ _ _ _, Below.refl _ _⟩
  case round =>
    obtain ⟨k, v, rfl, hk, rfl, hown, hB⟩ := hrel
    by_cases hlt : k < n
    · have hks : k < st.length := by rw [HN.out]; exact hlt
      have hkb : k < bs.length := by rw [H.out.len]; exact hks
      obtain ⟨b, hb⟩ : ∃ b, bs[k] = b := ⟨_, rfl⟩
      obtain ⟨x, hx⟩ : ∃ x, st[k] = x := ⟨_, rfl⟩
      have heach := H.out.each k hks hkb
      rw [hx, hb] at heach
      have lb := lt_of_block heach
      have lR := lt_of_block HR.out
      have e0 : wr.cell? ⟨R, k, none⟩ = some (.pointer (some ⟨b, 0, none⟩)) := by rw [hB.cell (p := ⟨R, k, none⟩) lR, ← hb]; exact (cell_of_block HR.out k).trans (HC.out k hkb)
      have e2 : wr.cell? ⟨b, 2, none⟩ = some (.int .i64 x.ug) := by rw [hB.cell (p := ⟨b, 2, none⟩) lb]; exact cell_of_block heach 2
      have e3 : wr.cell? ⟨b, 3, none⟩ = some (.int .i64 x.uc) := by rw [hB.cell (p := ⟨b, 3, none⟩) lb]; exact cell_of_block heach 3
      have HX := Lib.hid (show (usedOf (st.take (k + 1))).flatMap Un.cells = (usedOf (st.take k)).flatMap Un.cells ++ [.int .i64 x.ug, .int .i64 x.uc] by
        rw [List.take_succ_eq_append_getElem hks, hx]; simp [usedOf, Un.cells])
      have hsz := hB.size
      clear hb hx heach
      go_wp2_with (at_builtin; refine wpList_append_lies _ rfl _ _ _ rfl w.heap.size 25 i0 _ 2 16 Try.underlying22 hi0 hz0 hz1 hz2 rfl (by omega) v k _ rfl (hown.alloc _) ⟨wr.heap.size, 0, none⟩ 1 1 [.int .i64 x.ug, .int .i64 x.uc] rfl rfl (World.news_of_block (cs := #[.int .i64 x.ug, .int .i64 x.uc]) (t := 25) (fr := (0, 0)) (World.alloc_heap_new wr _)) (by simp [Value.oneCell']) (by omega) (by unfold maxLen; omega) (by omega) (by simp; omega) (wr.heap.size + 1) (by simp) ?_)
      intro gg cap' w2 hown2 hgrow hat hlt2
      have hv := hown.lt
      go_wp2
      refine ⟨⟨k + 1, _, rfl, by omega, by go_num, by rw [HX.out]; exact hown2, (hB.alloc hsz _).grown hgrow (by simp; omega) (fun j e => (hv j e).1)⟩, by simp [intOf]; omega⟩
    · have hkn : k = n := by omega
      subst hkn
      have HO := Lib.hid hown
      clear hown
      go_wp2
      go_ret
      have hfull : usedOf (st.take k) = usedOf st := by rw [List.take_of_length_le (by rw [HN.out]; omega)]
      have h1 := HO.out
      rw [hfull] at h1
      have h2 : (usedOf st).length = k := by simp [usedOf, HN.out]
      have h3 := sliceOf_own (sz := 2) (cells := Un.cells) (xs := usedOf st) (fun _ => rfl) (by decide) (by rw [h2]; exact h1)
      exact ⟨_, rfl, h3.1, h3.2, hB⟩

theorem queues_any (p R cap : Nat) (bs : List Nat) (st : List Ac) (w : World) (h : Acc w p R cap bs st) :
    Calls Try.prog 19 #[.pointer (some ⟨p, 0, none⟩)] w fun e w' => e = .returned (.int .i64 st.length) ∧ w = w' := by
  have c0 : w.cell? ⟨p, 0, none⟩ = some (.slice (some ⟨R, 0, none⟩) st.length cap) := cell_of_block h.head 0
  have lp := lt_of_block h.head
  clear h
  go_enter Try.func19, Try.ntmps19
  go_wp2
  go_ret
  exact ⟨rfl, rfl⟩

set_option maxHeartbeats 1000000 in
theorem same_any (v1 v2 : Value) (xs ys : List Un) (w : World) (s1 : Rd.SliceOf w v1 2 Un.cells xs) (s2 : Rd.SliceOf w v2 2 Un.cells ys) (hm : xs.length ≤ 1000000) :
    Calls Try.prog 14 #[v1, v2] w fun e w' => e = .returned (.bool (decide (xs = ys))) ∧ Below w.heap.size w w' := by
  obtain ⟨a1, cap1, h1⟩ := s1.form
  obtain ⟨a2, cap2, h2⟩ := s2.form
  have S1 := Lib.hid s1; have S2 := Lib.hid s2
  obtain ⟨n, hn⟩ : ∃ n, xs.length = n := ⟨_, rfl⟩
  obtain ⟨m, hm'⟩ : ∃ m, ys.length = m := ⟨_, rfl⟩
  rw [hn] at h1 hm
  rw [hm'] at h2
  subst h1 h2
  have HN := Lib.hid hn; have HM := Lib.hid hm'
  clear s1 s2 hn hm'
  by_cases hnm : n = m
  · subst hnm
    go_enter Try.func14, Try.ntmps14
    go_wp2_with fail
    go_loopw [5] (fun i wr => ∃ k : Nat, k ≤ n ∧ i = .int .i64 k ∧ xs.take k = ys.take k ∧ Below w.heap.size w wr) (fun i _ => n - (intOf i).toNat)
    case atStart => exact ⟨0, Nat.zero_le _, rfl, rfl, Below.refl _ _⟩
    case round =>
      obtain ⟨k, hk, rfl, heq, hB⟩ := hrel
      by_cases hlt : k < n
      · have hkx : k < xs.length := by rw [HN.out]; exact hlt
        have hky : k < ys.length := by rw [HM.out]; exact hlt
        obtain ⟨b, off, cp, hv, _, _, hb, hcell⟩ := S1.out.plain (by intro e; rw [e] at hkx; simp at hkx) (by intro x _; simp [Un.cells])
        simp only [Value.slice.injEq] at hv
        obtain ⟨h9, -, -⟩ := hv
        subst h9
        obtain ⟨b', off', cp', hv', _, _, hb', hcell'⟩ := S2.out.plain (by intro e; rw [e] at hky; simp at hky) (by intro x _; simp [Un.cells])
        simp only [Value.slice.injEq] at hv'
        obtain ⟨h9, -, -⟩ := hv'
        subst h9
        obtain ⟨x, hx⟩ : ∃ x, xs[k] = x := ⟨_, rfl⟩
        obtain ⟨y, hy⟩ : ∃ y, ys[k] = y := ⟨_, rfl⟩
        have c0 : wr.cell? ⟨b, off + k * 2, none⟩ = some (.int .i64 x.gpus) := by rw [hB.cell (p := ⟨b, off + k * 2, none⟩) hb, ← hx]; exact hcell k hkx 0 (by simp [Un.cells])
        have c1 : wr.cell? ⟨b, off + k * 2 + 1, none⟩ = some (.int .i64 x.cpus) := by rw [hB.cell (p := ⟨b, off + k * 2 + 1, none⟩) hb, ← hx]; exact hcell k hkx 1 (by simp [Un.cells])
        have c2 : wr.cell? ⟨b', off' + k * 2, none⟩ = some (.int .i64 y.gpus) := by rw [hB.cell (p := ⟨b', off' + k * 2, none⟩) hb', ← hy]; exact hcell' k hky 0 (by simp [Un.cells])
        have c3 : wr.cell? ⟨b', off' + k * 2 + 1, none⟩ = some (.int .i64 y.cpus) := by rw [hB.cell (p := ⟨b', off' + k * 2 + 1, none⟩) hb', ← hy]; exact hcell' k hky 1 (by simp [Un.cells])
        have HX := Lib.hid hx; have HY := Lib.hid hy; have HE := Lib.hid heq
        clear hx hy heq hcell hcell'
        go_wp2_with fail
        by_cases hxy : x = y
        · have b1 : (x.gpus == y.gpus) = true := by rw [hxy]; simp
          have b2 : (x.cpus == y.cpus) = true := by rw [hxy]; simp
          have HXY := Lib.hid hxy
          clear hxy
          go_region
          go_wp2
          refine ⟨⟨k + 1, by omega, by go_num, ?_, hB.drew⟩, by simp [intOf]; omega⟩
          rw [List.take_succ_eq_append_getElem hkx, List.take_succ_eq_append_getElem hky, HE.out, HX.out, HY.out, HXY.out]
        · have HXY := Lib.hid (show ¬ xs = ys from fun e => hxy (by subst e; rw [← HX.out, ← HY.out]))
          by_cases b1 : x.gpus = y.gpus
          · have b2 : (x.cpus == y.cpus) = false := by
              have : x.cpus ≠ y.cpus := fun e => hxy (by cases x; cases y; simp_all)
              simpa using this
            have b1' : (x.gpus == y.gpus) = true := by simpa using b1
            clear b1 hxy
            go_region
            go_wp2
            go_ret
            refine ⟨ret_bool ?_, hB.drew⟩
            simp [HXY.out]
          · have b1' : (x.gpus == y.gpus) = false := by simpa using b1
            clear b1 hxy
            go_region
            go_wp2
            go_ret
            refine ⟨ret_bool ?_, hB.drew⟩
            simp [HXY.out]
      · have hkn : k = n := by omega
        subst hkn
        have HE := Lib.hid heq
        clear heq
        go_wp2
        go_ret
        refine ⟨ret_bool ?_, hB⟩
        have := HE.out
        rw [List.take_of_length_le (by rw [HN.out]; omega), List.take_of_length_le (by rw [HM.out]; omega)] at this
        simp [this]
  · have HNE := Lib.hid (show ¬ xs = ys from fun e => hnm (by rw [← HN.out, ← HM.out, e]))
    have hne : (n == m) = false := by simpa using hnm
    have hne' : ((n : Int) == (m : Int)) = false := by simp; omega
    clear hnm
    go_enter Try.func14, Try.ntmps14
    go_wp2_with fail
    all_goals go_ret
    all_goals refine ⟨ret_bool ?_, Below.refl _ _⟩
    all_goals simp [HNE.out]
end Go.Proofs.Ytljnajkoeilmoaa
