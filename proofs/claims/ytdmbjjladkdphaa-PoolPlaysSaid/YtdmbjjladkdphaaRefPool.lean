/-
  The document's pool: within, apart, spot.
-/
import Derived.Test.YtdmbjjladkdphaaPoolLaw2
set_option linter.unusedVariables false
set_option linter.unusedSimpArgs false
namespace Go.Proofs.Ytdmbjjladkdphaa
open Go.RowKit Go.Maps

theorem unit_bit {m : Nat} (hm : m < 18446744073709551616) {L : List (Fin 64)} (h : L.map Fin.val = Mk.units m) : (∀ (j : Nat) (hj : j < L.length), m.testBit L[j].val = true) ∧ ∀ i, i < 64 → m.testBit i = true → ∃ (j : Nat) (hj : j < L.length), L[j].val = i := by
  rw [← Mk.units_filter (by omega)] at h
  constructor
  · intro j hj
    have h1 : L[j].val ∈ (List.range 64).filter (fun i => m.testBit i) := by rw [← h]; exact List.mem_map_of_mem (List.getElem_mem hj)
    exact (List.mem_filter.1 h1).2
  · intro i hi hb
    have h1 : i ∈ L.map Fin.val := by rw [h]; exact List.mem_filter.2 ⟨List.mem_range.2 hi, hb⟩
    obtain ⟨x, hx, rfl⟩ := List.mem_map.1 h1
    obtain ⟨j, hj, rfl⟩ := List.getElem_of_mem hx
    exact ⟨j, hj, rfl⟩
theorem units_cell {w : World} {B : Nat} {v : Value} {L : List (Fin 64)} (h : w.ownsRow B 3 1 v L.length (L.map encU)) {k : Nat} (hk : k < L.length) : ∃ g cap, v = .slice (some ⟨g, 0, none⟩) L.length cap ∧ g < w.heap.size ∧ w.cell? ⟨g, k, none⟩ = some (.int .i64 L[k].val) := by
  obtain ⟨h1, ⟨rfl, h0⟩ | ⟨g, cap, cur, rfl, hg, hh, hnc, hm, hsz, ht⟩⟩ := h
  · omega
  · refine ⟨g, cap, rfl, lt_of_block hh, ?_⟩
    rw [cell_of_block hh, ← Array.getElem?_toList]
    have h2 : (L.map encU)[k]? = some (.int .i64 L[k].val) := by rw [List.getElem?_map, List.getElem?_eq_getElem hk]; rfl
    rw [← ht, List.getElem?_take, if_pos (by omega)] at h2
    exact h2

set_option maxHeartbeats 1000000 in
theorem within_any (a b : Int) (ha : U64 a) (hb : U64 b) (w : World) (r : Bool) (hr : decide (Go.bits .andNot .u64 a b = 0) = r) :
    Calls Try.prog 50 #[.int .u64 a, .int .u64 b] w fun e w' => e = .returned (.bool r) ∧ Below w.heap.size w w' := by
  obtain ⟨m, rfl⟩ : ∃ m : Nat, a = m := ⟨a.toNat, (u_nat ha).1.symm⟩
  obtain ⟨q, rfl⟩ : ∃ q : Nat, b = q := ⟨b.toNat, (u_nat hb).1.symm⟩
  have hm : m < 18446744073709551616 := by have := ha.2; omega
  have hq : q < 18446744073709551616 := by have := hb.2; omega
  have HZ := Lib.hid (bNot_zero ha hb)
  have HR := Lib.hid hr
  clear ha hb hr
  go_enter Try.func50, Try.ntmps50
  go_wp2_with fail
  refine (runits_any m _ hm).mono ?_
  rintro e w1 ⟨v, L, rfl, hL, hown, hb1⟩
  obtain ⟨av, capv, rfl⟩ := own_form hown
  obtain ⟨n, hn⟩ : ∃ n, L.length = n := ⟨_, rfl⟩
  have HU := Lib.hid (unit_bit hm hL); have HO := Lib.hid hown; have HN := Lib.hid hn; have HB1 := Lib.hid hb1
  have hn64 : n ≤ 64 := by
    have h1 := congrArg List.length hL
    rw [List.length_map, hn, ← Mk.units_filter (by omega)] at h1
    have h2 := List.length_filter_le (fun i => m.testBit i) (List.range 64)
    rw [List.length_range] at h2
    omega
  rw [hn]
  clear hL hown hb1 hn
  go_wp2_with fail
  go_loopw [6] (fun i wr => ∃ k : Nat, k ≤ n ∧ i = .int .i64 k ∧ Hid (wr = w1 ∧ ∀ (j : Nat) (hj : j < L.length), j < k → q.testBit L[j].val = true)) (fun i _ => n - (intOf i).toNat)
  case atStart => exact ⟨0, Nat.zero_le _, rfl, Lib.hid ⟨rfl, fun j _ h => by omega⟩⟩
  case round =>
    obtain ⟨k, hk, rfl, HI⟩ := hrel
    by_cases hlt : k < n
    · have hkl : k < L.length := by rw [HN.out]; exact hlt
      obtain ⟨g, cp, hv, hg, hc⟩ := units_cell HO.out hkl
      rw [HN.out] at hv
      simp only [Value.slice.injEq] at hv
      obtain ⟨rfl, -, rfl⟩ := hv
      obtain ⟨u, hu⟩ : ∃ u, L[k].val = u := ⟨_, rfl⟩
      have hu64 : u < 64 := by rw [← hu]; exact L[k].isLt
      rw [hu] at hc
      rw [← HI.out.1] at hc hg
      have HUK := Lib.hid hu
      cases hbt : q.testBit u with
      | false =>
        have HF := Lib.hid (show r = false by
          rw [← HR.out]
          refine decide_eq_false fun e => ?_
          have h1 := HZ.out.1 e u hu64 (by have := HU.out.1 k hkl; rw [HUK.out] at this; exact this)
          unfold tb at h1
          rw [Int.toNat_natCast, hbt] at h1; cases h1)
        have HBT := Lib.hid hbt
        clear hu hbt
        go_wp2_with fail
        refine (rhas_any q u hq hu64 false HBT.out _).mono ?_
        rintro e w2 ⟨rfl, rfl⟩
        go_wp2
        go_ret
        exact ⟨by rw [HF.out]; rfl, by rw [HI.out.1]; exact HB1.out⟩
      | true =>
        have HBT := Lib.hid hbt
        clear hu hbt
        go_wp2_with fail
        refine (rhas_any q u hq hu64 true HBT.out _).mono ?_
        rintro e w2 ⟨rfl, rfl⟩
        go_wp2_with fail
        refine ⟨⟨k + 1, by omega, by go_num, Lib.hid ⟨HI.out.1, fun j hj hjk => ?_⟩⟩, by simp [intOf]; omega⟩
        by_cases e : j = k
        · subst e; rw [HUK.out]; exact HBT.out
        · exact HI.out.2 j hj (by omega)
    · obtain rfl : k = n := by omega
      have HF := Lib.hid (show r = true by
        rw [← HR.out]
        refine decide_eq_true (HZ.out.2 fun i hi hb => ?_)
        unfold tb at hb ⊢
        rw [Int.toNat_natCast] at hb ⊢
        obtain ⟨j, hj, rfl⟩ := HU.out.2 i hi hb
        exact HI.out.2 j hj (by rw [← HN.out]; exact hj))
      clear hlt hk
      go_wp2
      go_ret
      exact ⟨by rw [HF.out]; rfl, by rw [HI.out.1]; exact HB1.out⟩

set_option maxHeartbeats 1000000 in
theorem apart_any (a b : Int) (ha : U64 a) (hb : U64 b) (w : World) (r : Bool) (hr : decide (Go.bits .and .u64 a b = 0) = r) :
    Calls Try.prog 51 #[.int .u64 a, .int .u64 b] w fun e w' => e = .returned (.bool r) ∧ Below w.heap.size w w' := by
  obtain ⟨m, rfl⟩ : ∃ m : Nat, a = m := ⟨a.toNat, (u_nat ha).1.symm⟩
  obtain ⟨q, rfl⟩ : ∃ q : Nat, b = q := ⟨b.toNat, (u_nat hb).1.symm⟩
  have hm : m < 18446744073709551616 := by have := ha.2; omega
  have hq : q < 18446744073709551616 := by have := hb.2; omega
  have HZ := Lib.hid (bAnd_zero ha hb)
  have HR := Lib.hid hr
  clear ha hb hr
  go_enter Try.func51, Try.ntmps51
  go_wp2_with fail
  refine (runits_any m _ hm).mono ?_
  rintro e w1 ⟨v, L, rfl, hL, hown, hb1⟩
  obtain ⟨av, capv, rfl⟩ := own_form hown
  obtain ⟨n, hn⟩ : ∃ n, L.length = n := ⟨_, rfl⟩
  have HU := Lib.hid (unit_bit hm hL); have HO := Lib.hid hown; have HN := Lib.hid hn; have HB1 := Lib.hid hb1
  have hn64 : n ≤ 64 := by
    have h1 := congrArg List.length hL
    rw [List.length_map, hn, ← Mk.units_filter (by omega)] at h1
    have h2 := List.length_filter_le (fun i => m.testBit i) (List.range 64)
    rw [List.length_range] at h2
    omega
  rw [hn]
  clear hL hown hb1 hn
  go_wp2_with fail
  go_loopw [6] (fun i wr => ∃ k : Nat, k ≤ n ∧ i = .int .i64 k ∧ Hid (wr = w1 ∧ ∀ (j : Nat) (hj : j < L.length), j < k → q.testBit L[j].val = false)) (fun i _ => n - (intOf i).toNat)
  case atStart => exact ⟨0, Nat.zero_le _, rfl, Lib.hid ⟨rfl, fun j _ h => by omega⟩⟩
  case round =>
    obtain ⟨k, hk, rfl, HI⟩ := hrel
    by_cases hlt : k < n
    · have hkl : k < L.length := by rw [HN.out]; exact hlt
      obtain ⟨g, cp, hv, hg, hc⟩ := units_cell HO.out hkl
      rw [HN.out] at hv
      simp only [Value.slice.injEq] at hv
      obtain ⟨rfl, -, rfl⟩ := hv
      obtain ⟨u, hu⟩ : ∃ u, L[k].val = u := ⟨_, rfl⟩
      have hu64 : u < 64 := by rw [← hu]; exact L[k].isLt
      rw [hu] at hc
      rw [← HI.out.1] at hc hg
      have HUK := Lib.hid hu
      cases hbt : q.testBit u with
      | true =>
        have HF := Lib.hid (show r = false by
          rw [← HR.out]
          refine decide_eq_false fun e => ?_
          have h1 := HZ.out.1 e u hu64 (by have := HU.out.1 k hkl; rw [HUK.out] at this; exact this)
          unfold tb at h1
          rw [Int.toNat_natCast, hbt] at h1; cases h1)
        have HBT := Lib.hid hbt
        clear hu hbt
        go_wp2_with fail
        refine (rhas_any q u hq hu64 true HBT.out _).mono ?_
        rintro e w2 ⟨rfl, rfl⟩
        go_wp2
        go_ret
        exact ⟨by rw [HF.out]; rfl, by rw [HI.out.1]; exact HB1.out⟩
      | false =>
        have HBT := Lib.hid hbt
        clear hu hbt
        go_wp2_with fail
        refine (rhas_any q u hq hu64 false HBT.out _).mono ?_
        rintro e w2 ⟨rfl, rfl⟩
        go_wp2_with fail
        refine ⟨⟨k + 1, by omega, by go_num, Lib.hid ⟨HI.out.1, fun j hj hjk => ?_⟩⟩, by simp [intOf]; omega⟩
        by_cases e : j = k
        · subst e; rw [HUK.out]; exact HBT.out
        · exact HI.out.2 j hj (by omega)
    · obtain rfl : k = n := by omega
      have HF := Lib.hid (show r = true by
        rw [← HR.out]
        refine decide_eq_true (HZ.out.2 fun i hi hb => ?_)
        unfold tb at hb ⊢
        rw [Int.toNat_natCast] at hb ⊢
        obtain ⟨j, hj, rfl⟩ := HU.out.2 i hi hb
        exact HI.out.2 j hj (by rw [← HN.out]; exact hj))
      clear hlt hk
      go_wp2
      go_ret
      exact ⟨by rw [HF.out]; rfl, by rw [HI.out.1]; exact HB1.out⟩

/-- which nodes are drained, as the document's row -/
def DB (nn : Nat) (dr : List Int) : Array Value := ((List.range nn).map fun (i : Nat) => Value.bool (decide ((i : Int) ∈ dr))).toArray
theorem DB_at {nn : Nat} (dr : List Int) {i : Nat} (h : i < nn) : (DB nn dr)[i]? = some (.bool (decide ((i : Int) ∈ dr))) := by
  unfold DB
  rw [List.getElem?_toArray, List.getElem?_map, List.getElem?_eq_getElem (by simpa using h)]
  simp
theorem DB_set {nn : Nat} {dr dr' : List Int} {i : Nat} (h : i < nn) (b : Bool) (hb : decide ((i : Int) ∈ dr') = b) (ho : ∀ n, n ≠ (i : Int) → (n ∈ dr' ↔ n ∈ dr)) : (DB nn dr).setIfInBounds i (.bool b) = DB nn dr' := by
  apply Array.ext'
  refine List.ext_getElem? fun j => ?_
  rw [Array.getElem?_toList, Array.getElem?_toList, Array.getElem?_setIfInBounds]
  by_cases hj : j < nn
  · by_cases e : i = j
    · subst e
      rw [if_pos rfl, DB_at dr' h, hb]
      simp [DB, h]
    · rw [if_neg e, DB_at dr hj, DB_at dr' hj]
      simp only [Option.some.injEq, Value.bool.injEq, decide_eq_decide]
      exact (ho j (by omega)).symm
  · have h1 : (DB nn dr)[j]? = none := by simp [DB]; omega
    have h2 : (DB nn dr')[j]? = none := by simp [DB]; omega
    rw [h1, h2, if_neg (by omega)]

/-- The document's pool m: all units A, what is taken of them tk, drained nodes. -/
structure RpAt (w : World) (m : Nat) (A tk : List Fe) (nn : Nat) (dr : List Int) (BA oA cA BD base : Nat) (vT : Value) : Prop where
  head : w.heap[m]? = some (.cells #[.slice (some ⟨BA, oA, none⟩) A.length cA, vT, .slice (some ⟨BD, 0, none⟩) nn nn] 62 (0, 0))
  all : ∃ cs t, w.heap[BA]? = some (.cells cs t (0, 0)) ∧ ∀ (k : Nat) (hk : k < A.length) (j : Nat), j < 4 → cs[oA + (k * 4 + j)]? = (Fe.cells A[k])[j]?
  own : w.ownsRow base 45 4 vT tk.length (tk.flatMap Fe.cells)
  drn : w.heap[BD]? = some (.cells (DB nn dr) 4 (0, 0))
  apart : m ≠ BA ∧ m ≠ BD ∧ BA ≠ BD ∧ m < base ∧ BA < base ∧ BD < base
  len : tk.length = A.length
/-- its blocks -/
def RF (m BA BD : Nat) (vT : Value) (q : Nat) : Prop := q = m ∨ q = BA ∨ q = BD ∨ vT.ownBlock = some q
variable {w w' : World} {m nn BA oA cA BD base : Nat} {A tk : List Fe} {dr : List Int} {vT : Value}
theorem RpAt.lt (h : RpAt w m A tk nn dr BA oA cA BD base vT) {q : Nat} (hq : RF m BA BD vT q) : q < w.heap.size := by
  obtain ⟨cs, t, h1, _⟩ := h.all
  rcases hq with rfl | rfl | rfl | hq
  · exact lt_of_block h.head
  · exact lt_of_block h1
  · exact lt_of_block h.drn
  · obtain ⟨_, ⟨e, _⟩ | ⟨g, cap, cur, hv, hg, hh, _⟩⟩ := h.own
    · rw [e] at hq; simp [Value.ownBlock] at hq
    · rw [hv] at hq; simp only [Value.ownBlock, Option.some.injEq] at hq; subst hq; exact lt_of_block hh
theorem RpAt.frame (h : RpAt w m A tk nn dr BA oA cA BD base vT) (hs : ∀ q, RF m BA BD vT q → w'.heap[q]? = w.heap[q]?) : RpAt w' m A tk nn dr BA oA cA BD base vT := by
  obtain ⟨cs, t, h1, h2⟩ := h.all
  refine ⟨(hs _ (.inl rfl)).trans h.head, ⟨cs, t, (hs _ (.inr (.inl rfl))).trans h1, h2⟩, ⟨h.own.1, ?_⟩, (hs _ (.inr (.inr (.inl rfl)))).trans h.drn, h.apart, h.len⟩
  rcases h.own.2 with e | ⟨g, cap, cur, hv, hg, hh, hn⟩
  · exact .inl e
  · exact .inr ⟨g, cap, cur, hv, hg, (hs _ (.inr (.inr (.inr (by rw [hv]; rfl))))).trans hh, hn⟩
theorem RpAt.later (h : RpAt w m A tk nn dr BA oA cA BD base vT) (hb : Below w.heap.size w w') : RpAt w' m A tk nn dr BA oA cA BD base vT := h.frame fun q hq => hb.block q (h.lt hq)
theorem RpAt.allCells (h : RpAt w m A tk nn dr BA oA cA BD base vT) {k : Nat} (hk : k < A.length) {f : Fe} (hf : A[k] = f) :
    w.cell? ⟨BA, oA + k * 4, none⟩ = some (.int .i64 f.spot.node) ∧ w.cell? ⟨BA, oA + k * 4 + 1, none⟩ = some (.int .i64 f.spot.domain) ∧ w.cell? ⟨BA, oA + k * 4 + 2, none⟩ = some (.int .u64 f.mask) ∧ w.cell? ⟨BA, oA + k * 4 + 3, none⟩ = some (.int .i64 f.cpus) := by
  subst hf
  obtain ⟨cs, t, h1, h2⟩ := h.all
  have h3 : ∀ j, j < 4 → w.cell? ⟨BA, oA + k * 4 + j, none⟩ = (Fe.cells A[k])[j]? := fun j hj => by rw [cell_of_block h1, Nat.add_assoc]; exact h2 k hk j hj
  exact ⟨h3 0 (by omega), h3 1 (by omega), h3 2 (by omega), h3 3 (by omega)⟩
def posI (A : List Fe) (s : Sp) : Int := match posF A s with | some k => k | none => -1
theorem posF_at {A : List Fe} {s : Sp} {k : Nat} (hb : ∀ (j : Nat) (hl : j < A.length), j < k → A[j].spot ≠ s) (hk : k < A.length) (he : A[k].spot = s) : posF A s = some k := by
  unfold posF
  rw [List.findIdx?_eq_some_iff_getElem]
  exact ⟨hk, by simpa using he, fun j hj => by simpa using hb j (by omega) hj⟩
theorem posF_no {A : List Fe} {s : Sp} (hb : ∀ (j : Nat) (hl : j < A.length), A[j].spot ≠ s) : posF A s = none := by
  unfold posF
  rw [List.findIdx?_eq_none_iff]
  intro x hx
  obtain ⟨j, hj, rfl⟩ := List.getElem_of_mem hx
  simpa using hb j hj
set_option maxHeartbeats 2000000 in
theorem rspot_any (h : RpAt w m A tk nn dr BA oA cA BD base vT) (s : Sp) (hl : A.length ≤ 1000000) :
    Calls Try.prog 49 #[.pointer (some ⟨m, 0, none⟩), .agg #[.int .i64 s.node, .int .i64 s.domain]] w fun e w' => e = .returned (.int .i64 (posI A s)) ∧ Below w.heap.size w w' := by
  obtain ⟨n, hn⟩ : ∃ n, A.length = n := ⟨_, rfl⟩
  have H := Lib.hid h; have HN := Lib.hid hn
  have hb0 := (Below.refl w.heap.size w).alloc (Nat.le_refl _) (.cells #[.int .i64 s.node, .int .i64 s.domain] 41)
  have HB0 := Lib.hid hb0
  have HK0 := Lib.hid (World.alloc_heap_new w (.cells #[.int .i64 s.node, .int .i64 s.domain] 41))
  rw [hn] at hl
  clear h hn hb0
  go_enter Try.func49, Try.ntmps49
  go_wp2_with fail
  obtain ⟨Z, hZ⟩ : ∃ Z, w.heap.size = Z := ⟨_, rfl⟩
  have HZZ := Lib.hid hZ
  rw [hZ] at HK0 ⊢
  generalize w.alloc (.cells #[.int .i64 s.node, .int .i64 s.domain] 41) = w1 at HB0 HK0 ⊢
  clear hZ
  go_loopw [5] (fun i wr => ∃ k : Nat, k ≤ n ∧ i = .int .i64 k ∧ Hid (Below w1.heap.size w1 wr ∧ ∀ (j : Nat) (hj : j < A.length), j < k → A[j].spot ≠ s)) (fun i _ => n - (intOf i).toNat)
  case atStart => exact ⟨0, Nat.zero_le _, rfl, Lib.hid ⟨Below.refl _ _, fun j _ h => by omega⟩⟩
  case round =>
    obtain ⟨k, hk, rfl, HI⟩ := hrel
    have HBR := Lib.hid (HB0.out.trans (HI.out.1.mono HB0.out.size))
    have HA := Lib.hid (H.out.later HBR.out)
    have q0 := cell_of_block HA.out.head 0
    rw [HN.out] at q0
    have lm := HA.out.lt (.inl rfl)
    have kz := (HI.out.1.block _ (lt_of_block HK0.out)).trans HK0.out
    have z0 := cell_of_block kz 0; have z1 := cell_of_block kz 1
    have lz := lt_of_block kz
    clear kz
    by_cases hlt : k < n
    · have hkl : k < A.length := by rw [HN.out]; exact hlt
      obtain ⟨f, hf⟩ : ∃ f, A[k] = f := ⟨_, rfl⟩
      obtain ⟨f0, f1, f2, f3⟩ := HA.out.allCells hkl hf
      have lb := HA.out.lt (.inr (.inl rfl))
      have HF := Lib.hid hf
      clear hf
      by_cases he : f.spot = s
      · have HP := Lib.hid (show posI A s = k by unfold posI; rw [posF_at (fun j hj hjk => HI.out.2 j hj hjk) hkl (by rw [HF.out]; exact he)])
        have e1 : f.spot.node = s.node := by rw [he]
        have e2 : f.spot.domain = s.domain := by rw [he]
        rw [e1] at f0
        rw [e2] at f1
        clear he e1 e2
        go_wp2_with fail
        go_quiet (fail)
        have hb1 : Below wr.heap.size wr (wr.drewN nq) := ⟨rfl, rfl, rfl, Nat.le_refl _, fun _ _ => rfl⟩
        have HB1 := Lib.hid (HBR.out.trans (hb1.mono HBR.out.size))
        clear hb1
        generalize wr.drewN nq = wq at HB1 ⊢
        clear f0 f1 f2 f3 lb lm lz q0 z0 z1
        go_wp2
        go_ret
        exact ⟨by rw [HP.out]; rfl, HB1.out⟩
      · have HNE := Lib.hid he
        by_cases hn1 : f.spot.node = s.node
        · have hcmp : (f.spot.domain == s.domain) = false := by
            have : f.spot.domain ≠ s.domain := fun e => he (by cases hs : s; cases hf : f.spot; rw [hs, hf] at e hn1; simp only at e hn1; rw [e, hn1])
            simpa using this
          rw [hn1] at f0
          clear he hn1
          go_wp2_with fail
          go_quiet (fail)
          have hb1 : Below wr.heap.size wr (wr.drewN nq) := ⟨rfl, rfl, rfl, Nat.le_refl _, fun _ _ => rfl⟩
          have HB1 := Lib.hid (HI.out.1.trans (hb1.mono HI.out.1.size))
          clear hb1
          generalize wr.drewN nq = wq at HB1 ⊢
          clear f0 f1 f2 f3 lb lm lz q0 z0 z1
          go_wp2_with fail
          refine ⟨⟨k + 1, by omega, by go_num, Lib.hid ⟨HB1.out, fun j hj hjk => ?_⟩⟩, by simp [intOf]; omega⟩
          by_cases e : j = k
          · subst e; rw [HF.out]; exact HNE.out
          · exact HI.out.2 j hj (by omega)
        · have hcmp : (f.spot.node == s.node) = false := by simpa using hn1
          clear he hn1
          go_wp2_with fail
          go_quiet (fail)
          have hb1 : Below wr.heap.size wr (wr.drewN nq) := ⟨rfl, rfl, rfl, Nat.le_refl _, fun _ _ => rfl⟩
          have HB1 := Lib.hid (HI.out.1.trans (hb1.mono HI.out.1.size))
          clear hb1
          generalize wr.drewN nq = wq at HB1 ⊢
          clear f0 f1 f2 f3 lb lm lz q0 z0 z1
          go_wp2_with fail
          refine ⟨⟨k + 1, by omega, by go_num, Lib.hid ⟨HB1.out, fun j hj hjk => ?_⟩⟩, by simp [intOf]; omega⟩
          by_cases e : j = k
          · subst e; rw [HF.out]; exact HNE.out
          · exact HI.out.2 j hj (by omega)
    · obtain rfl : k = n := by omega
      have HP := Lib.hid (show posI A s = -1 by unfold posI; rw [posF_no (fun j hj => HI.out.2 j hj (by rw [← HN.out]; exact hj))])
      clear hlt hk
      go_wp2
      go_ret
      exact ⟨by rw [HP.out]; rfl, HBR.out⟩
end Go.Proofs.Ytdmbjjladkdphaa
