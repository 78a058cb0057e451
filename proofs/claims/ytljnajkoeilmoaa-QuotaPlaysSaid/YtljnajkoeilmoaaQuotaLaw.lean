/-
  What the laws of quota share: awake, the state between two rounds, what a slice keeps.
-/
import Derived.Test.YtljnajkoeilmoaaQuotaUsed
set_option linter.unusedVariables false
set_option linter.unusedSimpArgs false
namespace Go.Proofs.Ytljnajkoeilmoaa
open Go.RowKit

set_option maxHeartbeats 1000000 in
theorem awake_any (w : World) : Calls Try.prog 8 #[] w fun e w' => e = .returned (.bool true) ∧ Below w.heap.size w w' := by
  have hr1 : turnF false ([⟨4, 8⟩].map Un.start) 0 3 2 = (0, [⟨4, 8, 3, 2⟩]) := by rfl
  have hr2 : turnF false [⟨4, 8, 3, 2⟩] 0 2 1 = (6, [⟨4, 8, 3, 2⟩]) := by rfl
  have hr3 : leftF [⟨4, 8, 3, 2⟩] 0 = (⟨1, 6⟩, 0) := by rfl
  have H1 := Lib.hid hr1; have H2 := Lib.hid hr2; have H3 := Lib.hid hr3
  clear hr1 hr2 hr3
  go_enter Try.func8, Try.ntmps8
  go_wp2_with fail
  refine (quotaNew_any _ [⟨4, 8⟩] _ (Rd.SliceOf.of_block (xs := [(⟨4, 8⟩ : Un)]) (World.alloc_heap_new w _) (by unfold maxLen; simp) (fun i hi j hj => by
    have : i = 0 := by simpa using hi
    subst this
    have : j = 0 ∨ j = 1 := by simp [Un.cells] at hj; omega
    rcases this with rfl | rfl <;> rfl)) (by simp)).mono ?_
  rintro e w1 (⟨hno, _⟩ | ⟨_, p, R, cap, bs, rfl, hacc, hfar, hb1⟩)
  · exact absurd hno (by decide)
  have lp := lt_of_block hacc.head
  have hok : AllOk ([(⟨4, 8⟩ : Un)].map Un.start) := by intro x hx; simp at hx; subst hx; unfold Ac.ok Un.start; decide
  have HA := Lib.hid hacc; have HF := Lib.hid hfar; have HO := Lib.hid hok
  clear hacc hfar hok
  go_wp2_with fail
  refine (add_any p R cap bs _ 0 3 2 _ HA.out (by simp) HO.out).mono ?_
  rintro e w2 ⟨rfl, ha2, hf2⟩
  rw [H1.out] at ha2
  rw [H1.out]
  have ok2 : AllOk [⟨4, 8, 3, 2⟩] := by intro x hx; simp at hx; subst hx; unfold Ac.ok; decide
  have HA2 := Lib.hid ha2; have HO2 := Lib.hid ok2
  clear ha2 ok2
  go_wp2_with fail
  refine (add_any p R cap bs _ 0 2 1 _ HA2.out (by simp) HO2.out).mono ?_
  rintro e w3 ⟨rfl, ha3, hf3⟩
  rw [H2.out] at ha3
  rw [H2.out]
  have HA3 := Lib.hid ha3
  clear ha3
  go_wp2_with fail
  refine (quotaLeft_any p R cap bs _ 0 _ HA3.out (by simp) HO2.out).mono ?_
  rintro e w4 ⟨rfl, hb4⟩
  rw [H3.out]
  go_wp2
  go_ret
  have hB0 : Below w.heap.size w w1 := ((Below.refl _ _).alloc (Nat.le_refl _) _).trans (hb1.mono (by simp))
  have hF : ∀ k, AccF p R bs k → w.heap.size ≤ k := fun k hk => by have := HF.out k hk; simp at this; omega
  have hB3 := (hB0.trans (hf2.below hB0.size hF)).trans (hf3.below (Nat.le_trans hB0.size hf2.size) hF)
  exact ⟨rfl, (hB3.trans (hb4.mono hB3.size)).alloc (Nat.le_trans hB3.size hb4.size) _⟩

/-- what is known between two rounds -/
structure QInv (W : World) (t : TypeId) (u : Array Value) (p R cap : Nat) (bs : List Nat) (n : Nat) (st : List Ac) (wr : World) : Prop where
  acc : Acc wr p R cap bs st
  len : st.length = n
  ok : AllOk st
  far : ∀ k, AccF p R bs k → W.heap.size < k
  below : Below W.heap.size W wr
  box : wr.heap[W.heap.size]? = some (.cells u t (0, 0))

theorem QInv.turn {W wr w' : World} {t : TypeId} {u : Array Value} {p R cap : Nat} {bs : List Nat} {n : Nat} {st : List Ac} {sub : Bool} {q g c : Int} {e : Ending} (h : QInv W t u p R cap bs n st wr) (ht : TurnPost sub p R cap bs st q g c wr e w') :
    QInv W t u p R cap bs n (turnF sub st q g c).2 w' := by
  obtain ⟨_, ha, hf⟩ := ht
  refine ⟨ha, turnF_len.trans h.len, turnF_ok h.ok, h.far, h.below.trans (hf.below h.below.size fun k hk => Nat.le_of_lt (h.far k hk)), ?_⟩
  rw [hf.block _ (lt_of_block h.box) (fun hk => Nat.lt_irrefl _ (h.far _ hk))]
  exact h.box
theorem QInv.later {W wr w' : World} {t : TypeId} {u : Array Value} {p R cap : Nat} {bs : List Nat} {n : Nat} {st : List Ac} (h : QInv W t u p R cap bs n st wr) (hb : Below wr.heap.size wr w') : QInv W t u p R cap bs n st w' :=
  ⟨h.acc.later hb, h.len, h.ok, h.far, h.below.trans (hb.mono h.below.size), (hb.block _ (lt_of_block h.box)).trans h.box⟩

theorem QInv.setBox {W wr : World} {t : TypeId} {u : Array Value} {p R cap : Nat} {bs : List Nat} {n : Nat} {st : List Ac} (h : QInv W t u p R cap bs n st wr) (o : Nat) (v : Value) :
    QInv W t (u.setIfInBounds o v) p R cap bs n st (wr.setCell ⟨W.heap.size, o, none⟩ v) :=
  ⟨h.acc.frame fun k hk => setCell_other v (by have := h.far k hk; simp; omega), h.len, h.ok, h.far, h.below.setCell (Nat.le_refl _) _, setCell_block h.box o v⟩

theorem Un.start_ok {qs : List Un} (h : newOk qs = true) : AllOk (qs.map Un.start) := by
  intro x hx
  obtain ⟨q, hq, rfl⟩ := List.mem_map.1 hx
  simp only [newOk, Bool.and_eq_true, List.all_eq_true] at h
  have := h.2 q hq
  simp only [Un.right, rightB, decide_eq_true_eq] at this
  unfold Ac.ok Un.start
  simp
  omega


theorem sliceOf_keep {w w' : World} {v : Value} {sz : Nat} {α : Type} {cells : α → List Value} {xs : List α} (h : Rd.SliceOf w v sz cells xs) (hk : ∀ a n c, v = .slice (some a) n c → w'.heap[a.block]? = w.heap[a.block]?) : Rd.SliceOf w' v sz cells xs := by
  rcases h with h | ⟨a, cap, rfl, h1, h2, h3⟩
  · exact .inl h
  · refine .inr ⟨a, cap, rfl, h1, h2, fun i hi j hj => ?_⟩
    rw [← h3 i hi j hj]
    refine World.cell?_of_block ?_
    have hb : (a.add (i * sz + j)).block = a.block := by unfold Addr.add; split <;> rfl
    rw [hb]
    exact hk _ _ _ rfl
theorem sliceOf_lt {w : World} {v : Value} {sz : Nat} {α : Type} {cells : α → List Value} {xs : List α} (h : Rd.SliceOf w v sz cells xs) (hpos : ∀ x, cells x ≠ []) {a : Addr} {n c : Nat} (hv : v = .slice (some a) n c) (hn : xs ≠ []) : a.block < w.heap.size := by
  rcases h with ⟨rfl, _⟩ | ⟨a', cap, rfl, h1, h2, h3⟩
  · cases hv
  · simp only [Value.slice.injEq, Option.some.injEq] at hv
    obtain ⟨rfl, -, -⟩ := hv
    have h0 : 0 < xs.length := by cases xs with | nil => exact absurd rfl hn | cons => simp
    have h00 : 0 < (cells xs[0]).length := by have := hpos xs[0]; cases hc : cells xs[0] with | nil => exact absurd hc this | cons => simp
    have := h3 0 h0 0 h00
    have hb : (a'.add (0 * sz + 0)).block = a'.block := by unfold Addr.add; split <;> rfl
    rw [← hb]
    exact World.block_lt_of_cell? _ _ this
theorem sliceOf_fr {w w' : World} {B : Nat} {F : Nat → Prop} {v : Value} {sz : Nat} {α : Type} {cells : α → List Value} {xs : List α} (h : Rd.SliceOf w v sz cells xs) (hpos : ∀ x, cells x ≠ []) (hf : Fr w.heap.size F w w') (hv : Fresh B v) (hF : ∀ k, F k → k < B) : Rd.SliceOf w' v sz cells xs := by
  by_cases hn : xs = []
  · subst hn
    rcases h with h | ⟨a, cap, rfl, h1, h2, h3⟩
    · exact .inl h
    · exact .inr ⟨a, cap, rfl, h1, h2, fun i hi => by simp at hi⟩
  · refine sliceOf_keep h fun a n c e => hf.block _ (sliceOf_lt h hpos e hn) fun hk => ?_
    have := hF _ hk
    have := hv _ _ _ e
    omega
theorem Un.ne (x : Un) : Un.cells x ≠ [] := by simp [Un.cells]

theorem usedOf_len (st : List Ac) : (usedOf st).length = st.length := by simp [usedOf]

theorem turnF_no {sub : Bool} {st : List Ac} {q g c : Int} (h : (turnF sub st q g c).1 ≠ 0) : (turnF sub st q g c).2 = st := by
  unfold turnF at h ⊢
  repeat' split
  all_goals first | rfl | simp_all
theorem turnF_back {sub : Bool} {st : List Ac} {q g c : Int} (hok : AllOk st) (h : (turnF sub st q g c).1 = 0) : turnF (!sub) (turnF sub st q g c).2 q g c = (0, st) := by
  unfold turnF at h
  by_cases h0 : 0 ≤ q
  · rw [if_pos h0] at h
    cases hx : st[q.toNat]? with
    | none => rw [hx] at h; simp at h
    | some x =>
      rw [hx] at h
      have hlt : q.toNat < st.length := (List.getElem?_eq_some_iff.1 hx).1
      cases hr : rightB g c with
      | false => simp [hr] at h
      | true =>
        cases hw : withinB g c (ofF sub x).1 (ofF sub x).2 with
        | false => simp [hr, hw] at h; split at h <;> simp at h
        | true =>
          have e1 : turnF sub st q g c = (0, st.set q.toNat (turnBy sub x g c)) := by unfold turnF; simp [h0, hx, hr, hw]
          rw [e1]
          have hok' := hok x (List.mem_of_getElem? hx)
          have hr' := hr
          simp only [rightB, decide_eq_true_eq] at hr'
          simp only [withinB, decide_eq_true_eq] at hw
          unfold Ac.ok at hok'
          have hset : (st.set q.toNat (turnBy sub x g c))[q.toNat]? = some (turnBy sub x g c) := by simp [hlt]
          have hst : st.set q.toNat x = st := by
            have : x = st[q.toNat] := by rw [List.getElem?_eq_getElem hlt] at hx; exact (Option.some.inj hx).symm
            rw [this]; exact List.set_getElem_self hlt
          cases sub with
          | false =>
            have hw2 : withinB g c (x.ug + g) (x.uc + c) = true := by simp [withinB]; omega
            have hx2 : (⟨x.g, x.c, x.ug + g - g, x.uc + c - c⟩ : Ac) = x := by cases x; simp
            unfold turnF
            simp [h0, hset, hr, turnBy, ofF, hw2, List.set_set, hx2, hst, hlt]
          | true =>
            have hw2 : withinB g c (x.g - (x.ug - g)) (x.c - (x.uc - c)) = true := by simp [withinB]; simp [ofF] at hw; omega
            have hx2 : (⟨x.g, x.c, x.ug - g + g, x.uc - c + c⟩ : Ac) = x := by cases x; simp
            unfold turnF
            simp [h0, hset, hr, turnBy, ofF, hw2, List.set_set, hx2, hst, hlt]
  · simp [h0] at h

/-- two accounts side by side, of the same state -/
structure Q2Inv (W : World) (u v : Array Value) (p R cap : Nat) (bs : List Nat) (p' R' cap' : Nat) (bs' : List Nat) (n : Nat) (st st' : List Ac) (wr : World) : Prop where
  acc : Acc wr p R cap bs st
  acc' : Acc wr p' R' cap' bs' st'
  len : st.length = n
  len' : st'.length = n
  ok : AllOk st
  ok' : AllOk st'
  far : ∀ k, AccF p R bs k → W.heap.size + 1 < k
  far' : ∀ k, AccF p' R' bs' k → W.heap.size + 1 < k
  dis : ∀ k, AccF p R bs k → ¬ AccF p' R' bs' k
  below : Below W.heap.size W wr
  box : wr.heap[W.heap.size]? = some (.cells u 25 (0, 0))
  box' : wr.heap[W.heap.size + 1]? = some (.cells v 25 (0, 0))

theorem Q2Inv.turn {W wr w' : World} {u v : Array Value} {p R cap p' R' cap' : Nat} {bs bs' : List Nat} {n : Nat} {st st' : List Ac} {sub : Bool} {q g c : Int} {e : Ending} (h : Q2Inv W u v p R cap bs p' R' cap' bs' n st st' wr) (ht : TurnPost sub p R cap bs st q g c wr e w') :
    Q2Inv W u v p R cap bs p' R' cap' bs' n (turnF sub st q g c).2 st' w' := by
  obtain ⟨_, ha, hf⟩ := ht
  refine ⟨ha, h.acc'.frame fun k hk => hf.block _ (h.acc'.lt hk) (fun hk' => h.dis k hk' hk), turnF_len.trans h.len, h.len', turnF_ok h.ok, h.ok', h.far, h.far', h.dis, h.below.trans (hf.below h.below.size fun k hk => by have := h.far k hk; omega), ?_, ?_⟩
  · rw [hf.block _ (lt_of_block h.box) (fun hk => by have := h.far _ hk; omega)]
    exact h.box
  · rw [hf.block _ (lt_of_block h.box') (fun hk => by have := h.far _ hk; omega)]
    exact h.box'
theorem Q2Inv.turn' {W wr w' : World} {u v : Array Value} {p R cap p' R' cap' : Nat} {bs bs' : List Nat} {n : Nat} {st st' : List Ac} {sub : Bool} {q g c : Int} {e : Ending} (h : Q2Inv W u v p R cap bs p' R' cap' bs' n st st' wr) (ht : TurnPost sub p' R' cap' bs' st' q g c wr e w') :
    Q2Inv W u v p R cap bs p' R' cap' bs' n st (turnF sub st' q g c).2 w' := by
  obtain ⟨_, ha, hf⟩ := ht
  refine ⟨h.acc.frame fun k hk => hf.block _ (h.acc.lt hk) (fun hk' => h.dis k hk hk'), ha, h.len, turnF_len.trans h.len', h.ok, turnF_ok h.ok', h.far, h.far', h.dis, h.below.trans (hf.below h.below.size fun k hk => by have := h.far' k hk; omega), ?_, ?_⟩
  · rw [hf.block _ (lt_of_block h.box) (fun hk => by have := h.far' _ hk; omega)]
    exact h.box
  · rw [hf.block _ (lt_of_block h.box') (fun hk => by have := h.far' _ hk; omega)]
    exact h.box'
theorem Q2Inv.later {W wr w' : World} {u v : Array Value} {p R cap p' R' cap' : Nat} {bs bs' : List Nat} {n : Nat} {st st' : List Ac} (h : Q2Inv W u v p R cap bs p' R' cap' bs' n st st' wr) (hb : Below wr.heap.size wr w') : Q2Inv W u v p R cap bs p' R' cap' bs' n st st' w' :=
  ⟨h.acc.later hb, h.acc'.later hb, h.len, h.len', h.ok, h.ok', h.far, h.far', h.dis, h.below.trans (hb.mono h.below.size), (hb.block _ (lt_of_block h.box)).trans h.box, (hb.block _ (lt_of_block h.box')).trans h.box'⟩

theorem turnF_parts {st : List Ac} {q g c g' c' : Int} (h1 : 0 ≤ g ∧ g ≤ 500000) (h2 : 0 ≤ c ∧ c ≤ 500000) (h3 : 0 ≤ g' ∧ g' ≤ 500000) (h4 : 0 ≤ c' ∧ c' ≤ 500000) :
    ((turnF false st q g c).1 = 0 → (turnF false (turnF false st q g c).2 q g' c').1 = (turnF false st q (g + g') (c + c')).1 ∧
      ((turnF false st q (g + g') (c + c')).1 = 0 → (turnF false (turnF false st q g c).2 q g' c').2 = (turnF false st q (g + g') (c + c')).2)) ∧
    ((turnF false st q g c).1 ≠ 0 → (turnF false st q g c).1 = (turnF false st q (g + g') (c + c')).1) := by
  have r1 : rightB g c = true := by simp [rightB]; omega
  have r2 : rightB g' c' = true := by simp [rightB]; omega
  have r3 : rightB (g + g') (c + c') = true := by simp [rightB]; omega
  by_cases h0 : 0 ≤ q
  · cases hx : st[q.toNat]? with
    | none =>
      have e1 : turnF false st q g c = (3, st) := by unfold turnF; simp [h0, hx]
      have e2 : turnF false st q (g + g') (c + c') = (3, st) := by unfold turnF; simp [h0, hx]
      rw [e1, e2]; simp
    | some x =>
      have hlt : q.toNat < st.length := (List.getElem?_eq_some_iff.1 hx).1
      have hset : (st.set q.toNat (turnBy false x g c))[q.toNat]? = some (turnBy false x g c) := by simp [hlt]
      by_cases w3 : withinB (g + g') (c + c') (x.g - x.ug) (x.c - x.uc) = true
      · have e2 : turnF false st q (g + g') (c + c') = (0, st.set q.toNat (turnBy false x (g + g') (c + c'))) := by unfold turnF; simp [h0, hx, r3, ofF, w3]
        simp only [withinB, decide_eq_true_eq] at w3
        have w1 : withinB g c (x.g - x.ug) (x.c - x.uc) = true := by simp [withinB]; omega
        have e1 : turnF false st q g c = (0, st.set q.toNat (turnBy false x g c)) := by unfold turnF; simp [h0, hx, r1, ofF, w1]
        have w2 : withinB g' c' (x.g - (x.ug + g)) (x.c - (x.uc + c)) = true := by simp [withinB]; omega
        have e3 : turnF false (st.set q.toNat (turnBy false x g c)) q g' c' = (0, st.set q.toNat (turnBy false x (g + g') (c + c'))) := by
          unfold turnF
          simp [h0, hset, r2, turnBy, ofF, w2, List.set_set, hlt, Int.add_assoc]
        rw [e1, e2]
        simp [e3]
      · have e2 : turnF false st q (g + g') (c + c') = (6, st) := by unfold turnF; simp [h0, hx, r3, ofF, w3]
        rw [e2]
        by_cases w1 : withinB g c (x.g - x.ug) (x.c - x.uc) = true
        · have e1 : turnF false st q g c = (0, st.set q.toNat (turnBy false x g c)) := by unfold turnF; simp [h0, hx, r1, ofF, w1]
          have w2 : ¬ withinB g' c' (x.g - (x.ug + g)) (x.c - (x.uc + c)) = true := by simp [withinB] at w1 w3 ⊢; omega
          have e3 : turnF false (st.set q.toNat (turnBy false x g c)) q g' c' = (6, st.set q.toNat (turnBy false x g c)) := by
            unfold turnF
            simp [h0, r2, turnBy, ofF, w2, hlt]
          rw [e1]; simp [e3]
        · have e1 : turnF false st q g c = (6, st) := by unfold turnF; simp [h0, hx, r1, ofF, w1]
          rw [e1]; simp
  · have e1 : turnF false st q g c = (3, st) := by unfold turnF; simp [h0]
    have e2 : turnF false st q (g + g') (c + c') = (3, st) := by unfold turnF; simp [h0]
    rw [e1, e2]; simp

def quotaOf (st : List Ac) : List Un := st.map fun x => ⟨x.g, x.c⟩
theorem turnF_quota {sub : Bool} {st : List Ac} {q g c : Int} : quotaOf (turnF sub st q g c).2 = quotaOf st := by
  unfold turnF
  split
  · split
    · rfl
    · rename_i x hx
      split
      · rfl
      · split
        · rfl
        · obtain ⟨hlt, rfl⟩ := List.getElem?_eq_some_iff.1 hx
          have : (⟨(turnBy sub st[q.toNat] g c).g, (turnBy sub st[q.toNat] g c).c⟩ : Un) = ⟨st[q.toNat].g, st[q.toNat].c⟩ := by unfold turnBy; split <;> rfl
          unfold quotaOf
          simp only [List.map_set, this]
          have h2 : (⟨st[q.toNat].g, st[q.toNat].c⟩ : Un) = (st.map fun x => (⟨x.g, x.c⟩ : Un))[q.toNat]'(by simpa using hlt) := by simp
          rw [h2]; exact List.set_getElem_self _
  · rfl
theorem turnF_far {sub : Bool} {st : List Ac} {q g c : Int} {j : Nat} (h : (j : Int) ≠ q) : (turnF sub st q g c).2[j]? = st[j]? := by
  unfold turnF
  repeat' split
  all_goals first | rfl | (simp only []; rw [List.getElem?_set_ne (by omega)])

/-- accounts with no box ahead -/
structure QI0 (W : World) (p R cap : Nat) (bs : List Nat) (n : Nat) (qs : List Un) (st : List Ac) (wr : World) : Prop where
  acc : Acc wr p R cap bs st
  len : st.length = n
  ok : AllOk st
  far : ∀ k, AccF p R bs k → W.heap.size ≤ k
  below : Below W.heap.size W wr
  quo : quotaOf st = qs
theorem QI0.turn {W wr w' : World} {p R cap : Nat} {bs : List Nat} {n : Nat} {qs : List Un} {st : List Ac} {sub : Bool} {q g c : Int} {e : Ending} (h : QI0 W p R cap bs n qs st wr) (ht : TurnPost sub p R cap bs st q g c wr e w') :
    QI0 W p R cap bs n qs (turnF sub st q g c).2 w' := by
  obtain ⟨_, ha, hf⟩ := ht
  exact ⟨ha, turnF_len.trans h.len, turnF_ok h.ok, h.far, h.below.trans (hf.below h.below.size fun k hk => h.far k hk), turnF_quota.trans h.quo⟩
theorem QI0.later {W wr w' : World} {p R cap : Nat} {bs : List Nat} {n : Nat} {qs : List Un} {st : List Ac} (h : QI0 W p R cap bs n qs st wr) (hb : Below wr.heap.size wr w') : QI0 W p R cap bs n qs st w' :=
  ⟨h.acc.later hb, h.len, h.ok, h.far, h.below.trans (hb.mono h.below.size), h.quo⟩
theorem QI0.start {W w0 w : World} {p R cap : Nat} {bs : List Nat} {xs : List Un} (ha : Acc w p R cap bs (xs.map Un.start)) (hy : newOk xs = true) (hB : Below W.heap.size W w0) (hfar : ∀ k, AccF p R bs k → w0.heap.size ≤ k) (hb : Below w0.heap.size w0 w) :
    QI0 W p R cap bs xs.length xs (xs.map Un.start) w :=
  ⟨ha, by simp, Un.start_ok hy, fun k hk => Nat.le_trans hB.size (hfar k hk), hB.trans (hb.mono hB.size), by unfold quotaOf; rw [List.map_map]; exact List.map_id xs⟩
end Go.Proofs.Ytljnajkoeilmoaa
