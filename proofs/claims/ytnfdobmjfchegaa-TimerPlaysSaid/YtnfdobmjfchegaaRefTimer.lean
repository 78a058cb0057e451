/-
  The document's timer: find, At, Drop.
-/
import Derived.Test.YtnfdobmjfchegaaTimerTwo
set_option linter.unusedVariables false
set_option linter.unusedSimpArgs false
namespace Go.Proofs.Ytnfdobmjfchegaa
open Go.RowKit Go.Maps

def idxN : List En → Int → Option Nat
  | [], _ => none
  | x :: r, id => if x.id = id then some 0 else (idxN r id).map (· + 1)
theorem idxN_at : ∀ {s : List En} {id : Int} {k : Nat} {x : En}, (∀ j, j < k → ∀ y : En, s[j]? = some y → y.id ≠ id) → s[k]? = some x → x.id = id → idxN s id = some k
  | [], _, _, _, _, h, _ => by simp at h
  | y :: r, id, 0, x, _, h, hx => by simp at h; subst h; simp [idxN, hx]
  | y :: r, id, k + 1, x, hb, h, hx => by
    have h0 := hb 0 (by omega) y (by simp)
    have := idxN_at (s := r) (id := id) (k := k) (x := x) (fun j hj z hz => hb (j + 1) (by omega) z (by simpa using hz)) (by simpa using h) hx
    simp [idxN, h0, this]
theorem idxN_none : ∀ {s : List En} {id : Int}, (∀ (j : Nat) (y : En), s[j]? = some y → y.id ≠ id) → idxN s id = none
  | [], _, _ => rfl
  | y :: r, id, h => by
    have h0 := h 0 y (by simp)
    have := idxN_none (s := r) (id := id) (fun j z hz => h (j + 1) z (by simpa using hz))
    simp [idxN, h0, this]
theorem idxN_some : ∀ {s : List En} {id : Int} {k : Nat}, idxN s id = some k → ∃ x, s[k]? = some x ∧ x.id = id
  | [], _, _, h => by simp [idxN] at h
  | y :: r, id, k, h => by
    unfold idxN at h
    split at h
    · rename_i h0; simp at h; subst h; exact ⟨y, by simp, h0⟩
    · cases hr : idxN r id with
      | none => rw [hr] at h; simp at h
      | some j =>
        rw [hr] at h; simp at h; subst h
        obtain ⟨x, hx, he⟩ := idxN_some hr
        exact ⟨x, by simpa using hx, he⟩
theorem look_idx : ∀ (s : List En) (id : Int), lookE s id = (idxN s id).bind (fun k => s[k]?)
  | [], _ => rfl
  | y :: r, id => by
    unfold lookE idxN
    by_cases h : y.id = id
    · rw [List.find?_cons_of_pos (by simpa using h), if_pos h]; rfl
    · rw [List.find?_cons_of_neg (by simpa using h), if_neg h]
      have := look_idx r id
      unfold lookE at this
      rw [this]
      cases idxN r id <;> simp
theorem out_idx : ∀ {s : List En} {id : Int} {k : Nat}, (s.map (·.id)).Nodup → idxN s id = some k → outE s id = s.take k ++ s.drop (k + 1)
  | [], _, _, _, h => by simp [idxN] at h
  | y :: r, id, k, hn, h => by
    simp only [List.map_cons, List.nodup_cons] at hn
    unfold idxN at h
    split at h
    · rename_i h0
      simp at h; subst h
      have hno : lookE r id = none := lookE_none.2 fun e he h' => hn.1 (by rw [h0, ← h']; exact List.mem_map_of_mem he)
      have : outE r id = r := by
        unfold outE
        rw [List.filter_eq_self]
        intro e he
        simpa using lookE_none.1 hno e he
      unfold outE at this ⊢
      rw [List.filter_cons_of_neg (by simpa using h0), this]
      simp
    · rename_i h0
      cases hr : idxN r id with
      | none => rw [hr] at h; simp at h
      | some j =>
        rw [hr] at h; simp at h; subst h
        have := out_idx hn.2 hr
        unfold outE at this ⊢
        rw [List.filter_cons_of_pos (by simpa using h0), this]
        simp
def idxV (s : List En) (id : Int) : Int := match idxN s id with | some k => k | none => -1

/-- The document's timer of the entries s lies at pm. -/
structure RefAt (w : World) (pm : Nat) (v : Value) (s : List En) : Prop where
  head : w.heap[pm]? = some (.cells #[v] 43 (0, 0))
  row : ∃ a cap, v = .slice a s.length cap ∧ s.length ≤ cap ∧ cap ≤ maxLen ∧ ∀ (k : Nat) (x : En), s[k]? = some x → ∃ b o, a = some ⟨b, o, none⟩ ∧ b < w.heap.size ∧ b ≠ pm ∧ w.cell? ⟨b, o + k * 2, none⟩ = some (.int .i64 x.tick) ∧ w.cell? ⟨b, o + k * 2 + 1, none⟩ = some (.int .i64 x.id)
  nil : ∀ n cap, v = .slice none n cap → n = 0 ∧ cap = 0
  spot : ∀ ad n cap, v = .slice (some ad) n cap → ad.spot = none
variable {w w' : World} {pm : Nat} {v : Value} {s : List En}
theorem RefAt.frame (h : RefAt w pm v s) (hs : ∀ q, q = pm ∨ v.ownBlock = some q → w'.heap[q]? = w.heap[q]?) (hsz : w.heap.size ≤ w'.heap.size) : RefAt w' pm v s := by
  have hnil := h.nil
  have hspot := h.spot
  obtain ⟨a, cap, rfl, h1, h2, hc⟩ := h.row
  refine ⟨(hs _ (.inl rfl)).trans h.head, ⟨a, cap, rfl, h1, h2, fun k x hx => ?_⟩, hnil, hspot⟩
  obtain ⟨b, o, rfl, hb, hn, c0, c1⟩ := hc k x hx
  have hq := hs b (.inr rfl)
  exact ⟨b, o, rfl, Nat.lt_of_lt_of_le hb hsz, hn, (World.cell?_of_block (a := ⟨b, o + k * 2, none⟩) hq).trans c0, (World.cell?_of_block (a := ⟨b, o + k * 2 + 1, none⟩) hq).trans c1⟩
theorem RefAt.later (h : RefAt w pm v s) (hb : Below w.heap.size w w') : RefAt w' pm v s := by
  have hnil := h.nil
  have hspot := h.spot
  obtain ⟨a, cap, rfl, h1, h2, hc⟩ := h.row
  refine ⟨(hb.block _ (lt_of_block h.head)).trans h.head, ⟨a, cap, rfl, h1, h2, fun k x hx => ?_⟩, hnil, hspot⟩
  obtain ⟨b, o, rfl, hbb, hn, c0, c1⟩ := hc k x hx
  exact ⟨b, o, rfl, Nat.lt_of_lt_of_le hbb hb.size, hn, (hb.cell (p := ⟨b, o + k * 2, none⟩) hbb).trans c0, (hb.cell (p := ⟨b, o + k * 2 + 1, none⟩) hbb).trans c1⟩

set_option maxHeartbeats 1000000 in
theorem find_any (h : RefAt w pm v s) (id : Int) (hl : s.length ≤ 1000000) :
    Calls Try.prog 23 #[.pointer (some ⟨pm, 0, none⟩), .int .i64 id] w fun e w' => e = .returned (.int .i64 (idxV s id)) ∧ Below w.heap.size w w' := by
  have lp := lt_of_block h.head
  have q0 := cell_of_block h.head 0
  obtain ⟨a, cap, rfl, h1, h2, hc⟩ := h.row
  obtain ⟨n, hn⟩ : ∃ n, s.length = n := ⟨_, rfl⟩
  rw [hn] at q0 hl
  have HN := Lib.hid hn; have HC := Lib.hid hc
  clear h hc h1 h2 hn
  go_enter Try.func23, Try.ntmps23
  go_wp2_with fail
  go_loopw [5] (fun i wr => wr = w ∧ ∃ k : Nat, k ≤ n ∧ i = .int .i64 k ∧ Hid (∀ j, j < k → ∀ y : En, s[j]? = some y → y.id ≠ id)) (fun i _ => n - (intOf i).toNat)
  case atStart => exact ⟨rfl, 0, Nat.zero_le _, rfl, Lib.hid fun j hj => by omega⟩
  case round =>
    obtain ⟨rfl, k, hk, rfl, hI⟩ := hrel
    by_cases hlt : k < n
    · obtain ⟨x, hx⟩ : ∃ x, s[k]? = some x := ⟨_, List.getElem?_eq_getElem (by rw [HN.out]; exact hlt)⟩
      obtain ⟨b, o, rfl, hb, _, c0, c1⟩ := HC.out k x hx
      have HX := Lib.hid hx
      clear hx
      by_cases he : x.id = id
      · have hbb : (x.id == id) = true := by simpa using he
        have HD := Lib.hid (show idxV s id = k by unfold idxV; rw [idxN_at hI.out HX.out he])
        clear he
        go_wp2_with fail
        go_ret
        exact ⟨congrArg (fun z => Ending.returned (.int .i64 z)) HD.out.symm, Below.refl _ _⟩
      · have hbb : (x.id == id) = false := by simpa using he
        have HE := Lib.hid he
        clear he
        go_wp2_with fail
        refine ⟨⟨trivial, k + 1, by omega, by go_num, Lib.hid fun j hj y hy => ?_⟩, by simp [intOf]; omega⟩
        by_cases e : j = k
        · subst e; rw [HX.out] at hy; cases hy; exact HE.out
        · exact hI.out j (by omega) y hy
    · obtain rfl : k = n := by omega
      have HD := Lib.hid (show idxV s id = -1 by
        unfold idxV
        rw [idxN_none (fun j y hy => hI.out j (by have := (List.getElem?_eq_some_iff.1 hy).1; rw [HN.out] at this; exact this) y hy)])
      go_wp2_with fail
      go_ret
      exact ⟨congrArg (fun z => Ending.returned (.int .i64 z)) HD.out.symm, Below.refl _ _⟩
theorem refAt_any (h : RefAt w pm v s) (id : Int) (hl : s.length ≤ 1000000) :
    Calls Try.prog 19 #[.pointer (some ⟨pm, 0, none⟩), .int .i64 id] w fun e w' => e = .returned (.tuple #[.int .i64 (match lookE s id with | some e => e.tick | none => 0), .int .i64 (match lookE s id with | some _ => 0 | none => 3)]) ∧ Below w.heap.size w w' := by
  have H := Lib.hid h
  have HF := Lib.hid (find_any h id hl)
  cases hk : idxN s id with
  | none =>
    have hl : lookE s id = none := by rw [look_idx, hk]; rfl
    have HV := Lib.hid (show idxV s id = -1 by unfold idxV; rw [hk])
    clear h hk
    rw [hl]
    clear hl
    go_enter Try.func19, Try.ntmps19
    go_wp2_with fail
    refine HF.out.mono ?_
    rintro e w1 ⟨rfl, hb⟩
    rw [HV.out]
    have HB := Lib.hid hb
    clear hb
    go_wp2_with fail
    refine bodyPost_ret (results_tmp2 rfl _ _ _) rfl ?_
    exact ⟨rfl, HB.out⟩
  | some k =>
    obtain ⟨x, hx, he⟩ := idxN_some hk
    have hl : lookE s id = some x := by rw [look_idx, hk]; exact hx
    have HV := Lib.hid (show idxV s id = k by unfold idxV; rw [hk])
    have hkn := (List.getElem?_eq_some_iff.1 hx).1
    have HX := Lib.hid hx
    clear h hk hx
    rw [hl]
    clear hl
    go_enter Try.func19, Try.ntmps19
    go_wp2_with fail
    refine HF.out.mono ?_
    rintro e w1 ⟨rfl, hb⟩
    rw [HV.out]
    have h1 := H.out.later hb
    have q0 := cell_of_block h1.head 0
    have lp := lt_of_block h1.head
    obtain ⟨a, cap, rfl, _, _, hc⟩ := h1.row
    obtain ⟨b, o, rfl, hb', _, c0, c1⟩ := hc k x HX.out
    have HB := Lib.hid hb
    clear hb h1 hc
    go_wp2_with fail
    refine bodyPost_ret (results_tmp2 rfl _ _ _) rfl ?_
    exact ⟨rfl, HB.out⟩
end Go.Proofs.Ytnfdobmjfchegaa
