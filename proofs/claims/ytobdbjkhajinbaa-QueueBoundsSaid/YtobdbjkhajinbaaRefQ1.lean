/-
  queue: the document's queues in memory; find, Len, Room.
-/
import Derived.Test.YtobdbjkhajinbaaQueue14
set_option linter.unusedVariables false
set_option linter.unusedSimpArgs false
namespace Go.Proofs.Ytobdbjkhajinbaa
open Go.RowKit
/-- the document's queues: the object p; the rooms are the law's own, the waits' row has the value v -/
structure DAt (W w : World) (p : Nat) (ra : Option Addr) (rc : Nat) (v : Value) (rooms : List Int) (L : List Wt) : Prop where
  below : Below W.heap.size W w
  base : W.heap.size ≤ p
  rm : Rd.SliceOf W (.slice ra rooms.length rc) 1 I64.cells rooms
  head : w.heap[p]? = some (.cells #[.slice ra rooms.length rc, v] 45 (0, 0))
  row : w.ownsRow W.heap.size 35 10 v L.length (L.flatMap Wt.cells)
  far : v.ownBlock ≠ some p
  few : L.length ≤ 100000
  rlen : rooms.length ≤ 100
/-- where one of an Id is; or it is nowhere -/
def FD (L : List Wt) (id r : Int) : Prop := (∃ (k : Nat) (hk : k < L.length), r = k ∧ L[k].job.id = id ∧ ∀ x ∈ L.take k, x.job.id ≠ id) ∨ (r = -1 ∧ ∀ x ∈ L, x.job.id ≠ id)
def lenD (L : List Wt) (q : Int) : Nat := (L.filter fun x => decide (x.job.queue = q)).length
def roomD (L : List Wt) (rooms : List Int) (q : Int) : Int := if 0 ≤ q ∧ q < rooms.length then (rooms[q.toNat]?).getD 0 - lenD L q else 0
section
variable {W w w' : World} {p : Nat} {ra : Option Addr} {rc : Nat} {v : Value} {rooms : List Int} {L : List Wt}
theorem DAt.fr {F : Nat → Prop} (h : DAt W w p ra rc v rooms L) (hf : Fr w.heap.size F w w') (hp : ¬ F p) (hv : ∀ g, v.ownBlock = some g → ¬ F g) (hb : ∀ g, F g → W.heap.size ≤ g) : DAt W w' p ra rc v rooms L :=
  ⟨h.below.trans (hf.below h.below.size hb), h.base, h.rm, (hf.block p (lt_of_block h.head) hp).trans h.head, ownsRow_fr h.row hf (fun g hg => ⟨(h.row.lt g hg).2, hv g hg⟩), h.far, h.few, h.rlen⟩
theorem DAt.later (h : DAt W w p ra rc v rooms L) (hb : Below w.heap.size w w') : DAt W w' p ra rc v rooms L :=
  h.fr (Fr.of_below hb (fun _ => False)) (fun e => e) (fun _ _ e => e) (fun _ e => e.elim)
theorem DAt.at (h : DAt W w p ra rc v rooms L) : ∃ a c, v = .slice a L.length c ∧ Rd.SliceOf w (.slice a L.length c) 10 Wt.cells L ∧ w.cell? ⟨p, 0, none⟩ = some (.slice ra rooms.length rc) ∧ w.cell? ⟨p, 1, none⟩ = some (.slice a L.length c) ∧ p < w.heap.size := by
  obtain ⟨a, c, rfl⟩ := own_form h.row
  exact ⟨a, c, rfl, (sliceOf_own (cells := Wt.cells) (fun _ => rfl) (by decide) h.row).1, cell_of_block h.head 0, cell_of_block h.head 1, lt_of_block h.head⟩
theorem dfind_any (h : DAt W w p ra rc v rooms L) (id : Int) :
    Calls Try.prog 44 #[.pointer (some ⟨p, 0, none⟩), .int .i64 id] w fun e w' => (∃ r, e = .returned (.int .i64 r) ∧ FD L id r) ∧ w' = w := by
  obtain ⟨a, c, rfl, hs, _, c1, lp⟩ := h.at
  have hfew := h.few
  obtain ⟨n, hn⟩ : ∃ n, L.length = n := ⟨_, rfl⟩
  rw [hn] at c1 hfew
  have HS := Lib.hid hs; have HN := Lib.hid hn
  clear h hs hn
  go_enter Try.func44, Try.ntmps44
  go_wp2_with fail
  go_loopw [5] (fun iv wr => ∃ k : Nat, k ≤ n ∧ iv = .int .i64 k ∧ Hid (∀ x ∈ L.take k, x.job.id ≠ id) ∧ wr = w) (fun iv _ => n - (intOf iv).toNat)
  case atStart => exact ⟨0, Nat.zero_le _, rfl, Lib.hid (fun x h => by simp at h), rfl⟩
  case round =>
    obtain ⟨k, hk, rfl, hI, rfl⟩ := hrel
    by_cases hlt : k < n
    · have hkl : k < L.length := by rw [HN.out]; exact hlt
      obtain ⟨z, hz⟩ : ∃ z, L[k] = z := ⟨_, rfl⟩
      obtain ⟨b, off, cap, hv, _, _, hb, hat⟩ := Wt.at HS.out hkl hz
      rw [HN.out] at hv
      simp only [Value.slice.injEq] at hv
      obtain ⟨rfl, -, rfl⟩ := hv
      obtain ⟨e0, -⟩ := hat wr (Below.refl _ _)
      obtain ⟨zi, hzi⟩ : ∃ i, z.job.id = i := ⟨_, rfl⟩
      rw [hzi] at e0
      have HZ := Lib.hid hz; have HZI := Lib.hid hzi
      clear hz hat hzi
      by_cases heq : zi = id
      · subst heq
        have HF := Lib.hid (show FD L zi (k : Nat) from .inl ⟨k, hkl, rfl, by rw [HZ.out]; exact HZI.out, hI.out⟩)
        go_wp2_with fail
        go_ret
        exact ⟨⟨_, rfl, HF.out⟩, rfl⟩
      · have hd : decide (zi = id) = false := by simp [heq]
        have hd2 : (zi == id) = false := by simp [heq]
        have htk : L.take (k + 1) = L.take k ++ [z] := by rw [List.take_add_one, List.getElem?_eq_getElem hkl, HZ.out]; rfl
        have HNX := Lib.hid (show ∀ x ∈ L.take (k + 1), x.job.id ≠ id from fun x hx => by
          rw [htk] at hx
          rcases List.mem_append.1 hx with hx | hx
          · exact hI.out x hx
          · simp only [List.mem_singleton] at hx; subst hx; rw [HZI.out]; exact heq)
        clear htk
        go_wp2_with fail
        exact ⟨⟨k + 1, by omega, by go_num, Lib.hid HNX.out, by first | rfl | trivial⟩, by simp [intOf]; omega⟩
    · obtain rfl : k = n := by omega
      have HF := Lib.hid (show FD L id (-1) from .inr ⟨rfl, by have := hI.out; rwa [List.take_of_length_le (by rw [HN.out]; exact Nat.le_refl _)] at this⟩)
      go_wp2_with fail
      go_ret
      exact ⟨⟨_, rfl, HF.out⟩, rfl⟩
theorem FD.uniq {id r r' : Int} (h : FD L id r) (h' : FD L id r') : r = r' := by
  rcases h with ⟨k, hk, rfl, e, b⟩ | ⟨rfl, n⟩ <;> rcases h' with ⟨k', hk', rfl, e', b'⟩ | ⟨rfl, n'⟩
  · by_cases h1 : k < k'
    · exact absurd e (b' _ (List.mem_take_iff_getElem.2 ⟨k, by omega, rfl⟩))
    · by_cases h2 : k' < k
      · exact absurd e' (b _ (List.mem_take_iff_getElem.2 ⟨k', by omega, rfl⟩))
      · rw [show k = k' by omega]
  · exact absurd e (n' _ (List.getElem_mem hk))
  · exact absurd e' (n _ (List.getElem_mem hk'))
  · rfl
theorem dlen_any (h : DAt W w p ra rc v rooms L) (q : Int) :
    Calls Try.prog 21 #[.pointer (some ⟨p, 0, none⟩), .int .i64 q] w fun e w' => e = .returned (.int .i64 (lenD L q)) ∧ w' = w := by
  obtain ⟨a, c, rfl, hs, _, c1, lp⟩ := h.at
  have hfew := h.few
  obtain ⟨n, hn⟩ : ∃ n, L.length = n := ⟨_, rfl⟩
  rw [hn] at c1 hfew
  obtain ⟨res, hres⟩ : ∃ res, lenD L q = res := ⟨_, rfl⟩
  rw [hres]
  have HS := Lib.hid hs; have HN := Lib.hid hn; have HRES := Lib.hid hres
  clear h hs hn hres
  go_enter Try.func21, Try.ntmps21
  go_wp2_with fail
  go_loopw [5, 6] (fun sv iv wr => ∃ k t : Nat, k ≤ n ∧ t ≤ k ∧ iv = .int .i64 k ∧ sv = .int .i64 t ∧ Hid (t = lenD (L.take k) q) ∧ wr = w) (fun _ iv _ => n - (intOf iv).toNat)
  case atStart => exact ⟨0, 0, Nat.zero_le _, Nat.le_refl _, rfl, rfl, Lib.hid rfl, rfl⟩
  case round =>
    obtain ⟨k, t, hk, ht, rfl, rfl, hI, rfl⟩ := hrel
    by_cases hlt : k < n
    · have hkl : k < L.length := by rw [HN.out]; exact hlt
      obtain ⟨z, hz⟩ : ∃ z, L[k] = z := ⟨_, rfl⟩
      obtain ⟨b, off, cap, hv, _, _, hb, hat⟩ := Wt.at HS.out hkl hz
      rw [HN.out] at hv
      simp only [Value.slice.injEq] at hv
      obtain ⟨rfl, -, rfl⟩ := hv
      obtain ⟨-, e0, -⟩ := hat wr (Below.refl _ _)
      obtain ⟨zi, hzi⟩ : ∃ i, z.job.queue = i := ⟨_, rfl⟩
      rw [hzi] at e0
      have htk : L.take (k + 1) = L.take k ++ [z] := by rw [List.take_add_one, List.getElem?_eq_getElem hkl, hz]; rfl
      by_cases heq : zi = q
      · have hd : decide (zi = q) = true := by simp [heq]
        have hd2 : (zi == q) = true := by simp [heq]
        have HNX := Lib.hid (show t + 1 = lenD (L.take (k + 1)) q by rw [htk]; unfold lenD; rw [List.filter_append, List.length_append, List.filter_cons_of_pos (by rw [hzi]; exact hd), hI.out]; rfl)
        clear hz hat hzi htk heq
        go_wp2_with fail
        exact ⟨⟨k + 1, t + 1, by omega, by omega, by go_num, by go_num, Lib.hid HNX.out, by first | rfl | trivial⟩, by simp [intOf]; omega⟩
      · have hd : decide (zi = q) = false := by simp [heq]
        have hd2 : (zi == q) = false := by simp [heq]
        have HNX := Lib.hid (show t = lenD (L.take (k + 1)) q by rw [htk]; unfold lenD; rw [List.filter_append, List.length_append, List.filter_cons_of_neg (by rw [hzi]; simpa using heq), hI.out]; rfl)
        clear hz hat hzi htk heq
        go_wp2_with fail
        exact ⟨⟨k + 1, t, by omega, by omega, by go_num, rfl, Lib.hid HNX.out, by first | rfl | trivial⟩, by simp [intOf]; omega⟩
    · obtain rfl : k = n := by omega
      have hr : t = res := by have := hI.out; rw [List.take_of_length_le (by rw [HN.out]; exact Nat.le_refl _), HRES.out] at this; exact this
      subst hr
      go_wp2_with fail
      go_ret
      exact ⟨rfl, rfl⟩
theorem droom_any (h : DAt W w p ra rc v rooms L) (q : Int) (hrw : ∀ r ∈ rooms, 0 ≤ r ∧ r ≤ 16) :
    Calls Try.prog 20 #[.pointer (some ⟨p, 0, none⟩), .int .i64 q] w fun e w' => e = .returned (.int .i64 (roomD L rooms q)) ∧ Below w.heap.size w w' := by
  obtain ⟨a, c, rfl, hs, c0, c1, lp⟩ := h.at
  obtain ⟨n, hn⟩ : ∃ n, rooms.length = n := ⟨_, rfl⟩
  have hrl := h.rlen
  obtain ⟨res, hres⟩ : ∃ res, roomD L rooms q = res := ⟨_, rfl⟩
  rw [hres]
  rw [hn] at c0 hrl
  have H := Lib.hid h; have HN := Lib.hid hn; have HRES := Lib.hid hres; have HRW := Lib.hid hrw
  clear h hs hn hres c1 hrw
  by_cases h0 : q < 0
  · have d0 : decide (q < 0) = true := by simp; omega
    have hr : res = 0 := by rw [← HRES.out]; unfold roomD; rw [if_neg (by omega)]
    subst hr
    go_enter Try.func20, Try.ntmps20
    go_wp2_with fail
    go_ret
    exact ⟨rfl, Below.refl _ _⟩
  have d0 : decide (q < 0) = false := by simp; omega
  by_cases h1 : (n : Int) ≤ q
  · have d1 : decide ((n : Int) ≤ q) = true := by simp; omega
    have hr : res = 0 := by rw [← HRES.out]; unfold roomD; rw [if_neg (by rw [HN.out]; omega)]
    subst hr
    go_enter Try.func20, Try.ntmps20
    go_wp2_with fail
    go_ret
    exact ⟨rfl, Below.refl _ _⟩
  have d1 : decide ((n : Int) ≤ q) = false := by simp; omega
  obtain ⟨k, rfl⟩ : ∃ k : Nat, q = k := ⟨q.toNat, by omega⟩
  have hkn : k < n := by omega
  have hkr : k < rooms.length := by rw [HN.out]; exact hkn
  obtain ⟨r, hr⟩ : ∃ r, rooms[k] = r := ⟨_, rfl⟩
  have hrb := HRW.out r (hr ▸ List.getElem_mem hkr)
  obtain ⟨b, off, hv, hb, hat⟩ := I64.at (x := r) (k := k) H.out.rm (by rw [List.getElem?_eq_getElem hkr, hr])
  subst hv
  have e0 := hat w H.out.below
  have lb : b < w.heap.size := Nat.lt_of_lt_of_le hb H.out.below.size
  have HL := Lib.hid (fun n => dlen_any (H.out.later (w' := w.drewN n) ⟨rfl, rfl, rfl, Nat.le_refl _, fun _ _ => rfl⟩) (k : Int))
  have hlf : lenD L (k : Int) ≤ 100000 := Nat.le_trans (List.length_filter_le _ _) H.out.few
  obtain ⟨m, hm⟩ : ∃ m, lenD L (k : Int) = m := ⟨_, rfl⟩
  rw [hm] at HL hlf
  have hr2 : res = r - m := by
    rw [← HRES.out]; unfold roomD
    rw [if_pos (by rw [HN.out]; omega), Int.toNat_natCast, List.getElem?_eq_getElem hkr, hr, hm]; rfl
  subst hr2
  have hwr : IntKind.i64.wrap (r - (m : Int)) = r - m := by rw [wrap_eq]; unfold wrap64; omega
  clear h0 h1 hr hat hb hm hkr
  go_enter Try.func20, Try.ntmps20
  go_wp2_with fail
  go_quiet ((go_at_call 21; exact Calls.quiet_of_same (HL.out _)))
  have hBq : Below w.heap.size w (w.drewN nq) := ⟨rfl, rfl, rfl, Nat.le_refl _, fun _ _ => rfl⟩
  generalize w.drewN nq = wq at hBq ⊢
  go_wp2_with fail
  go_ret
  exact ⟨by first | rfl | (rw [hwr]; rfl), hBq⟩
end
end Go.Proofs.Ytobdbjkhajinbaa
