/-
  wire: plain laws of the entries; the document's examples.
-/
import Derived.Test.YtghfdiaaonjofaaWirePut2
import Derived.Test.YtghfdiaaonjofaaFlatWe
set_option linter.unusedVariables false
set_option linter.unusedSimpArgs false
namespace Go.Proofs.Ytghfdiaaonjofaa
open Go.RowKit

/-- a slice that is made from block B on -/
def Fresh (B : Nat) (v : Value) : Prop := ∀ a n c, v = .slice (some a) n c → B ≤ a.block

theorem sliceOf_own {w : World} {base : Nat} {e : TypeId} {sz : Nat} {v : Value} {α : Type} {cells : α → List Value} {xs : List α} (hsz : ∀ x, (cells x).length = sz) (hpos : 0 < sz) (h : w.ownsRow base e sz v xs.length (xs.flatMap cells)) :
    Rd.SliceOf w v sz cells xs ∧ Fresh base v := by
  obtain ⟨hl, ⟨rfl, h0⟩ | ⟨g, cap, cur, rfl, hg, hc, hn, hm, hs, ht⟩⟩ := h
  · exact ⟨.inl ⟨rfl, List.length_eq_zero_iff.1 h0⟩, fun a n c h => by cases h⟩
  · refine ⟨.inr ⟨_, _, rfl, hn, hm, fun i hi j hj => ?_⟩, fun a n c h => by cases h; exact hg⟩
    have hj' : j < sz := by rw [hsz] at hj; exact hj
    have hadd : (⟨g, 0, none⟩ : Addr).add (i * sz + j) = ⟨g, i * sz + j, none⟩ := by
      unfold Addr.add
      split
      · rename_i e'; rw [e']
      · simp
    rw [hadd]
    have hlt : i * sz + j < xs.length * sz := by
      have : (i + 1) * sz ≤ xs.length * sz := Nat.mul_le_mul_right _ hi
      rw [Nat.add_mul] at this
      omega
    have hcell : w.cell? ⟨g, i * sz + j, none⟩ = cur[i * sz + j]? := by simp [World.cell?, hc]
    rw [hcell]
    have h1 : (cur.toList.take (xs.length * sz))[i * sz + j]? = cur.toList[i * sz + j]? := by rw [List.getElem?_take, if_pos hlt]
    rw [ht] at h1
    rw [← Array.getElem?_toList, ← h1]
    have key : ∀ (l : List α) (i j : Nat) (hi : i < l.length) (hj : j < sz), (l.flatMap cells)[i * sz + j]? = (cells l[i])[j]? := by
      intro l
      induction l with
      | nil => intro i j hi; simp at hi
      | cons x r ih =>
        intro i j hi hj
        rw [List.flatMap_cons]
        cases i with
        | zero => rw [List.getElem?_append_left (by rw [hsz]; omega)]; simp
        | succ i =>
          rw [List.getElem?_append_right (by rw [hsz, Nat.add_mul]; omega), hsz]
          have : (i + 1) * sz + j - sz = i * sz + j := by rw [Nat.add_mul]; omega
          rw [this]
          simpa using ih i j (by simpa using hi) hj
    rw [key xs i j hi hj', List.getElem?_eq_getElem]
theorem byteF_le (s : ByteArray) (i : Nat) : 0 ≤ byteF s i ∧ byteF s i < 256 := by
  have hb : ((s.data[i]?).getD 0).toNat < 256 := UInt8.toNat_lt _
  unfold byteF
  omega
theorem fb_num1 (s : ByteArray) (i : Nat) : fb (numF s i 1) 1 = [byteF s i] := by
  have h := byteF_le s i
  have e : numF s i 1 = byteF s i := by
    simp only [numF, byteF, Nat.add_zero]; omega
  rw [e]
  show [byteF s i / 256 ^ 0 % 256] = _
  congr 1
  rw [Int.pow_zero, Int.ediv_one]
  omega
theorem fb_num2 (s : ByteArray) (i : Nat) : fb (numF s i 2) 2 = [byteF s i, byteF s (i + 1)] := by
  have h := byteF_le s i
  have h' := byteF_le s (i + 1)
  have e : numF s i 2 = byteF s i * 256 + byteF s (i + 1) := by
    simp only [numF, byteF, Nat.add_zero]; omega
  rw [e]
  show [(byteF s i * 256 + byteF s (i + 1)) / 256 ^ 1 % 256, (byteF s i * 256 + byteF s (i + 1)) / 256 ^ 0 % 256] = _
  have e1 : (byteF s i * 256 + byteF s (i + 1)) / 256 ^ 1 % 256 = byteF s i := by
    rw [Int.pow_succ, Int.pow_zero]; omega
  have e2 : (byteF s i * 256 + byteF s (i + 1)) / 256 ^ 0 % 256 = byteF s (i + 1) := by
    rw [Int.pow_zero]; omega
  rw [e1, e2]
/-- the bytes from i on -/
def bytesL (s : ByteArray) (i n : Nat) : List Int := (List.range' i n).map (byteF s)
theorem act_put (s : ByteArray) (i : Nat) {kind : Int} {l : List (Nat × Nat)} (h : fldL kind = some l) : putL (Ac.cells (actF s i kind)).toArray l = bytesL s i (total l) ∧ (actF s i kind).kind = kind := by
  unfold fldL at h
  split at h
  · rename_i h0; subst h0; cases h
    refine ⟨?_, rfl⟩
    simp [putL, valC, actF, Ac.cells, fb_num1, fb_num2, bytesL, total, List.range', Nat.add_assoc]
  · rename_i h0
    split at h
    · rename_i h1; cases h; unfold actF; rw [if_neg h0, if_pos h1]
      refine ⟨?_, rfl⟩
      simp [putL, valC, Ac.cells, fb_num1, fb_num2, bytesL, total, List.range', Nat.add_assoc]
    · rename_i h1
      split at h
      · rename_i h2; cases h; unfold actF; rw [if_neg h0, if_neg h1, if_pos h2]
        refine ⟨?_, rfl⟩
        simp [putL, valC, Ac.cells, fb_num1, fb_num2, bytesL, total, List.range', Nat.add_assoc]
      · rename_i h2
        split at h
        · rename_i h3; cases h; unfold actF; rw [if_neg h0, if_neg h1, if_neg h2]
          exact ⟨rfl, rfl⟩
        · cases h
theorem fits_one {kind n : Int} {b : Nat} (h : fldL kind = some [(1, b)]) (hk : 0 ≤ kind ∧ kind ≤ 7) (hb : 1 ≤ b ∧ b ≤ 2) (hn : 0 ≤ n ∧ n < 256 ^ b) : Fits ⟨kind, n, ⟨0, 0, 0, 0, ⟨0, 0, 0, 0⟩⟩⟩ [(1, b)] :=
  ⟨h, hk, by simp [copyC, Ac.cells], fun p hp => by
    simp at hp; subst hp
    exact ⟨hb.1, hb.2, by show 1 < 10; decide, n, rfl, hn.1, hn.2⟩, by show 1 ≤ 100; decide⟩
theorem fits_act (s : ByteArray) (i : Nat) {kind : Int} {l : List (Nat × Nat)} (h : fldL kind = some l) : Fits (actF s i kind) l := by
  have h' := h
  unfold fldL at h
  split at h
  · rename_i h0; subst h0; cases h
    refine ⟨rfl, ⟨by show (0:Int) ≤ 0; decide, by show (0:Int) ≤ 7; decide⟩, by simp [copyC, Ac.cells, actF], fun p hp => ?_, by decide⟩
    simp only [List.mem_cons, List.not_mem_nil, or_false] at hp
    rcases hp with rfl | rfl | rfl | rfl | rfl | rfl | rfl | rfl <;> exact ⟨by decide, by decide, by decide, _, rfl, (numF_bound _ _ _).1, (numF_bound _ _ _).2⟩
  · rename_i h0
    split at h
    · rename_i h1; cases h; unfold actF; rw [if_neg h0, if_pos h1]
      exact fits_one h' (by omega) (by decide) (numF_bound _ _ _)
    · rename_i h1
      split at h
      · rename_i h2; cases h; unfold actF; rw [if_neg h0, if_neg h1, if_pos h2]
        exact fits_one h' (by omega) (by decide) (numF_bound _ _ _)
      · rename_i h2
        split at h
        · rename_i h3; cases h; unfold actF; rw [if_neg h0, if_neg h1, if_neg h2]
          subst h3
          exact ⟨h', ⟨by decide, by decide⟩, rfl, fun p hp => by simp at hp, by decide⟩
        · cases h
theorem str_bytes (s : ByteArray) (i n : Nat) (h : i + n ≤ s.size) : strOfNums (bytesL s i n) = s.extract i (i + n) := by
  have hsz : s.size = s.data.size := by cases s; rfl
  rw [hsz] at h
  apply ByteArray.ext
  apply Array.ext'
  rw [strOfNums_data, ByteArray.data_extract]
  apply List.ext_getElem
  · simp [bytesL]; omega
  · intro k h1 h2
    simp [bytesL] at h1
    have hk : i + k < s.data.size := by omega
    simp [bytesL, byteF, Array.getElem?_eq_getElem hk]
theorem bytesF_act (s : ByteArray) (i : Nat) {l : List (Nat × Nat)} (h : fldL (byteF s i) = some l) (hs : i + 1 + total l ≤ s.size) :
    strOfNums (bytesF (actF s (i + 1) (byteF s i)) l) = s.extract i (i + 1 + total l) ∧ (bytesF (actF s (i + 1) (byteF s i)) l).length = 1 + total l := by
  have hp := act_put s (i + 1) h
  have e : bytesF (actF s (i + 1) (byteF s i)) l = bytesL s i (1 + total l) := by
    unfold bytesF
    rw [hp.1, hp.2]
    unfold bytesL
    rw [show 1 + total l = total l + 1 by omega, List.range'_succ, List.map_cons]
  rw [e, str_bytes s i (1 + total l) (by omega), ← Nat.add_assoc]
  exact ⟨rfl, by simp [bytesL]⟩

set_option maxRecDepth 100000 in
set_option maxHeartbeats 4000000 in
theorem awake_any (w : World) : Calls Try.prog 9 #[] w fun e w' => e = .returned (.bool true) ∧ Below w.heap.size w w' := by
  have hF : Fits ⟨6, 2, ⟨0, 0, 0, 0, ⟨0, 0, 0, 0⟩⟩⟩ [(1, 1)] := fits_one (by decide) (by decide) (by decide) (by decide)
  have hS : strOfNums (bytesF ⟨6, 2, ⟨0, 0, 0, 0, ⟨0, 0, 0, 0⟩⟩⟩ [(1, 1)]) = ⟨#[6, 2]⟩ := by decide
  have hE : entriesN ⟨#[9, 5]⟩ 2 0 = [⟨zeroA, 10, 0⟩, ⟨⟨5, 0, ⟨0, 0, 0, 0, ⟨0, 0, 0, 0⟩⟩⟩, 0, 1⟩] := by rfl
  have HF := Lib.hid hF; have HS := Lib.hid hS; have HE := Lib.hid hE
  clear hF hS hE
  go_enter Try.func9, Try.ntmps9
  go_wp2_with fail
  refine (putAct_any _ _ HF.out _).mono ?_
  rintro e w1 ⟨rfl, hb1⟩
  rw [HS.out]
  have HB1 := Lib.hid hb1
  clear hb1
  go_wp2_with fail
  refine (entries_any _ _ (by decide)).mono ?_
  rintro e w2 ⟨v, rfl, ho, hb2⟩
  have hsz : (⟨#[9, 5]⟩ : ByteArray).size = 2 := rfl
  rw [hsz, HE.out] at ho
  have hs := (sliceOf_own (cells := We.cells) (sz := 12) (fun _ => rfl) (by decide) ho).1
  obtain ⟨b, off, cap, rfl, h1, h2, hb, hc0⟩ := We.at hs (k := 0) (by decide) rfl
  obtain ⟨b', off', cap', hv, h1', h2', hb', hc1⟩ := We.at hs (k := 1) (by decide) rfl
  simp only [Value.slice.injEq, Option.some.injEq, Addr.mk.injEq] at hv
  obtain ⟨⟨rfl, rfl, _⟩, _, rfl⟩ := hv
  have c0 := hc0 w2 (Below.refl _ _)
  have c1 := hc1 w2 (Below.refl _ _)
  simp only [Nat.zero_mul, Nat.one_mul, Nat.add_zero] at c0 c1
  obtain ⟨a0, a1, a2, a3, a4, a5, a6, a7, a8, a9, a10, a11⟩ := c0
  obtain ⟨b0, b1, b2, b3, b4, b5, b6, b7, b8, b9, b10, b11⟩ := c1
  have HB2 := Lib.hid (HB1.out.trans (hb2.mono HB1.out.size))
  clear hs ho hsz hc0 hc1 h1 h2 h1' h2' hb2 hb'
  go_wp2_with fail
  go_ret
  exact ⟨rfl, HB2.out⟩
end Go.Proofs.Ytghfdiaaonjofaa
