/-
  The document's pool: Do, Turn.
-/
import Derived.Test.YtdmbjjladkdphaaRefPool2
import Derived.Test.YtdmbjjladkdphaaAppAny
set_option linter.unusedVariables false
set_option linter.unusedSimpArgs false
namespace Go.Proofs.Ytdmbjjladkdphaa
open Go.RowKit Go.Maps
variable {w w' : World} {m nn BA oA cA BD base : Nat} {A tk : List Fe} {dr : List Int} {vT : Value}

theorem wrap_u (n : Int) : U64 (IntKind.u64.wrap n) := by
  have h1 : IntKind.u64.wrap n = n % 18446744073709551616 := rfl
  rw [h1]; unfold U64; omega
theorem rop_u (give : Bool) {k : Nat} {t : Fe} {s : Sl} (h : U64 t.mask) : U64 (rOp give dr A k t s).2.mask := by
  unfold rOp
  cases give with
  | true =>
    simp only [if_true]
    unfold rG
    split
    · exact h
    · split
      · exact h
      · split
        · exact h
        · exact wrap_u _
  | false =>
    simp only [Bool.false_eq_true, if_false]
    unfold rT
    split
    · exact h
    · split
      · exact h
      · split
        · exact h
        · exact wrap_u _
theorem one_us (give : Bool) {s : Sl} (h : ∀ t ∈ tk, U64 t.mask) : ∀ t ∈ (oneF (rOp give dr A) A tk s).2, U64 t.mask := by
  unfold oneF
  split
  · exact h
  · split
    · exact h
    · split
      · exact h
      · rename_i k _ f hf
        intro t ht
        rcases List.mem_or_eq_of_mem_set ht with ht | rfl
        · exact h t ht
        · exact rop_u give (h f (List.mem_of_getElem? hf))
def RDo (m : Nat) (A : List Fe) (nn : Nat) (dr : List Int) (BA oA cA BD : Nat) (vT : Value) (r : Int × List Fe) (w : World) (e : Ending) (w' : World) : Prop :=
  e = .returned (.int .i64 r.1) ∧ ∃ base' vT', RpAt w' m A r.2 nn dr BA oA cA BD base' vT' ∧ Fr w.heap.size (fun q => q = m ∨ vT.ownBlock = some q) w w' ∧ ∀ q, vT'.ownBlock = some q → vT.ownBlock = some q ∨ w.heap.size ≤ q
/-- what holds ahead of each slot -/
structure RI (op : Nat → Fe → Sl → Int × Fe) (m : Nat) (A tk : List Fe) (nn : Nat) (dr : List Int) (BA oA cA BD base : Nat) (vT : Value) (xs : List Sl) (w1 : World) (k : Nat) (tk1 : List Fe) (wr : World) : Prop where
  at_ : RpAt wr m A tk1 nn dr BA oA cA BD base vT
  go : eachGo op A tk xs = eachGo op A tk1 (xs.drop k)
  fr_ : Fr w1.heap.size (fun q => vT.ownBlock = some q) w1 wr
  us : ∀ t ∈ tk1, U64 t.mask
theorem RDo.fail {tk1 : List Fe} {v1 : Value} {w1 : World} {n : Nat} (h : RpAt w m A tk nn dr BA oA cA BD base vT) (h1 : RpAt w1 m A tk1 nn dr BA oA cA BD base vT) (hf : Fr w.heap.size (fun q => vT.ownBlock = some q) w w1) (ho : w1.ownsRow w.heap.size 45 4 v1 tk.length (tk.flatMap Fe.cells)) (e : Int) :
    RDo m A nn dr BA oA cA BD vT (e, tk) w (.returned (.int .i64 e)) (w1.setCell ⟨m, 1, none⟩ v1) := by
  have hlt := fun q hq => h.lt (q := q) hq
  have hv := ho.lt
  obtain ⟨cs, t, a1, a2⟩ := h1.all
  have hap := h.apart
  have same : ∀ q, q ≠ m → (w1.setCell ⟨m, 1, none⟩ v1).heap[q]? = w1.heap[q]? := fun q hq => setCell_other (p := ⟨m, 1, none⟩) _ hq
  have lm := hlt m (.inl rfl); have lA := hlt BA (.inr (.inl rfl)); have lD := hlt BD (.inr (.inr (.inl rfl)))
  refine ⟨rfl, w.heap.size, v1, ⟨?_, ⟨cs, t, (same BA (Ne.symm hap.1)).trans a1, a2⟩, ⟨ho.1, ?_⟩, (same BD (Ne.symm hap.2.1)).trans h1.drn, ⟨hap.1, hap.2.1, hap.2.2.1, lm, lA, lD⟩, h.len⟩, (hf.mono (Nat.le_refl _) fun q _ e => .inr e).setCell (.inr (.inl rfl)) _, fun q hq => .inr (hv q hq).1⟩
  · exact setCell_block h1.head 1 _
  · rcases ho.2 with e | ⟨g, cap, cur, hv', hg, hh, hn⟩
    · exact .inl e
    · exact .inr ⟨g, cap, cur, hv', hg, (same g (by omega)).trans hh, hn⟩

set_option maxRecDepth 100000 in
set_option maxHeartbeats 4000000 in
theorem rdo_any (h : RpAt w m A tk nn dr BA oA cA BD base vT) (give : Bool) (v : Value) (xs : List Sl) (hs : SlRow w v xs) (hv : ∀ q, v.ownBlock = some q → xs ≠ [] → q < w.heap.size ∧ ¬ vT.ownBlock = some q) (hok : ∀ s ∈ xs, SlOk s)
    (hA : ∀ f ∈ A, FeOk f) (hT : ∀ t ∈ tk, U64 t.mask) (hN : ∀ f ∈ A, 0 ≤ f.spot.node ∧ f.spot.node < nn) (hl : A.length ≤ 1000000) (hnn : nn ≤ 1000000) (h0 : 0 < A.length) :
    Calls Try.prog 39 #[.pointer (some ⟨m, 0, none⟩), .bool give, v] w (RDo m A nn dr BA oA cA BD vT (eachF (rOp give dr A) A tk xs) w) := by
  obtain ⟨i0, hi0, hz0, hz1, hz2⟩ := info_parts infoFree
  obtain ⟨av, capv, rfl, hm, _⟩ := id hs
  obtain ⟨n, hn⟩ : ∃ n, xs.length = n := ⟨_, rfl⟩
  obtain ⟨la, hla⟩ : ∃ la, tk.length = la := ⟨_, rfl⟩
  obtain ⟨_, ⟨rfl, h1⟩ | ⟨g, cT, cur, rfl, hg, hh, hnc, hmm, hsz, htk⟩⟩ := id h.own
  · have := h.len; omega
  have hb0 := (Below.refl w.heap.size w).alloc (Nat.le_refl _) (.cells #[] 45)
  have HSRC := Lib.hid (show Src (w.alloc (.cells #[] 45)) 4 (some ⟨g, 0, none⟩) la cT (tk.flatMap Fe.cells) from by
    refine .inr ⟨_, rfl, by rw [flat_len, hla], fun j u hu => ?_⟩
    have hadd : (⟨g, 0, none⟩ : Addr).add j = ⟨g, j, none⟩ := by
      unfold Addr.add
      split
      · rename_i e'; rw [e']
      · simp
    rw [hadd, hb0.cell (p := ⟨g, j, none⟩) (lt_of_block hh), cell_of_block hh]
    have hj := (List.getElem?_eq_some_iff.1 hu).1
    rw [flat_len] at hj
    rw [← htk, List.getElem?_take, if_pos (by omega), Array.getElem?_toList] at hu
    exact hu)
  have HLA := Lib.hid hla; have HNN := Lib.hid hn; have H := Lib.hid h; have HS := Lib.hid hs; have HV := Lib.hid hv; have HOK := Lib.hid hok; have HAO := Lib.hid hA; have HTU := Lib.hid hT; have HNO := Lib.hid hN; have HL := Lib.hid hl; have HNL := Lib.hid hnn
  have hla2 : la ≤ 1000000 := by rw [← hla, h.len]; exact hl
  have hgl := lt_of_block hh
  have HGL := Lib.hid hgl
  have hmx : n ≤ 9223372036854775807 := by rw [hn] at hm; unfold maxLen at hm; omega
  have lm := h.lt (.inl rfl)
  have c1 : w.cell? ⟨m, 1, none⟩ = some (.slice (some ⟨g, 0, none⟩) la cT) := by have h1 := cell_of_block h.head 1; rw [hla] at h1; exact h1
  obtain ⟨re, hre⟩ : ∃ re, eachF (rOp give dr A) A tk xs = re := ⟨_, rfl⟩
  have HRE := Lib.hid hre
  rw [hn, hre]
  rw [hla] at H ⊢
  clear h hs hv hok hA hT hN hl hnn h0 hm hn hla hre hg hh hnc hmm hsz htk hb0 hgl
  go_enter Try.func39, Try.ntmps39
  go_wp2_with (at_builtin; refine wpList_append_src _ (by rfl) _ _ _ (by rfl) w.heap.size 45 i0 _ 4 32 Try.underlying38 hi0 hz0 hz1 hz2 rfl (by omega) (.slice (some ⟨w.heap.size, 0, none⟩) 0 0) 0 [] (by rfl) (World.ownsRow_made w _ 0 (Nat.le_refl _) (by unfold maxLen; omega) rfl) (some ⟨g, 0, none⟩) la cT _ (by rfl) HSRC.out (fe_one tk) (by unfold maxLen; omega) (by omega) (by simp) ?_)
  intro v1 w1 hown1 hg1 hat1
  obtain ⟨a1, cp1, rfl⟩ := own_form hown1
  have hb1 : Below w.heap.size w w1 := (Fr.of_below ((Below.refl w.heap.size w).alloc (Nat.le_refl _) _) (fun _ => False)).grown hg1 (by simp) (fun k e => .inl (by simp [Value.ownBlock] at e; omega)) |>.below (Nat.le_refl _) (fun _ h => h.elim)
  have HB1 := Lib.hid hb1; have HO1 := Lib.hid hown1
  have hv1 := hown1.lt
  have HV1 := Lib.hid hv1
  clear hg1 hat1 hb1 hown1 hv1 c1
  go_wp2_with fail
  go_loopw [8] (fun i wr => ∃ (k : Nat) (tk1 : List Fe), k ≤ n ∧ i = .int .i64 k ∧ Hid (RI (rOp give dr A) m A tk nn dr BA oA cA BD base (.slice (some ⟨g, 0, none⟩) la cT) xs w1 k tk1 wr)) (fun i _ => n - (intOf i).toNat)
  case atStart => exact ⟨0, tk, Nat.zero_le _, rfl, Lib.hid ⟨H.out.later HB1.out, by simp, Fr.refl _ _ _, HTU.out⟩⟩
  case round =>
    obtain ⟨k, tk1, hk, rfl, HI⟩ := hrel
    have HFW := Lib.hid ((Fr.of_below HB1.out (fun q => (Value.slice (some ⟨g, 0, none⟩) la cT).ownBlock = some q)).trans (HI.out.fr_.mono HB1.out.size fun _ _ e => e))
    by_cases hlt : k < n
    · have hkl : k < xs.length := by rw [HNN.out]; exact hlt
      obtain ⟨s, hsx⟩ : ∃ s, xs[k] = s := ⟨_, rfl⟩
      have HMEM := Lib.hid (show s ∈ xs from hsx ▸ List.getElem_mem hkl)
      have HDROP := Lib.hid (show xs.drop k = s :: xs.drop (k + 1) by rw [List.drop_eq_getElem_cons hkl, hsx])
      obtain ⟨av', capv', hav, _, hc⟩ := HS.out.fr HFW.out (fun q hq => HV.out q hq (fun e => by rw [e] at hkl; simp at hkl))
      rw [HNN.out] at hav
      simp only [Value.slice.injEq] at hav
      obtain ⟨rfl, -, rfl⟩ := hav
      obtain ⟨b, o, rfl, hb, hcs⟩ := hc k hkl
      rw [hsx] at hcs
      have s0 : wr.cell? ⟨b, o + k * 4, none⟩ = some (.int .i64 s.spot.node) := hcs 0 (by omega)
      have s1 : wr.cell? ⟨b, o + k * 4 + 1, none⟩ = some (.int .i64 s.spot.domain) := by rw [Nat.add_assoc]; exact hcs 1 (by omega)
      have s2 : wr.cell? ⟨b, o + k * 4 + 2, none⟩ = some (.int .u64 s.mask) := by rw [Nat.add_assoc]; exact hcs 2 (by omega)
      have s3 : wr.cell? ⟨b, o + k * 4 + 3, none⟩ = some (.int .i64 s.cpus) := by rw [Nat.add_assoc]; exact hcs 3 (by omega)
      have HONE := Lib.hid (rone_any HI.out.at_ give s (HOK.out s HMEM.out) HAO.out HI.out.us HNO.out HL.out HNL.out)
      have HUS := Lib.hid (one_us (dr := dr) (A := A) give (s := s) HI.out.us)
      obtain ⟨⟨e0, tk2⟩, ho⟩ : ∃ z, oneF (rOp give dr A) A tk1 s = z := ⟨_, rfl⟩
      rw [ho] at HONE HUS
      have HOO := Lib.hid ho
      clear hc hcs hsx hkl ho
      go_wp2_with fail
      refine HONE.out.mono ?_
      rintro e w5 hp
      unfold ROne at hp
      obtain ⟨rfl, hp5, hf5⟩ := hp
      have HP5 := Lib.hid hp5
      have HF5 := Lib.hid (HI.out.fr_.trans (hf5.mono HI.out.fr_.size fun _ _ e => e))
      have HW5 := Lib.hid ((Fr.of_below HB1.out (fun q => (Value.slice (some ⟨g, 0, none⟩) la cT).ownBlock = some q)).trans (HF5.out.mono HB1.out.size fun _ _ e => e))
      have HO5 := Lib.hid (ownsRow_fr HO1.out HF5.out (fun q hq => ⟨(HV1.out q hq).2, fun e => by have h1 := (HV1.out q hq).1; have h2 := HGL.out; simp only [Value.ownBlock, Option.some.injEq] at e; omega⟩))
      have zp := frozen_of_block hp5.head 1
      have cp := cell_of_block hp5.head 1
      have lp := hp5.lt (.inl rfl)
      clear hp5 hf5 s0 s1 s2 s3
      by_cases he : e0 = 0
      · subst he
        have HGO := Lib.hid (show eachGo (rOp give dr A) A tk xs = eachGo (rOp give dr A) A tk2 (xs.drop (k + 1)) by rw [HI.out.go, HDROP.out, eachGo_of HOO.out])
        go_wp2_with fail
        exact ⟨⟨k + 1, tk2, by omega, by go_num, Lib.hid ⟨HP5.out, HGO.out, HF5.out, HUS.out⟩⟩, by simp [intOf]; omega⟩
      · have HR := Lib.hid (show re = (e0, tk) by
          rw [← HRE.out]; unfold eachF; rw [HI.out.go, HDROP.out]; unfold eachGo; rw [HOO.out]; simp [he])
        have he2 : (e0 != 0) = true := by simpa using he
        clear he
        go_wp2_with fail
        go_ret
        rw [HR.out]
        have hlen := HLA.out
        have hend := RDo.fail (n := 0) (vT := .slice (some ⟨g, 0, none⟩) la cT) H.out HP5.out HW5.out (by rw [hlen]; exact HO5.out) e0
        exact hend
    · obtain rfl : k = n := by omega
      have HR := Lib.hid (show re = (0, tk1) by
        rw [← HRE.out]; unfold eachF; rw [HI.out.go, List.drop_eq_nil_of_le (by rw [HNN.out]; exact Nat.le_refl _)]; simp [eachGo])
      clear hlt
      go_wp2
      go_ret
      rw [HR.out]
      exact ⟨rfl, base, _, HI.out.at_, HFW.out.mono (Nat.le_refl _) fun q _ e => .inr e, fun q hq => .inl hq⟩

/-- what Turn tells -/
def turnT (to : Bool) (nn : Nat) (dr : List Int) (n : Int) : Int × List Int := if to then drainF nn dr n else undrainF nn dr n
theorem turn_out {to : Bool} {n : Int} (h : ¬ (0 ≤ n ∧ n < nn)) : turnT to nn dr n = (1, dr) := by
  unfold turnT drainF undrainF
  rw [if_pos h, if_pos h]; simp
def RTurn (m : Nat) (A tk : List Fe) (nn : Nat) (BA oA cA BD base : Nat) (vT : Value) (r : Int × List Int) (w : World) (e : Ending) (w' : World) : Prop :=
  e = .returned (.int .i64 r.1) ∧ RpAt w' m A tk nn r.2 BA oA cA BD base vT ∧ Fr w.heap.size (fun q => q = BD) w w'
theorem RTurn.same (h : RpAt w m A tk nn dr BA oA cA BD base vT) (e : Int) : RTurn m A tk nn BA oA cA BD base vT (e, dr) w (.returned (.int .i64 e)) w := ⟨rfl, h, Fr.refl _ _ _⟩
theorem RTurn.set (h : RpAt w m A tk nn dr BA oA cA BD base vT) {j : Nat} (hj : j < nn) {dr' : List Int} (b : Bool) (hb : decide ((j : Int) ∈ dr') = b) (ho : ∀ n, n ≠ (j : Int) → (n ∈ dr' ↔ n ∈ dr)) :
    RTurn m A tk nn BA oA cA BD base vT (0, dr') w (.returned (.int .i64 0)) (w.setCell ⟨BD, j, none⟩ (.bool b)) := by
  have hap := h.apart
  obtain ⟨cs, t, a1, a2⟩ := h.all
  have same : ∀ q, q ≠ BD → (w.setCell ⟨BD, j, none⟩ (.bool b)).heap[q]? = w.heap[q]? := fun q hq => setCell_other (p := ⟨BD, j, none⟩) _ hq
  refine ⟨rfl, ⟨(same m hap.2.1).trans h.head, ⟨cs, t, (same BA hap.2.2.1).trans a1, a2⟩, ⟨h.own.1, ?_⟩, ?_, hap, h.len⟩, (Fr.refl w.heap.size (fun q => q = BD) w).setCell (p := ⟨BD, j, none⟩) (.inr rfl) _⟩
  · rcases h.own.2 with e | ⟨g, cap, cur, hv', hg, hh, hn⟩
    · exact .inl e
    · exact .inr ⟨g, cap, cur, hv', hg, (same g (by omega)).trans hh, hn⟩
  · rw [← DB_set hj b hb ho]
    exact setCell_block h.drn j _
set_option maxHeartbeats 2000000 in
theorem rturn_any (h : RpAt w m A tk nn dr BA oA cA BD base vT) (n : Int) (to : Bool) (hnn : nn ≤ 1000000) :
    Calls Try.prog 40 #[.pointer (some ⟨m, 0, none⟩), .int .i64 n, .bool to] w (RTurn m A tk nn BA oA cA BD base vT (turnT to nn dr n) w) := by
  have H := Lib.hid h
  have lm := h.lt (.inl rfl)
  have lD := h.lt (.inr (.inr (.inl rfl)))
  have c2 := cell_of_block h.head 2
  by_cases hn0 : n < 0
  · have HR := Lib.hid (show turnT to nn dr n = (1, dr) from turn_out (by omega))
    have g0 : decide (n < 0) = true := by simpa using hn0
    rw [HR.out]
    clear h hn0
    go_enter Try.func40, Try.ntmps40
    go_wp2
    go_ret
    exact RTurn.same H.out 1
  have g0 : decide (n < 0) = false := by simpa using hn0
  by_cases hn1 : (nn : Int) ≤ n
  · have HR := Lib.hid (show turnT to nn dr n = (1, dr) from turn_out (by omega))
    have g1 : decide ((nn : Int) ≤ n) = true := by simpa using hn1
    rw [HR.out]
    clear h hn0 hn1
    go_enter Try.func40, Try.ntmps40
    go_wp2
    go_ret
    exact RTurn.same H.out 1
  have g1 : decide ((nn : Int) ≤ n) = false := by simpa using hn1
  obtain ⟨j, rfl⟩ : ∃ j : Nat, n = j := ⟨n.toNat, by omega⟩
  have hjn : j < nn := by omega
  have hj0 : ¬ ¬ (0 ≤ (j : Int) ∧ (j : Int) < nn) := by omega
  have cj := cell_of_block h.drn j
  have zj := frozen_of_block h.drn j
  rw [DB_at dr hjn] at cj
  have HJN := Lib.hid hjn
  by_cases hd : (j : Int) ∈ dr
  · rw [show decide ((j : Int) ∈ dr) = true by simpa using hd] at cj
    cases to with
    | true =>
      have HR := Lib.hid (show turnT true nn dr j = (4, dr) by unfold turnT drainF; rw [if_neg hj0, if_pos hd]; simp)
      rw [HR.out]
      clear h hn0 hn1 hd hj0
      go_enter Try.func40, Try.ntmps40
      go_wp2
      go_ret
      exact RTurn.same H.out 4
    | false =>
      have HR := Lib.hid (show turnT false nn dr j = (0, dr.filter fun x => decide (x ≠ (j : Int))) by
        have hj1 : 0 ≤ (j : Int) ∧ (j : Int) < nn := by omega
        simp [turnT, undrainF, hj1, hd])
      rw [HR.out]
      clear h hn0 hn1 hd hj0
      go_enter Try.func40, Try.ntmps40
      go_wp2
      go_ret
      exact RTurn.set H.out HJN.out false (by simp) (fun n hn => by simp [hn])
  · rw [show decide ((j : Int) ∈ dr) = false by simpa using hd] at cj
    cases to with
    | true =>
      have HR := Lib.hid (show turnT true nn dr j = (0, dr ++ [(j : Int)]) by unfold turnT drainF; rw [if_neg hj0, if_neg hd]; simp)
      rw [HR.out]
      clear h hn0 hn1 hd hj0
      go_enter Try.func40, Try.ntmps40
      go_wp2
      go_ret
      exact RTurn.set H.out HJN.out true (by simp) (fun n hn => by simp [hn])
    | false =>
      have HR := Lib.hid (show turnT false nn dr j = (3, dr) by unfold turnT undrainF; rw [if_neg hj0, if_pos hd]; simp)
      rw [HR.out]
      clear h hn0 hn1 hd hj0
      go_enter Try.func40, Try.ntmps40
      go_wp2
      go_ret
      exact RTurn.same H.out 3
end Go.Proofs.Ytdmbjjladkdphaa
