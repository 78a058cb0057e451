/-
  What a pool's calls do to what is free: plain laws.
-/
import Derived.Test.YtdmbjjladkdphaaPool8
import Derived.Test.YtdmbjjladkdphaaTopoFacts
import Derived.Laws.BitsAllLaws
set_option linter.unusedVariables false
set_option linter.unusedSimpArgs false
namespace Go.Proofs.Ytdmbjjladkdphaa
open Go.RowKit Go.Maps

def U64 (a : Int) : Prop := 0 ≤ a ∧ a < 18446744073709551616
def tb (a : Int) (i : Nat) : Bool := a.toNat.testBit i
theorem u_nat {a : Int} (h : U64 a) : ((a.toNat : Nat) : Int) = a ∧ a.toNat < 18446744073709551616 := by
  unfold U64 at h
  exact ⟨Int.toNat_of_nonneg h.1, by omega⟩
theorem bNot_eq {a b : Int} (ha : U64 a) (hb : U64 b) : Go.bits .andNot .u64 a b = ((a.toNat &&& (18446744073709551615 - b.toNat) : Nat) : Int) := by
  have := u64_andNot_nat a.toNat b.toNat (u_nat ha).2 (u_nat hb).2
  rwa [(u_nat ha).1, (u_nat hb).1] at this
theorem bAnd_eq {a b : Int} (ha : U64 a) (hb : U64 b) : Go.bits .and .u64 a b = ((a.toNat &&& b.toNat : Nat) : Int) := by
  have := u64_and_nat a.toNat b.toNat (u_nat ha).2 (u_nat hb).2
  rwa [(u_nat ha).1, (u_nat hb).1] at this
theorem bOr_eq {a b : Int} (ha : U64 a) (hb : U64 b) : Go.bits .or .u64 a b = ((a.toNat ||| b.toNat : Nat) : Int) := by
  have := u64_or_nat a.toNat b.toNat (u_nat ha).2 (u_nat hb).2
  rwa [(u_nat ha).1, (u_nat hb).1] at this
theorem bNot_u {a b : Int} (ha : U64 a) (hb : U64 b) : U64 (Go.bits .andNot .u64 a b) := by
  rw [bNot_eq ha hb]
  have := Mk.andNot_lt (a := a.toNat) (b := b.toNat) (by have := (u_nat ha).2; omega)
  unfold U64; omega
theorem bAnd_u {a b : Int} (ha : U64 a) (hb : U64 b) : U64 (Go.bits .and .u64 a b) := by
  rw [bAnd_eq ha hb]
  have h1 : a.toNat &&& b.toNat ≤ a.toNat := Nat.and_le_left
  have h2 := (u_nat ha).2
  unfold U64; omega
theorem bOr_u {a b : Int} (ha : U64 a) (hb : U64 b) : U64 (Go.bits .or .u64 a b) := by
  rw [bOr_eq ha hb]
  have h1 : a.toNat ||| b.toNat < 2 ^ 64 := Nat.or_lt_two_pow (by have := (u_nat ha).2; omega) (by have := (u_nat hb).2; omega)
  unfold U64; omega
theorem bNot_tb {a b : Int} (ha : U64 a) (hb : U64 b) {i : Nat} (hi : i < 64) : tb (Go.bits .andNot .u64 a b) i = (tb a i && !tb b i) := by
  unfold tb
  rw [bNot_eq ha hb, Int.toNat_natCast]
  exact Mk.testBit_andNot (by have := (u_nat hb).2; omega) i hi
theorem bAnd_tb {a b : Int} (ha : U64 a) (hb : U64 b) {i : Nat} (hi : i < 64) : tb (Go.bits .and .u64 a b) i = (tb a i && tb b i) := by
  unfold tb
  rw [bAnd_eq ha hb, Int.toNat_natCast, Nat.testBit_and]
theorem bOr_tb {a b : Int} (ha : U64 a) (hb : U64 b) {i : Nat} (hi : i < 64) : tb (Go.bits .or .u64 a b) i = (tb a i || tb b i) := by
  unfold tb
  rw [bOr_eq ha hb, Int.toNat_natCast, Nat.testBit_or]
theorem u_ext {a b : Int} (ha : U64 a) (hb : U64 b) (h : ∀ i, i < 64 → tb a i = tb b i) : a = b := by
  have h1 := Mk.bits_ext (a := a.toNat) (b := b.toNat) (by have := (u_nat ha).2; omega) (by have := (u_nat hb).2; omega) h
  rw [← (u_nat ha).1, ← (u_nat hb).1, h1]
theorem tb_zero (i : Nat) : tb 0 i = false := by simp [tb]
theorem u_zero {a : Int} (ha : U64 a) : a = 0 ↔ ∀ i, i < 64 → tb a i = false := by
  constructor
  · rintro rfl i _; exact tb_zero i
  · intro h
    exact u_ext ha (by unfold U64; omega) fun i hi => by rw [h i hi, tb_zero]
theorem bNot_zero {a b : Int} (ha : U64 a) (hb : U64 b) : Go.bits .andNot .u64 a b = 0 ↔ ∀ i, i < 64 → tb a i = true → tb b i = true := by
  rw [u_zero (bNot_u ha hb)]
  refine forall_congr' fun i => forall_congr' fun hi => ?_
  rw [bNot_tb ha hb hi]
  cases tb a i <;> cases tb b i <;> simp
theorem bAnd_zero {a b : Int} (ha : U64 a) (hb : U64 b) : Go.bits .and .u64 a b = 0 ↔ ∀ i, i < 64 → tb a i = true → tb b i = false := by
  rw [u_zero (bAnd_u ha hb)]
  refine forall_congr' fun i => forall_congr' fun hi => ?_
  rw [bAnd_tb ha hb hi]
  cases tb a i <;> cases tb b i <;> simp
theorem wrapI {n : Int} (h : -1000000 ≤ n ∧ n ≤ 1000000) : IntKind.i64.wrap n = n := by
  rw [wrap_eqI]; unfold wrap64; omega

/-- what is free at a spot, of what is in it -/
structure FS (al f : Fe) : Prop where
  spot : f.spot = al.spot
  u : U64 f.mask
  sub : ∀ i, i < 64 → tb f.mask i = true → tb al.mask i = true
  c : 0 ≤ f.cpus ∧ f.cpus ≤ al.cpus
theorem FeOk.u {f : Fe} (h : FeOk f) : U64 f.mask := ⟨h.1, h.2.1⟩
theorem FS.ok {al f : Fe} (h : FS al f) (ha : FeOk al) : FeOk f := ⟨h.u.1, h.u.2, h.c.1, Int.le_trans h.c.2 ha.2.2.2⟩
theorem Fe.ext4 {x y : Fe} (h1 : x.spot = y.spot) (h2 : x.mask = y.mask) (h3 : x.cpus = y.cpus) : x = y := by
  cases x; cases y; simp only at h1 h2 h3; subst h1 h2 h3; rfl

theorem takeF_ok {dr : List Int} {f f' : Fe} {s : Sl} (h : takeF dr f s = (0, f')) : s.spot.node ∉ dr ∧ Go.bits .andNot .u64 s.mask f.mask = 0 ∧ s.cpus ≤ f.cpus ∧ f' = ⟨f.spot, Go.bits .andNot .u64 f.mask s.mask, IntKind.i64.wrap (f.cpus - s.cpus)⟩ := by
  unfold takeF at h
  split at h
  · simp at h
  · rename_i h1
    split at h
    · simp at h
    · rename_i h2
      simp only [not_or, Decidable.not_not, Int.not_lt] at h2
      simp only [Prod.mk.injEq, true_and] at h
      exact ⟨h1, h2.1, h2.2, h.symm⟩
theorem takeF_of {dr : List Int} {f : Fe} {s : Sl} (h1 : s.spot.node ∉ dr) (h2 : Go.bits .andNot .u64 s.mask f.mask = 0) (h3 : s.cpus ≤ f.cpus) : takeF dr f s = (0, ⟨f.spot, Go.bits .andNot .u64 f.mask s.mask, IntKind.i64.wrap (f.cpus - s.cpus)⟩) := by
  unfold takeF
  rw [if_neg h1, if_neg]
  simp only [not_or, Decidable.not_not, Int.not_lt]
  exact ⟨h2, h3⟩
theorem giveF_ok {al f f' : Fe} {s : Sl} (h : giveF al f s = (0, f')) : Go.bits .andNot .u64 s.mask al.mask = 0 ∧ Go.bits .and .u64 s.mask f.mask = 0 ∧ s.cpus ≤ IntKind.i64.wrap (al.cpus - f.cpus) ∧ f' = ⟨f.spot, Go.bits .or .u64 f.mask s.mask, IntKind.i64.wrap (f.cpus + s.cpus)⟩ := by
  unfold giveF at h
  split at h
  · simp at h
  · rename_i h1
    split at h
    · simp at h
    · rename_i h2
      simp only [not_or, Decidable.not_not, Int.not_lt] at h1 h2
      simp only [Prod.mk.injEq, true_and] at h
      exact ⟨h1, h2.1, h2.2, h.symm⟩
theorem giveF_of {al f : Fe} {s : Sl} (h1 : Go.bits .andNot .u64 s.mask al.mask = 0) (h2 : Go.bits .and .u64 s.mask f.mask = 0) (h3 : s.cpus ≤ IntKind.i64.wrap (al.cpus - f.cpus)) : giveF al f s = (0, ⟨f.spot, Go.bits .or .u64 f.mask s.mask, IntKind.i64.wrap (f.cpus + s.cpus)⟩) := by
  unfold giveF
  rw [if_neg (by simpa using h1), if_neg]
  simp only [not_or, Decidable.not_not, Int.not_lt]
  exact ⟨h2, h3⟩
theorem FS.take {al f f' : Fe} {s : Sl} {dr : List Int} (h : FS al f) (ha : FeOk al) (hs : SlOk s) (hc : 0 ≤ s.cpus) (ht : takeF dr f s = (0, f')) : FS al f' := by
  obtain ⟨h1, h2, h3, rfl⟩ := takeF_ok ht
  have hu : U64 s.mask := hs.2.1
  have hw : IntKind.i64.wrap (f.cpus - s.cpus) = f.cpus - s.cpus := wrapI (by have := h.c; have := ha.2.2.2; omega)
  refine ⟨h.spot, bNot_u h.u hu, fun i hi hb => ?_, ?_⟩
  · simp only at hb
    rw [bNot_tb h.u hu hi] at hb
    exact h.sub i hi (by simp at hb; exact hb.1)
  · simp only; rw [hw]; have := h.c; omega
theorem FS.give {al f f' : Fe} {s : Sl} (h : FS al f) (ha : FeOk al) (hs : SlOk s) (hc : 0 ≤ s.cpus) (ht : giveF al f s = (0, f')) : FS al f' := by
  obtain ⟨h1, h2, h3, rfl⟩ := giveF_ok ht
  have hu : U64 s.mask := hs.2.1
  have hb := h.c; have hb2 := ha.2.2.2
  rw [wrapI (by omega)] at h3
  have hw : IntKind.i64.wrap (f.cpus + s.cpus) = f.cpus + s.cpus := wrapI (by omega)
  refine ⟨h.spot, bOr_u h.u hu, fun i hi hb => ?_, ?_⟩
  · simp only at hb
    rw [bOr_tb h.u hu hi, Bool.or_eq_true] at hb
    rcases hb with hb | hb
    · exact h.sub i hi hb
    · exact (bNot_zero hu ha.u).1 h1 i hi hb
  · simp only; rw [hw]; omega
set_option maxHeartbeats 1000000 in
theorem take_give {al f f' : Fe} {s : Sl} {dr : List Int} (h : FS al f) (ha : FeOk al) (hs : SlOk s) (hc : 0 ≤ s.cpus) (ht : takeF dr f s = (0, f')) : giveF al f' s = (0, f) := by
  obtain ⟨h1, h2, h3, rfl⟩ := takeF_ok ht
  have hu : U64 s.mask := hs.2.1
  have hb := h.c; have hb2 := ha.2.2.2
  have hw : IntKind.i64.wrap (f.cpus - s.cpus) = f.cpus - s.cpus := wrapI (by omega)
  have hsf := (bNot_zero hu h.u).1 h2
  rw [giveF_of (al := al) (f := ⟨f.spot, Go.bits .andNot .u64 f.mask s.mask, IntKind.i64.wrap (f.cpus - s.cpus)⟩) (s := s) ((bNot_zero hu ha.u).2 fun i hi hb => h.sub i hi (hsf i hi hb)) ((bAnd_zero hu (bNot_u h.u hu)).2 fun i hi hb => by rw [bNot_tb h.u hu hi, hb]; simp) (by simp only; rw [hw, wrapI (by omega)]; omega)]
  refine congrArg (Prod.mk 0) (Fe.ext4 rfl ?_ ?_)
  · simp only
    refine u_ext (bOr_u (bNot_u h.u hu) hu) h.u fun i hi => ?_
    rw [bOr_tb (bNot_u h.u hu) hu hi, bNot_tb h.u hu hi]
    have := hsf i hi
    cases h4 : tb s.mask i <;> cases h5 : tb f.mask i <;> simp_all
  · simp only; rw [hw, wrapI (by omega)]; omega
set_option maxHeartbeats 1000000 in
theorem take_swap {al f f1 f2 : Fe} {s t : Sl} {dr : List Int} (h : FS al f) (ha : FeOk al) (hs : SlOk s) (hc : 0 ≤ s.cpus) (ht : SlOk t) (hd : 0 ≤ t.cpus) (h1 : takeF dr f s = (0, f1)) (h2 : takeF dr f1 t = (0, f2)) :
    ∃ f1', takeF dr f t = (0, f1') ∧ takeF dr f1' s = (0, f2) := by
  obtain ⟨a1, a2, a3, rfl⟩ := takeF_ok h1
  obtain ⟨b1, b2, b3, rfl⟩ := takeF_ok h2
  have hu : U64 s.mask := hs.2.1
  have hv : U64 t.mask := ht.2.1
  have hb := h.c; have hb2 := ha.2.2.2
  simp only at b2 b3 ⊢
  rw [wrapI (by omega)] at b3
  have hsf := (bNot_zero hu h.u).1 a2
  have htf := (bNot_zero hv (bNot_u h.u hu)).1 b2
  have htf' : ∀ i, i < 64 → tb t.mask i = true → tb f.mask i = true ∧ tb s.mask i = false := fun i hi hb => by
    have := htf i hi hb
    rw [bNot_tb h.u hu hi] at this
    simpa using this
  refine ⟨_, takeF_of (f := f) (s := t) b1 ((bNot_zero hv h.u).2 fun i hi hb => (htf' i hi hb).1) (by omega), ?_⟩
  rw [takeF_of (f := ⟨f.spot, Go.bits .andNot .u64 f.mask t.mask, IntKind.i64.wrap (f.cpus - t.cpus)⟩) (s := s) a1 ((bNot_zero hu (bNot_u h.u hv)).2 fun i hi hb => ?_) (by simp only; rw [wrapI (by omega)]; omega)]
  · refine congrArg (Prod.mk 0) (Fe.ext4 rfl ?_ ?_)
    · simp only
      refine u_ext (bNot_u (bNot_u h.u hv) hu) (bNot_u (bNot_u h.u hu) hv) fun i hi => ?_
      rw [bNot_tb (bNot_u h.u hv) hu hi, bNot_tb h.u hv hi, bNot_tb (bNot_u h.u hu) hv hi, bNot_tb h.u hu hi]
      cases tb f.mask i <;> cases tb s.mask i <;> cases tb t.mask i <;> rfl
    · have w1 : IntKind.i64.wrap (f.cpus - t.cpus) = f.cpus - t.cpus := wrapI (by omega)
      have w2 : IntKind.i64.wrap (f.cpus - s.cpus) = f.cpus - s.cpus := wrapI (by omega)
      simp only
      rw [w1, w2, wrapI (by omega), wrapI (by omega)]; omega
  · rw [bNot_tb h.u hv hi, hsf i hi hb]
    cases h5 : tb t.mask i
    · rfl
    · have := (htf' i hi h5).2
      rw [hb] at this; cases this

/-- what is free of a cluster's spots -/
structure PInv (A fr : List Fe) : Prop where
  len : fr.length = A.length
  at_ : ∀ (k : Nat) (al f : Fe), A[k]? = some al → fr[k]? = some f → FS al f
theorem PInv.refl {A : List Fe} (h : ∀ f ∈ A, FeOk f) : PInv A A := ⟨rfl, fun k al f h1 h2 => by
  rw [h1] at h2; cases h2
  have := h al (List.mem_of_getElem? h1)
  exact ⟨rfl, this.u, fun _ _ h => h, this.2.2.1, Int.le_refl _⟩⟩
theorem PInv.set {A fr : List Fe} (h : PInv A fr) {k : Nat} {al f' : Fe} (hal : A[k]? = some al) (hf : FS al f') : PInv A (fr.set k f') := by
  refine ⟨by simp [h.len], fun j al' f hj hf' => ?_⟩
  rw [List.getElem?_set] at hf'
  by_cases e : k = j
  · subst e
    rw [hal] at hj; cases hj
    simp only [if_true] at hf'
    split at hf'
    · cases hf'; exact hf
    · cases hf'
  · rw [if_neg e] at hf'
    exact h.at_ j al' f hj hf'
theorem PInv.ok {A fr : List Fe} (h : PInv A fr) (hA : ∀ f ∈ A, FeOk f) : ∀ f ∈ fr, FeOk f := fun f hf => by
  obtain ⟨k, hk, rfl⟩ := List.getElem_of_mem hf
  have hkA : k < A.length := by rw [← h.len]; exact hk
  exact (h.at_ k A[k] fr[k] (List.getElem?_eq_getElem hkA) (List.getElem?_eq_getElem hk)).ok (hA _ (List.getElem_mem _))
theorem PInv.spots {A fr : List Fe} (h : PInv A fr) (k : Nat) : (fr[k]?).map (·.spot) = (A[k]?).map (·.spot) := by
  by_cases hk : k < A.length
  · have hkf : k < fr.length := by rw [h.len]; exact hk
    rw [List.getElem?_eq_getElem hk, List.getElem?_eq_getElem hkf]
    simp only [Option.map_some]
    rw [(h.at_ k A[k] fr[k] (List.getElem?_eq_getElem hk) (List.getElem?_eq_getElem hkf)).spot]
  · have h1 : A.length ≤ k := by omega
    have h2 : fr.length ≤ k := by rw [h.len]; exact h1
    rw [List.getElem?_eq_none h1, List.getElem?_eq_none h2]

theorem oneF_ok {op : Nat → Fe → Sl → Int × Fe} {A fr fr' : List Fe} {s : Sl} (h : oneF op A fr s = (0, fr')) : 0 ≤ s.cpus ∧ ∃ k f f', posF A s.spot = some k ∧ fr[k]? = some f ∧ op k f s = (0, f') ∧ fr' = fr.set k f' := by
  unfold oneF at h
  split at h
  · simp at h
  · rename_i hc
    split at h
    · simp at h
    · rename_i k hk
      split at h
      · simp at h
      · rename_i f hf
        simp only [Prod.mk.injEq] at h
        exact ⟨by omega, k, f, (op k f s).2, hk, hf, Prod.ext h.1 rfl, h.2.symm⟩
theorem oneF_of {op : Nat → Fe → Sl → Int × Fe} {A fr : List Fe} {s : Sl} (hc : 0 ≤ s.cpus) {k : Nat} {f : Fe} (hk : posF A s.spot = some k) (hf : fr[k]? = some f) : oneF op A fr s = ((op k f s).1, fr.set k (op k f s).2) := by
  unfold oneF
  rw [if_neg (by omega), hk]
  simp only [hf]
variable {dr : List Int} {A fr fr1 fr2 : List Fe} {s t : Sl}
theorem posA {k : Nat} (hk : posF A s.spot = some k) : ∃ al, A[k]? = some al := ⟨_, List.getElem?_eq_getElem (posF_some hk).1⟩
theorem PInv.one (h : PInv A fr) (hA : ∀ f ∈ A, FeOk f) (hs : SlOk s) (ht : oneF (opT dr) A fr s = (0, fr1)) : PInv A fr1 := by
  obtain ⟨hc, k, f, f', hk, hf, hop, rfl⟩ := oneF_ok ht
  obtain ⟨al, hal⟩ := posA hk
  exact h.set hal ((h.at_ k al f hal hf).take (hA _ (List.mem_of_getElem? hal)) hs hc hop)
theorem PInv.oneG (h : PInv A fr) (hA : ∀ f ∈ A, FeOk f) (hs : SlOk s) (ht : oneF (opG A) A fr s = (0, fr1)) : PInv A fr1 := by
  obtain ⟨hc, k, f, f', hk, hf, hop, rfl⟩ := oneF_ok ht
  obtain ⟨al, hal⟩ := posA hk
  unfold opG at hop
  rw [hal] at hop
  exact h.set hal ((h.at_ k al f hal hf).give (hA _ (List.mem_of_getElem? hal)) hs hc hop)
theorem set_back {α : Type} : ∀ {l : List α} {k : Nat} {f g : α}, l[k]? = some f → (l.set k g).set k f = l := fun {l k f g} h => by
  obtain ⟨hk, rfl⟩ := List.getElem?_eq_some_iff.1 h
  rw [List.set_set]; simp
theorem one_take_give (h : PInv A fr) (hA : ∀ f ∈ A, FeOk f) (hs : SlOk s) (ht : oneF (opT dr) A fr s = (0, fr1)) : oneF (opG A) A fr1 s = (0, fr) := by
  obtain ⟨hc, k, f, f', hk, hf, hop, rfl⟩ := oneF_ok ht
  obtain ⟨al, hal⟩ := posA hk
  have hlt := (List.getElem?_eq_some_iff.1 hf).1
  have hg := take_give (h.at_ k al f hal hf) (hA _ (List.mem_of_getElem? hal)) hs hc hop
  have h2 : (fr.set k f')[k]? = some f' := by simp [hlt]
  rw [oneF_of hc hk h2, show opG A k f' s = giveF al f' s by unfold opG; rw [hal], hg]
  simp only [set_back hf]
theorem one_swap (h : PInv A fr) (hA : ∀ f ∈ A, FeOk f) (hs : SlOk s) (ht : SlOk t) (h1 : oneF (opT dr) A fr s = (0, fr1)) (h2 : oneF (opT dr) A fr1 t = (0, fr2)) : ∃ fx, oneF (opT dr) A fr t = (0, fx) ∧ oneF (opT dr) A fx s = (0, fr2) := by
  obtain ⟨hc, k, f, f', hk, hf, hop, rfl⟩ := oneF_ok h1
  obtain ⟨hd, j, g, g', hj, hg, hog, rfl⟩ := oneF_ok h2
  obtain ⟨al, hal⟩ := posA hk
  have hlt := (List.getElem?_eq_some_iff.1 hf).1
  by_cases e : k = j
  · subst e
    have hg2 : g = f' := by
      have h2 : (fr.set k f')[k]? = some f' := by simp [hlt]
      rw [h2] at hg; exact (Option.some.inj hg).symm
    subst hg2
    obtain ⟨fx, e1, e2⟩ := take_swap (h.at_ k al f hal hf) (hA _ (List.mem_of_getElem? hal)) hs hc ht hd hop hog
    refine ⟨fr.set k fx, ?_, ?_⟩
    · rw [oneF_of hd hj hf, show opT dr k f t = (0, fx) from e1]
    · have h3 : (fr.set k fx)[k]? = some fx := by simp [hlt]
      rw [oneF_of hc hk h3, show opT dr k fx s = (0, g') from e2]
      simp
  · rw [List.getElem?_set_ne e] at hg
    refine ⟨fr.set j g', ?_, ?_⟩
    · rw [oneF_of hd hj hg, hog]
    · have h3 : (fr.set j g')[k]? = some f := by rw [List.getElem?_set_ne (Ne.symm e)]; exact hf
      rw [oneF_of hc hk h3, show opT dr k f s = (0, f') from hop]
      simp only [Prod.mk.injEq, true_and]
      exact List.set_comm _ _ (Ne.symm e)
theorem eachGo_cons {op : Nat → Fe → Sl → Int × Fe} {r : List Sl} (h : eachGo op A fr (s :: r) = (0, fr2)) : ∃ fr1, oneF op A fr s = (0, fr1) ∧ eachGo op A fr1 r = (0, fr2) := by
  unfold eachGo at h
  split at h
  · rename_i hn; rw [h] at hn; simp at hn
  · rename_i hn
    simp only [ne_eq, Decidable.not_not] at hn
    exact ⟨_, Prod.ext hn rfl, h⟩
theorem eachGo_of {op : Nat → Fe → Sl → Int × Fe} {r : List Sl} (h1 : oneF op A fr s = (0, fr1)) : eachGo op A fr (s :: r) = eachGo op A fr1 r := by
  conv => lhs; unfold eachGo
  rw [h1]; simp
theorem swap_all (hA : ∀ f ∈ A, FeOk f) (hs : SlOk s) : ∀ (r : List Sl) (fr fr1 fr2 : List Fe), (∀ t ∈ r, SlOk t) → PInv A fr → oneF (opT dr) A fr s = (0, fr1) → eachGo (opT dr) A fr1 r = (0, fr2) → ∃ fx, eachGo (opT dr) A fr r = (0, fx) ∧ oneF (opT dr) A fx s = (0, fr2)
  | [], fr, fr1, fr2, _, _, h1, h2 => by
    simp only [eachGo, Prod.mk.injEq, true_and] at h2
    subst h2
    exact ⟨fr, rfl, h1⟩
  | t :: r, fr, fr1, fr2, hr, hI, h1, h2 => by
    obtain ⟨f1, e1, e2⟩ := eachGo_cons h2
    have ht := hr t (List.mem_cons_self ..)
    obtain ⟨fx, x1, x2⟩ := one_swap hI hA hs ht h1 e1
    obtain ⟨fy, y1, y2⟩ := swap_all hA hs r fx f1 fr2 (fun t h => hr t (List.mem_cons_of_mem _ h)) (hI.one hA ht x1) x2 e2
    exact ⟨fy, by rw [eachGo_of x1]; exact y1, y2⟩
theorem PInv.eachT (hA : ∀ f ∈ A, FeOk f) : ∀ (r : List Sl) (fr fr1 : List Fe), (∀ t ∈ r, SlOk t) → PInv A fr → eachGo (opT dr) A fr r = (0, fr1) → PInv A fr1
  | [], fr, fr1, _, hI, h => by
    simp only [eachGo, Prod.mk.injEq, true_and] at h
    subst h; exact hI
  | t :: r, fr, fr1, hr, hI, h => by
    obtain ⟨f1, e1, e2⟩ := eachGo_cons h
    exact PInv.eachT hA r f1 fr1 (fun t h => hr t (List.mem_cons_of_mem _ h)) (hI.one hA (hr t (List.mem_cons_self ..)) e1) e2
theorem PInv.eachG (hA : ∀ f ∈ A, FeOk f) : ∀ (r : List Sl) (fr fr1 : List Fe), (∀ t ∈ r, SlOk t) → PInv A fr → eachGo (opG A) A fr r = (0, fr1) → PInv A fr1
  | [], fr, fr1, _, hI, h => by
    simp only [eachGo, Prod.mk.injEq, true_and] at h
    subst h; exact hI
  | t :: r, fr, fr1, hr, hI, h => by
    obtain ⟨f1, e1, e2⟩ := eachGo_cons h
    exact PInv.eachG hA r f1 fr1 (fun t h => hr t (List.mem_cons_of_mem _ h)) (hI.oneG hA (hr t (List.mem_cons_self ..)) e1) e2
/-- what was taken can be given back -/
theorem take_back (hA : ∀ f ∈ A, FeOk f) : ∀ (r : List Sl) (fr fr1 : List Fe), (∀ t ∈ r, SlOk t) → PInv A fr → eachGo (opT dr) A fr r = (0, fr1) → eachGo (opG A) A fr1 r = (0, fr)
  | [], fr, fr1, _, hI, h => by
    simp only [eachGo, Prod.mk.injEq, true_and] at h
    subst h; rfl
  | t :: r, fr, fr1, hr, hI, h => by
    obtain ⟨f1, e1, e2⟩ := eachGo_cons h
    have ht := hr t (List.mem_cons_self ..)
    have hr' : ∀ t ∈ r, SlOk t := fun t h => hr t (List.mem_cons_of_mem _ h)
    obtain ⟨fx, x1, x2⟩ := swap_all hA ht r fr f1 fr1 hr' hI e1 e2
    rw [eachGo_of (one_take_give (PInv.eachT hA r fr fx hr' hI x1) hA ht x2)]
    exact take_back hA r fr fx hr' hI x1
theorem eachF_ok {op : Nat → Fe → Sl → Int × Fe} {xs : List Sl} (h : (eachF op A fr xs).1 = 0) : eachGo op A fr xs = (0, (eachF op A fr xs).2) := by
  unfold eachF at h ⊢
  by_cases e : (eachGo op A fr xs).1 = 0
  · rw [if_pos e] at h ⊢; exact Prod.ext h rfl
  · rw [if_neg e] at h; exact absurd h e
theorem eachF_of {op : Nat → Fe → Sl → Int × Fe} {xs : List Sl} (h : eachGo op A fr xs = (0, fr1)) : eachF op A fr xs = (0, fr1) := by
  unfold eachF; rw [h]; simp
theorem eachF_no {op : Nat → Fe → Sl → Int × Fe} {xs : List Sl} (h : (eachF op A fr xs).1 ≠ 0) : (eachF op A fr xs).2 = fr := by
  unfold eachF at h ⊢
  by_cases e : (eachGo op A fr xs).1 = 0
  · rw [if_pos e] at h; exact absurd e h
  · rw [if_neg e]
theorem PInv.eachFT (hA : ∀ f ∈ A, FeOk f) (hI : PInv A fr) {xs : List Sl} (hr : ∀ t ∈ xs, SlOk t) : PInv A (eachF (opT dr) A fr xs).2 := by
  by_cases e : (eachF (opT dr) A fr xs).1 = 0
  · exact PInv.eachT hA xs fr _ hr hI (eachF_ok e)
  · rw [eachF_no e]; exact hI
theorem PInv.eachFG (hA : ∀ f ∈ A, FeOk f) (hI : PInv A fr) {xs : List Sl} (hr : ∀ t ∈ xs, SlOk t) : PInv A (eachF (opG A) A fr xs).2 := by
  by_cases e : (eachF (opG A) A fr xs).1 = 0
  · exact PInv.eachG hA xs fr _ hr hI (eachF_ok e)
  · rw [eachF_no e]; exact hI
theorem PInv.do (hA : ∀ f ∈ A, FeOk f) (hI : PInv A fr) (nn : Nat) {a : Ac3} (hw : a.wf) : PInv A (doP nn A (fr, dr) a).2.1 := by
  have hok : ∀ s ∈ a.slots, SlOk s := fun s hs => Sl.ok (hw.2 s hs)
  unfold doP
  split
  · exact hI.eachFT hA hok
  · split
    · exact hI.eachFG hA hok
    · split
      · exact hI
      · exact hI

theorem pop_and : ∀ (k a b : Nat), Lib.popAux k (a &&& b) ≤ Lib.popAux k b
  | 0, _, _ => Nat.le_refl _
  | k + 1, a, b => by
    have ih := pop_and k (a / 2) (b / 2)
    have h2 : (a &&& b) / 2 ^ 1 = a / 2 ^ 1 &&& b / 2 ^ 1 := Nat.and_div_two_pow
    have h3 : (a &&& b) % 2 ^ 1 = (a % 2 ^ 1) &&& (b % 2 ^ 1) := Nat.and_mod_two_pow
    simp only [Nat.reducePow] at h2 h3
    have h4 : (a % 2) &&& (b % 2) ≤ b % 2 := Nat.and_le_right
    simp only [Lib.popAux, h2]
    omega
theorem cnt_sub {a b : Int} (ha : U64 a) (hb : U64 b) (h : ∀ i, i < 64 → tb a i = true → tb b i = true) : Mk.cnt a.toNat ≤ Mk.cnt b.toNat := by
  have e : a.toNat = a.toNat &&& b.toNat := Mk.bits_ext (by have := (u_nat ha).2; omega) (Nat.lt_of_le_of_lt Nat.and_le_left (by have := (u_nat ha).2; omega)) fun i hi => by
    rw [Nat.testBit_and]
    have := h i hi
    unfold tb at this
    cases h1 : a.toNat.testBit i
    · rfl
    · rw [this h1]; rfl
  rw [e]
  simp only [Mk.cnt_eq]
  exact pop_and 64 _ _
theorem sums_le : ∀ {A fr : List Fe}, (∀ f ∈ A, FeOk f) → PInv A fr → gsum fr ≤ gsum A ∧ csum fr ≤ csum A
  | [], fr, hA, h => by
    have : fr = [] := List.length_eq_zero_iff.1 (by rw [h.len]; rfl)
    subst this; exact ⟨Int.le_refl _, Int.le_refl _⟩
  | a :: A, [], hA, h => by have := h.len; simp at this
  | a :: A, f :: fr, hA, h => by
    have hf := h.at_ 0 a f rfl rfl
    have ih := sums_le (A := A) (fr := fr) (fun f hf => hA f (List.mem_cons_of_mem _ hf)) ⟨by have := h.len; simpa using this, fun k al g h1 h2 => h.at_ (k + 1) al g (by simpa using h1) (by simpa using h2)⟩
    have hc := cnt_sub hf.u (hA a (List.mem_cons_self ..)).u hf.sub
    have := hf.c
    simp only [gsum, csum]
    omega
theorem view_le : ∀ (fr : List Fe) (dr : List Int), (∀ f ∈ fr, FeOk f) → gsum (viewF fr dr) ≤ gsum fr ∧ csum (viewF fr dr) ≤ csum fr
  | [], dr, _ => ⟨Int.le_refl _, Int.le_refl _⟩
  | f :: r, dr, h => by
    have ih := view_le r dr fun f hf => h f (List.mem_cons_of_mem _ hf)
    have hf := (h f (List.mem_cons_self ..)).2.2.1
    unfold viewF at ih ⊢
    rw [List.filter_cons]
    split
    · simp only [gsum, csum]; omega
    · simp only [gsum, csum]; omega
theorem freeSl {w : World} {b n : Nat} {fr : List Fe} {t : TypeId} (hn : n = fr.length) (h : w.heap[b]? = some (.cells (fr.flatMap Fe.cells).toArray t (0, 0))) (hm : fr.length ≤ maxLen) : Rd.SliceOf w (.slice (some ⟨b, 0, none⟩) n n) 4 Fe.cells fr := by
  subst hn
  refine Rd.SliceOf.of_block h hm (fun i hi j hj => ?_)
  rw [show (Fe.cells fr[i]).length = 4 from rfl] at hj
  rw [List.getElem?_toArray, flatMap_get (sz := 4) (cells := Fe.cells) (fun x => rfl) fr i j hi hj, List.getElem?_eq_getElem]
theorem allG_dom : ∀ {ns : List (List Dm)} {n : Nat}, (∀ ds ∈ ns, ds.length ≤ 4) → ∀ f ∈ allG n ns, f.spot.domain < 4
  | [], n, _, f, hf => by simp [allG] at hf
  | ds :: r, n, h, f, hf => by
    simp only [allG, List.mem_append] at hf
    rcases hf with hf | hf
    · have h1 := (nodeG_mem hf).2.2
      have h2 := h ds (List.mem_cons_self ..)
      omega
    · exact allG_dom (fun ds hd => h ds (List.mem_cons_of_mem _ hd)) f hf
theorem spA_ok {ns : List (List Dm)} (hok : nodesOk ns = true) (hA : allG 0 ns = A) : ∀ f ∈ A, SpOk f.spot := fun f hf => by
  subst hA
  have h1 := allG_mem hf
  have h2 := allG_dom (fun ds hd => ((nodesOk_parts hok).2.2 ds hd).2.1) f hf
  have h3 := (nodesOk_parts hok).2.1
  exact ⟨okInt_small (by omega) (by omega), okInt_small (by omega) (by omega)⟩
theorem spots_ok {ns : List (List Dm)} (hok : nodesOk ns = true) (hA : allG 0 ns = A) (h : PInv A fr) : ∀ f ∈ fr, SpOk f.spot := fun f hf => by
  obtain ⟨k, hk, rfl⟩ := List.getElem_of_mem hf
  have hkA : k < A.length := by rw [← h.len]; exact hk
  rw [(h.at_ k A[k] fr[k] (List.getElem?_eq_getElem hkA) (List.getElem?_eq_getElem hk)).spot]
  exact spA_ok hok hA _ (List.getElem_mem _)
end Go.Proofs.Ytdmbjjladkdphaa
