/-
  The given pool and the document's, side by side; the document's Act.
-/
import Derived.Test.YtdmbjjladkdphaaRefPool5
import Derived.Test.YtdmbjjladkdphaaRefPool3
import Derived.Test.YtdmbjjladkdphaaPool9
set_option linter.unusedVariables false
set_option linter.unusedSimpArgs false
namespace Go.Proofs.Ytdmbjjladkdphaa
open Go.RowKit Go.Maps
variable {W w w' : World} {p m nn BA oA cA BD base : Nat} {A fr fr2 tk : List Fe} {dr dr2 : List Int} {L L0 : List (Nat × Array Value × TypeId)} {vT : Value}

theorem PK.chgL {F : Nat → Prop} (h : PK W w p nn A fr dr L) (hf : Fr w.heap.size F w w') (hF : ∀ q, F q → W.heap.size ≤ q ∧ ∃ x ∈ L, x.1 = q) {L' : List (Nat × Array Value × TypeId)} (hL : ∀ x ∈ L', w'.heap[x.1]? = some (.cells x.2.1 x.2.2 (0, 0)) ∧ ((∃ y ∈ L, y.1 = x.1) ∨ w.heap.size ≤ x.1)) : PK W w' p nn A fr dr L' := by
  obtain ⟨T, R, c, M, F0, D, h1, h2⟩ := h.ex
  refine ⟨⟨T, R, c, M, F0, D, h1.frame fun q hq => hf.block q (h1.lt hq) fun e => ?_, fun q hq => ⟨(h2 q hq).1, fun x hx => ?_⟩⟩, ?_, fun x hx => (hL x hx).1⟩
  · obtain ⟨_, x, hx, hxe⟩ := hF q e
    exact (h2 q hq).2 x hx hxe
  · rcases (hL x hx).2 with ⟨y, hy, e⟩ | e
    · rw [← e]; exact (h2 q hq).2 y hy
    · have := h1.lt hq; omega
  · exact h.below.trans ((hf.mono h.below.size fun _ _ e => e).below (Nat.le_refl _) fun q hq => (hF q hq).1)
theorem RpAt.list (h : RpAt w m A tk nn dr BA oA cA BD base vT) : ∃ Lr : List (Nat × Array Value × TypeId), (∀ x ∈ Lr, w.heap[x.1]? = some (.cells x.2.1 x.2.2 (0, 0)) ∧ RF m BA BD vT x.1) ∧ ∀ q, RF m BA BD vT q → ∃ x ∈ Lr, x.1 = q := by
  obtain ⟨cs, t, h1, _⟩ := h.all
  have key : ∀ x ∈ [(m, #[.slice (some ⟨BA, oA, none⟩) A.length cA, vT, .slice (some ⟨BD, 0, none⟩) nn nn], 62), (BA, cs, t), (BD, DB nn dr, 4)], w.heap[x.1]? = some (.cells x.2.1 x.2.2 (0, 0)) ∧ RF m BA BD vT x.1 := by
    intro x hx
    simp only [List.mem_cons, List.not_mem_nil, or_false] at hx
    rcases hx with rfl | rfl | rfl
    · exact ⟨h.head, .inl rfl⟩
    · exact ⟨h1, .inr (.inl rfl)⟩
    · exact ⟨h.drn, .inr (.inr (.inl rfl))⟩
  rcases h.own.2 with ⟨e, _⟩ | ⟨g, cap, cur, hv, hg, hh, _⟩
  · refine ⟨_, key, fun q hq => ?_⟩
    rcases hq with rfl | rfl | rfl | hq
    · exact ⟨_, List.mem_cons_self .., rfl⟩
    · exact ⟨_, List.mem_cons_of_mem _ (List.mem_cons_self ..), rfl⟩
    · exact ⟨_, List.mem_cons_of_mem _ (List.mem_cons_of_mem _ (List.mem_cons_self ..)), rfl⟩
    · rw [e] at hq; simp [Value.ownBlock] at hq
  · refine ⟨(g, cur, 45) :: [(m, #[.slice (some ⟨BA, oA, none⟩) A.length cA, vT, .slice (some ⟨BD, 0, none⟩) nn nn], 62), (BA, cs, t), (BD, DB nn dr, 4)], fun x hx => ?_, fun q hq => ?_⟩
    · rcases List.mem_cons.1 hx with rfl | hx
      · exact ⟨hh, .inr (.inr (.inr (by rw [hv]; rfl)))⟩
      · exact key x hx
    · rcases hq with rfl | rfl | rfl | hq
      · exact ⟨_, List.mem_cons_of_mem _ (List.mem_cons_self ..), rfl⟩
      · exact ⟨_, List.mem_cons_of_mem _ (List.mem_cons_of_mem _ (List.mem_cons_self ..)), rfl⟩
      · exact ⟨_, List.mem_cons_of_mem _ (List.mem_cons_of_mem _ (List.mem_cons_of_mem _ (List.mem_cons_self ..))), rfl⟩
      · rw [hv] at hq; simp only [Value.ownBlock, Option.some.injEq] at hq
        exact ⟨_, List.mem_cons_self .., hq⟩

/-- both pools, and a law's blocks L0 -/
def GP (W w : World) (p m nn : Nat) (A fr fr2 : List Fe) (dr dr2 : List Int) (L0 : List (Nat × Array Value × TypeId)) : Prop :=
  ∃ (Lr : List (Nat × Array Value × TypeId)) (BA oA cA BD base : Nat) (vT : Value), PK W w p nn A fr dr (Lr ++ L0) ∧ RpAt w m A (tkL A fr2) nn dr2 BA oA cA BD base vT ∧ ∀ q, RF m BA BD vT q → (W.heap.size ≤ q ∧ ∃ x ∈ Lr, x.1 = q) ∧ ∀ x ∈ L0, x.1 ≠ q
theorem GP.later (h : GP W w p m nn A fr fr2 dr dr2 L0) (hb : Below w.heap.size w w') : GP W w' p m nn A fr fr2 dr dr2 L0 := by
  obtain ⟨Lr, BA, oA, cA, BD, base, vT, h1, h2, h3⟩ := h
  exact ⟨Lr, BA, oA, cA, BD, base, vT, h1.later hb, h2.later hb, h3⟩
theorem GP.below (h : GP W w p m nn A fr fr2 dr dr2 L0) : Below W.heap.size W w := by
  obtain ⟨Lr, BA, oA, cA, BD, base, vT, h1, h2, h3⟩ := h; exact h1.below
theorem GP.kept (h : GP W w p m nn A fr fr2 dr dr2 L0) : Kept W w L0 := by
  obtain ⟨Lr, BA, oA, cA, BD, base, vT, h1, h2, h3⟩ := h; exact h1.kept.weaken (by intro x hx; simp [hx])
theorem GP.ref {fr3 : List Fe} {dr3 : List Int} {Lr : List (Nat × Array Value × TypeId)} {BA' oA' cA' BD' base' : Nat} {vT' : Value} {F : Nat → Prop} (h1 : PK W w p nn A fr dr (Lr ++ L0)) (h3 : ∀ q, RF m BA BD vT q → (W.heap.size ≤ q ∧ ∃ x ∈ Lr, x.1 = q) ∧ ∀ x ∈ L0, x.1 ≠ q)
    (hR : RpAt w' m A (tkL A fr3) nn dr3 BA' oA' cA' BD' base' vT') (hf : Fr w.heap.size F w w') (hF : ∀ q, F q → RF m BA BD vT q) (hn : ∀ q, RF m BA' BD' vT' q → RF m BA BD vT q ∨ w.heap.size ≤ q) : GP W w' p m nn A fr fr3 dr dr3 L0 := by
  obtain ⟨Lr', g1, g2⟩ := hR.list
  have hs := h1.below.size
  refine ⟨Lr', BA', oA', cA', BD', base', vT', h1.chgL hf (fun q hq => ⟨(h3 q (hF q hq)).1.1, ?_⟩) (fun x hx => ?_), hR, fun q hq => ⟨⟨?_, g2 q hq⟩, fun x hx => ?_⟩⟩
  · obtain ⟨x, hx, e⟩ := (h3 q (hF q hq)).1.2
    exact ⟨x, List.mem_append_left _ hx, e⟩
  · rcases List.mem_append.1 hx with hx | hx
    · refine ⟨(g1 x hx).1, ?_⟩
      rcases hn _ (g1 x hx).2 with e | e
      · obtain ⟨y, hy, e2⟩ := (h3 _ e).1.2
        exact .inl ⟨y, List.mem_append_left _ hy, e2⟩
      · exact .inr e
    · have hb := h1.kept.blk x (List.mem_append_right _ hx)
      exact ⟨(hf.block _ (lt_of_block hb) (fun e => (h3 _ (hF _ e)).2 x hx rfl)).trans hb, .inl ⟨x, List.mem_append_right _ hx, rfl⟩⟩
  · rcases hn q hq with e | e
    · exact (h3 q e).1.1
    · omega
  · rcases hn q hq with e | e
    · exact (h3 q e).2 x hx
    · have := lt_of_block (h1.kept.blk x (List.mem_append_right _ hx)); omega
theorem tkF_self {al : Fe} (h : FeOk al) : tkF al al = emptyF al := by
  refine Fe.ext4 rfl ?_ ?_
  · exact (bNot_zero h.u h.u).2 fun i _ h => h
  · show al.cpus - al.cpus = 0
    omega
theorem tkL_self : ∀ {A : List Fe}, (∀ f ∈ A, FeOk f) → tkL A A = A.map emptyF
  | [], _ => rfl
  | a :: r, h => by
    have ih := tkL_self (A := r) fun f hf => h f (List.mem_cons_of_mem _ hf)
    unfold tkL at ih ⊢
    rw [List.zipWith_cons_cons, ih, tkF_self (h a (List.mem_cons_self ..))]; rfl
theorem GP.start (h : PK W w p nn A fr dr L0) (hA : ∀ f ∈ A, FeOk f) (hR : RpAt w' m A (A.map emptyF) nn [] BA oA cA BD base vT) (hn : ∀ q, RF m BA BD vT q → w.heap.size ≤ q) (hb : Below w.heap.size w w') : GP W w' p m nn A fr A dr [] L0 := by
  obtain ⟨Lr', g1, g2⟩ := hR.list
  have hs := h.below.size
  refine ⟨Lr', BA, oA, cA, BD, base, vT, h.chgL (F := fun _ => False) (Fr.of_below hb _) (fun q hq => hq.elim) (fun x hx => ?_), by rw [tkL_self hA]; exact hR, fun q hq => ⟨⟨Nat.le_trans hs (hn q hq), g2 q hq⟩, fun x hx e => ?_⟩⟩
  · rcases List.mem_append.1 hx with hx | hx
    · exact ⟨(g1 x hx).1, .inr (hn _ (g1 x hx).2)⟩
    · exact ⟨(h.kept.later hb).blk x hx, .inl ⟨x, hx, rfl⟩⟩
  · have h1 := lt_of_block (h.kept.blk x hx); have h2 := hn q hq; omega
theorem GP.do (h : GP W w p m nn A fr fr2 dr dr2 L0) (a : Ac3) (hw : a.wf) (u : Value) (s : Rd.SliceOf W u 4 Sl.cells a.slots) (hl : A.length ≤ 1000000) :
    Calls Try.prog 13 #[.pointer (some ⟨p, 0, none⟩), .agg #[.int .i64 a.kind, .int .i64 a.node, u]] w fun e w' => e = .returned (.int .i64 (doP nn A (fr, dr) a).1) ∧ GP W w' p m nn A (doP nn A (fr, dr) a).2.1 fr2 (doP nn A (fr, dr) a).2.2 dr2 L0 := by
  obtain ⟨Lr, BA, oA, cA, BD, base, vT, h1, h2, h3⟩ := h
  refine (h1.do a hw u s hl).mono fun e w' hp => ?_
  unfold DoP at hp
  refine ⟨hp.1, Lr, BA, oA, cA, BD, base, vT, hp.2, h2.frame fun q hq => ?_, h3⟩
  obtain ⟨x, hx, rfl⟩ := (h3 q hq).1.2
  exact (hp.2.kept.blk x (List.mem_append_left _ hx)).trans (h1.kept.blk x (List.mem_append_left _ hx)).symm
theorem GP.free (h : GP W w p m nn A fr fr2 dr dr2 L0) (hl : A.length ≤ 1000000) :
    Calls Try.prog 15 #[.pointer (some ⟨p, 0, none⟩)] w fun e w' => ∃ v, e = .returned v ∧ Rd.SliceOf w' v 4 Fe.cells fr ∧ Below w.heap.size w w' := by
  obtain ⟨Lr, BA, oA, cA, BD, base, vT, h1, h2, h3⟩ := h
  refine (h1.free hl).mono fun e w' ⟨he, hP, hb⟩ => ⟨_, he, freeSl h1.len.symm (hP.kept.blk _ (List.mem_cons_self ..)) (by rw [h1.len]; unfold maxLen; omega), hb⟩
theorem GP.view (h : GP W w p m nn A fr fr2 dr dr2 L0) (hl : A.length ≤ 1000000) (hsp : ∀ f ∈ fr, SpOk f.spot) :
    Calls Try.prog 18 #[.pointer (some ⟨p, 0, none⟩)] w fun e w' => ∃ v, e = .returned v ∧ Rd.SliceOf w' v 4 Fe.cells (viewF fr dr) ∧ Below w.heap.size w w' := by
  obtain ⟨Lr, BA, oA, cA, BD, base, vT, h1, h2, h3⟩ := h
  exact (h1.view hl hsp).mono fun e w' ⟨v, he, hm, hb⟩ => ⟨v, he, hm.1, hb⟩
theorem GP.out (h : GP W w p m nn A fr fr2 dr dr2 L0) (hl : A.length ≤ 1000) (hokA : ∀ f ∈ A, FeOk f) (hok : ∀ f ∈ fr, FeOk f) :
    Calls Try.prog 22 #[.pointer (some ⟨p, 0, none⟩)] w fun e w' => e = .returned (.agg #[.int .i64 (gsum A - gsum fr), .int .i64 (csum A - csum fr)]) ∧ Below w.heap.size w w' := by
  obtain ⟨Lr, BA, oA, cA, BD, base, vT, h1, h2, h3⟩ := h
  exact h1.out hl hokA hok
theorem GP.drained (h : GP W w p m nn A fr fr2 dr dr2 L0) (n : Int) (hn : okInt n) : Calls Try.prog 20 #[.pointer (some ⟨p, 0, none⟩), .int .i64 n] w fun e w' => e = .returned (.bool (decide (n ∈ dr))) ∧ w' = w := by
  obtain ⟨Lr, BA, oA, cA, BD, base, vT, h1, h2, h3⟩ := h
  exact h1.drained n hn
theorem GP.rfree (h : GP W w p m nn A fr fr2 dr dr2 L0) (hI : PInv A fr2) (hA : ∀ f ∈ A, FeOk f) (hl : A.length ≤ 1000000) :
    Calls Try.prog 26 #[.pointer (some ⟨m, 0, none⟩)] w fun e w' => ∃ v, e = .returned v ∧ Rd.SliceOf w' v 4 Fe.cells fr2 ∧ Below w.heap.size w w' := by
  obtain ⟨Lr, BA, oA, cA, BD, base, vT, h1, h2, h3⟩ := h
  refine (rfree_any h2 hl).mono fun e w' ⟨v, he, hm, hb⟩ => ⟨v, he, ?_, hb⟩
  have := hm.1
  rwa [freeL_eq hI hA] at this
theorem GP.rview (h : GP W w p m nn A fr fr2 dr dr2 L0) (hI : PInv A fr2) (hA : ∀ f ∈ A, FeOk f) (hl : A.length ≤ 1000000) (hN : ∀ f ∈ A, 0 ≤ f.spot.node ∧ f.spot.node < nn) (hnn : nn ≤ 1000000) :
    Calls Try.prog 27 #[.pointer (some ⟨m, 0, none⟩)] w fun e w' => ∃ v, e = .returned v ∧ Rd.SliceOf w' v 4 Fe.cells (viewF fr2 dr2) ∧ Below w.heap.size w w' := by
  obtain ⟨Lr, BA, oA, cA, BD, base, vT, h1, h2, h3⟩ := h
  refine (rview_any h2 hl hN hnn).mono fun e w' ⟨v, he, hm, hb⟩ => ⟨v, he, ?_, hb⟩
  have := hm.1
  rwa [freeL_eq hI hA] at this
theorem tk_sums : ∀ {A fr : List Fe}, (∀ f ∈ A, FeOk f) → PInv A fr → gsum (tkL A fr) = gsum A - gsum fr ∧ csum (tkL A fr) = csum A - csum fr
  | [], fr, hA, h => by
    have : fr = [] := List.length_eq_zero_iff.1 (by rw [h.len]; rfl)
    subst this; exact ⟨rfl, rfl⟩
  | a :: A, [], hA, h => by have := h.len; simp at this
  | a :: A, f :: fr, hA, h => by
    have hf := h.at_ 0 a f rfl rfl
    have ha := hA a (List.mem_cons_self ..)
    have ih := tk_sums (A := A) (fr := fr) (fun f hf => hA f (List.mem_cons_of_mem _ hf)) ⟨by have := h.len; simpa using this, fun k al g h1 h2 => h.at_ (k + 1) al g (by simpa using h1) (by simpa using h2)⟩
    have hc : Mk.cnt (tkF a f).mask.toNat + Mk.cnt f.mask.toNat = Mk.cnt a.mask.toNat := by
      have h1 := Mk.cnt_two (tkF a f).mask.toNat f.mask.toNat
      have hT := tk_u hf ha
      have e1 : (tkF a f).mask.toNat ||| f.mask.toNat = a.mask.toNat := by
        have h2 := bOr_eq hT hf.u
        have h3 : Go.bits .or .u64 (tkF a f).mask f.mask = a.mask := u_ext (bOr_u hT hf.u) ha.u fun i hi => by
          rw [bOr_tb hT hf.u hi, tk_tb hf ha hi]
          have := hf.sub i hi
          cases e1 : tb a.mask i <;> cases e2 : tb f.mask i <;> simp_all
        rw [h3] at h2
        have h4 := (u_nat ha.u).1
        omega
      have e2 : (tkF a f).mask.toNat &&& f.mask.toNat = 0 := by
        have h2 := (bAnd_zero hT hf.u).2 fun i hi hb => by
          rw [tk_tb hf ha hi] at hb
          simp at hb; exact hb.2
        rw [bAnd_eq hT hf.u] at h2
        omega
      have h0 : Mk.cnt 0 = 0 := by rw [Mk.cnt_eq]; decide +kernel
      rw [e1, e2, h0] at h1
      omega
    have e3 : tkL (a :: A) (f :: fr) = tkF a f :: tkL A fr := rfl
    have e4 : (tkF a f).cpus = a.cpus - f.cpus := rfl
    rw [e3]
    simp only [gsum, csum, e4]
    omega
theorem tk_ok (h : PInv A fr) (hA : ∀ f ∈ A, FeOk f) : ∀ t ∈ tkL A fr, FeOk t := fun t ht => by
  obtain ⟨k, hk, rfl⟩ := List.getElem_of_mem ht
  have hkA : k < A.length := by rw [← tkL_len h.len]; exact hk
  have hkf : k < fr.length := by rw [h.len]; exact hkA
  have h1 := tkL_get (A := A) (fr := fr) (List.getElem?_eq_getElem hkA) (List.getElem?_eq_getElem hkf)
  have hF := h.at_ k _ _ (List.getElem?_eq_getElem hkA) (List.getElem?_eq_getElem hkf)
  have hok := hA _ (List.getElem_mem hkA)
  rw [(List.getElem?_eq_some_iff.1 h1).2]
  have hu := tk_u hF hok
  have hc := hF.c; have hc2 := hok.2.2.2
  have e4 : (tkF A[k] fr[k]).cpus = A[k].cpus - fr[k].cpus := rfl
  exact ⟨hu.1, hu.2, by rw [e4]; omega, by rw [e4]; omega⟩
theorem own_slice {v : Value} {B : Nat} {l : List Fe} (h : w.ownsRow B 45 4 v l.length (l.flatMap Fe.cells)) : Rd.SliceOf w v 4 Fe.cells l := by
  obtain ⟨_, ⟨rfl, h1⟩ | ⟨g, cT, cur, rfl, hg, hh, hnc, hmm, hsz, htk⟩⟩ := h
  · exact .inl ⟨rfl, List.length_eq_zero_iff.1 h1⟩
  · refine .inr ⟨_, cT, rfl, hnc, hmm, fun i hi j hj => ?_⟩
    rw [show (Fe.cells l[i]).length = 4 from rfl] at hj
    have hadd : ∀ n, (⟨g, 0, none⟩ : Addr).add n = ⟨g, n, none⟩ := fun n => by
      unfold Addr.add
      split
      · rename_i e'; rw [e']
      · simp
    have h1 := flatMap_get (sz := 4) (cells := Fe.cells) (fun x => rfl) l i j hi hj
    rw [← htk, List.getElem?_take, if_pos (by omega), Array.getElem?_toList] at h1
    rw [hadd, cell_of_block hh, h1]
    exact List.getElem?_eq_getElem _
/-- what the document's pool reads as -/
theorem GP.reads (h : GP W w p m nn A fr fr2 dr dr2 L0) : ∃ (BD : Nat) (vT : Value), m < w.heap.size ∧ w.cell? ⟨m, 1, none⟩ = some vT ∧ Rd.SliceOf w vT 4 Fe.cells (tkL A fr2) ∧ w.cell? ⟨m, 2, none⟩ = some (.slice (some ⟨BD, 0, none⟩) nn nn) ∧ BD < w.heap.size ∧ ∀ j, j < nn → w.cell? ⟨BD, j, none⟩ = some (.bool (decide ((j : Int) ∈ dr2))) := by
  obtain ⟨Lr, BA, oA, cA, BD, base, vT, h1, h2, h3⟩ := h
  refine ⟨BD, vT, h2.lt (.inl rfl), cell_of_block h2.head 1, own_slice h2.own, cell_of_block h2.head 2, h2.lt (.inr (.inr (.inl rfl))), fun j hj => ?_⟩
  rw [cell_of_block h2.drn, DB_at dr2 hj]
/-- drained nodes are nodes -/
def DrI (nn : Nat) (dr : List Int) : Prop := ∀ n ∈ dr, 0 ≤ n ∧ n < nn
theorem DrI.do (h : DrI nn dr) (a : Ac3) : DrI nn (doP nn A (fr, dr) a).2.2 := by
  unfold doP
  split
  · exact h
  · split
    · exact h
    · split
      · unfold drainF
        split
        · exact h
        · rename_i hr
          simp only [Decidable.not_not] at hr
          split
          · exact h
          · intro n hn
            rcases List.mem_append.1 hn with hn | hn
            · exact h n hn
            · rw [List.mem_singleton] at hn; rw [hn]; exact hr
      · unfold undrainF
        split
        · exact h
        · split
          · exact h
          · exact fun n hn => h n (List.mem_filter.1 hn).1

theorem GP.rdo (h : GP W w p m nn A fr fr2 dr dr2 L0) (hI : PInv A fr2) (hA : ∀ f ∈ A, FeOk f) (hN : ∀ f ∈ A, 0 ≤ f.spot.node ∧ f.spot.node < nn) (hnn : nn ≤ 1000000) (hpos : 0 < A.length) (give : Bool) {xs : List Sl} (hok : ∀ s ∈ xs, SlOk s) {u : Value} (s : Rd.SliceOf W u 4 Sl.cells xs) (hl : A.length ≤ 1000000) :
    Calls Try.prog 39 #[.pointer (some ⟨m, 0, none⟩), .bool give, u] w fun e w' => e = .returned (.int .i64 (eachF (opB give dr2 A) A fr2 xs).1) ∧ GP W w' p m nn A fr (eachF (opB give dr2 A) A fr2 xs).2 dr dr2 L0 := by
  obtain ⟨Lr, BA, oA, cA, BD, base, vT, h1, h2, h3⟩ := h
  have hs := h1.below.size
  refine (rdo_any h2 give u xs (SlRow.of (s.later h1.below)) (fun q hq hn => ?_) hok hA (tk_us hI hA) hN hl hnn hpos).mono fun e w' hp => ?_
  · rcases SlRow.blk s with e | e
    · exact absurd e hn
    · have h4 := e q hq
      exact ⟨by omega, fun e2 => by have := (h3 q (.inr (.inr (.inr e2)))).1.1; omega⟩
  · unfold RDo at hp
    rw [eachF_eq give hA hI hok] at hp
    obtain ⟨he, base', vT', hR, hf, hv⟩ := hp
    refine ⟨he, GP.ref h1 h3 hR hf (fun q hq => hq.elim .inl fun e => .inr (.inr (.inr e))) fun q hq => ?_⟩
    rcases hq with hq | hq | hq | hq
    · exact .inl (.inl hq)
    · exact .inl (.inr (.inl hq))
    · exact .inl (.inr (.inr (.inl hq)))
    · exact (hv q hq).imp (fun e => .inr (.inr (.inr e))) id
theorem GP.rturn (h : GP W w p m nn A fr fr2 dr dr2 L0) (n : Int) (to : Bool) (hnn : nn ≤ 1000000) :
    Calls Try.prog 40 #[.pointer (some ⟨m, 0, none⟩), .int .i64 n, .bool to] w fun e w' => e = .returned (.int .i64 (turnT to nn dr2 n).1) ∧ GP W w' p m nn A fr fr2 dr (turnT to nn dr2 n).2 L0 := by
  obtain ⟨Lr, BA, oA, cA, BD, base, vT, h1, h2, h3⟩ := h
  refine (rturn_any h2 n to hnn).mono fun e w' hp => ⟨hp.1, GP.ref h1 h3 hp.2.1 hp.2.2 (fun q hq => .inr (.inr (.inl hq))) fun q hq => .inl hq⟩
set_option maxHeartbeats 1000000 in
theorem GP.act (h : GP W w p m nn A fr fr2 dr dr2 L0) (hI : PInv A fr2) (hA : ∀ f ∈ A, FeOk f) (hN : ∀ f ∈ A, 0 ≤ f.spot.node ∧ f.spot.node < nn) (hnn : nn ≤ 1000000) (hpos : 0 < A.length) (a : Ac3) (hw : a.wf) (u : Value) (s : Rd.SliceOf W u 4 Sl.cells a.slots) (hl : A.length ≤ 1000000) :
    Calls Try.prog 25 #[.pointer (some ⟨m, 0, none⟩), .agg #[.int .i64 a.kind, .int .i64 a.node, u]] w (fun e w' => e = .returned (.int .i64 (doP nn A (fr2, dr2) a).1) ∧ GP W w' p m nn A fr (doP nn A (fr2, dr2) a).2.1 dr (doP nn A (fr2, dr2) a).2.2 L0) := by
  have hb := (Below.refl w.heap.size w).alloc (Nat.le_refl _) (.cells #[.int .i64 a.kind, .int .i64 a.node, u] 36)
  have hok : ∀ s ∈ a.slots, SlOk s := fun s hs => Sl.ok (hw.2 s hs)
  have h1 := h.later hb
  have HT := Lib.hid (h1.rdo hI hA hN hnn hpos false hok s hl)
  have HG := Lib.hid (h1.rdo hI hA hN hnn hpos true hok s hl)
  have HDR := Lib.hid (h1.rturn a.node true hnn)
  have HUN := Lib.hid (h1.rturn a.node false hnn)
  obtain ⟨au, capu, rfl⟩ := s.form
  obtain ⟨q, hm⟩ : ∃ q, a.slots.length = q := ⟨_, rfl⟩
  rw [hm] at HT HG HDR HUN ⊢
  clear h h1 hok s hw hm hb hI hA hN hnn hpos hl
  by_cases h0 : a.kind = 0
  · have HD := Lib.hid (show doP nn A (fr2, dr2) a = ((eachF (opT dr2) A fr2 a.slots).1, (eachF (opT dr2) A fr2 a.slots).2, dr2) by unfold doP; rw [if_pos h0])
    rw [HD.out]
    have hk0 : (a.kind == 0) = true := by simpa using h0
    clear h0
    go_enter Try.func25, Try.ntmps25
    go_wp2_with fail
    refine HT.out.mono ?_
    rintro e w1 ⟨rfl, hp⟩
    have HP := Lib.hid hp
    clear hp
    go_wp2
    go_ret
    exact ⟨rfl, HP.out⟩
  by_cases h1 : a.kind = 1
  · have HD := Lib.hid (show doP nn A (fr2, dr2) a = ((eachF (opG A) A fr2 a.slots).1, (eachF (opG A) A fr2 a.slots).2, dr2) by unfold doP; rw [if_neg h0, if_pos h1])
    rw [HD.out]
    have hk0 : (a.kind == 0) = false := by simpa using h0
    have hk1 : (a.kind == 1) = true := by simpa using h1
    clear h0 h1
    go_enter Try.func25, Try.ntmps25
    go_wp2_with fail
    refine HG.out.mono ?_
    rintro e w1 ⟨rfl, hp⟩
    have HP := Lib.hid hp
    clear hp
    go_wp2
    go_ret
    exact ⟨rfl, HP.out⟩
  by_cases h2 : a.kind = 2
  · have HD := Lib.hid (show doP nn A (fr2, dr2) a = ((drainF nn dr2 a.node).1, fr2, (drainF nn dr2 a.node).2) by unfold doP; rw [if_neg h0, if_neg h1, if_pos h2])
    rw [HD.out]
    have hk0 : (a.kind == 0) = false := by simpa using h0
    have hk1 : (a.kind == 1) = false := by simpa using h1
    have hk2 : (a.kind == 2) = true := by simpa using h2
    clear h0 h1 h2
    go_enter Try.func25, Try.ntmps25
    go_wp2_with fail
    refine HDR.out.mono ?_
    rintro e w1 ⟨rfl, hp⟩
    have HP := Lib.hid hp
    clear hp
    go_wp2
    go_ret
    exact ⟨rfl, HP.out⟩
  · have HD := Lib.hid (show doP nn A (fr2, dr2) a = ((undrainF nn dr2 a.node).1, fr2, (undrainF nn dr2 a.node).2) by unfold doP; rw [if_neg h0, if_neg h1, if_neg h2])
    rw [HD.out]
    have hk0 : (a.kind == 0) = false := by simpa using h0
    have hk1 : (a.kind == 1) = false := by simpa using h1
    have hk2 : (a.kind == 2) = false := by simpa using h2
    clear h0 h1 h2
    go_enter Try.func25, Try.ntmps25
    go_wp2_with fail
    refine HUN.out.mono ?_
    rintro e w1 ⟨rfl, hp⟩
    have HP := Lib.hid hp
    clear hp
    go_wp2
    go_ret
    exact ⟨rfl, HP.out⟩
end Go.Proofs.Ytdmbjjladkdphaa
