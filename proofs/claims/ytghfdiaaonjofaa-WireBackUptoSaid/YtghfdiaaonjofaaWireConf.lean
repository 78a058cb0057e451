/-
  wire: Config.
-/
import Derived.Test.YtghfdiaaonjofaaWireMany4
set_option linter.unusedVariables false
set_option linter.unusedSimpArgs false
namespace Go.Proofs.Ytghfdiaaonjofaa
open Go.RowKit
theorem results_ctt {P : Program} {fn : Func} {p a b : Tmp} {ty : TypeId} (h : fn.results = #[.cell p ty, .tmp a, .tmp b]) (tmps : Array Value) (w : World) (g : Nat) (t : TypeId) (cs : Array Value) (fr : Nat × Nat) (d : TypeDesc)
    (hu : P.underlying ty = some d) (hd : (match d with | .struct _ | .array _ _ => true | _ => false) = true)
    (hp : tmps.getD p undef = .pointer (some ⟨g, 0, none⟩)) (hg : w.heap[g]? = some (.cells cs t fr)) (hi : (P.info? ty).map (·.size) = some cs.size) :
    (results fn tmps).run P w = .ok (.tuple #[.agg cs, tmps.getD a undef, tmps.getD b undef]) w := by
  have hp' : tmps[p]?.getD undef = .pointer (some ⟨g, 0, none⟩) := by simpa using hp
  simp only [results, h]
  simp [Sem.run_bind, Result.andThen, hp', asAddr, run_loadVar_row w g t ty cs fr d hg hu hd hi]
/-- nodes, and queues, that lie at B or above -/
def NQ (w : World) (B : Nat) (nv : Value) (dss : List (List Dm)) : Prop := ∃ lo vs, B ≤ lo ∧ w.ownsRow lo 79 1 nv dss.length vs ∧ NRow w lo nv vs dss
def QQ (w : World) (B : Nat) (qv : Value) (qs : List Qu) : Prop := ∃ lo, B ≤ lo ∧ w.ownsRow lo 92 3 qv qs.length (qs.flatMap Qu.cells)
theorem NQ.fr {w w' : World} {B : Nat} {nv : Value} {dss : List (List Dm)} {F : Nat → Prop} (h : NQ w B nv dss) (hf : Fr w.heap.size F w w') (hF : ∀ g, F g → g < B) : NQ w' B nv dss := by
  obtain ⟨lo, vs, h1, h2, h3⟩ := h
  exact ⟨lo, vs, h1, ownsRow_fr h2 hf (fun g hg => ⟨(h2.lt g hg).2, fun e => by have := hF g e; have := (h2.lt g hg).1; omega⟩), h3.fr hf (fun g hg e => by exfalso; have := hF g e; omega)⟩
theorem QQ.fr {w w' : World} {B : Nat} {qv : Value} {qs : List Qu} {F : Nat → Prop} (h : QQ w B qv qs) (hf : Fr w.heap.size F w w') (hF : ∀ g, F g → g < B) : QQ w' B qv qs := by
  obtain ⟨lo, h1, h2⟩ := h
  exact ⟨lo, h1, ownsRow_fr h2 hf (fun g hg => ⟨(h2.lt g hg).2, fun e => by have := hF g e; have := (h2.lt g hg).1; omega⟩)⟩
theorem NQ.nodes {w : World} {B : Nat} {nv : Value} {dss : List (List Dm)} (h : NQ w B nv dss) : NodesOf w nv dss := by
  obtain ⟨lo, vs, h1, h2, h3⟩ := h
  exact h3.nodes h2
theorem QQ.queues {w : World} {B : Nat} {qv : Value} {qs : List Qu} (h : QQ w B qv qs) : Rd.SliceOf w qv 3 Qu.cells qs := by
  obtain ⟨lo, h1, h2⟩ := h
  exact (sliceOf_own (cells := Qu.cells) (fun _ => rfl) (by decide) h2).1
/-- both ends of a reading in one form -/
theorem ManyN.uni {R B : Nat} {s : ByteArray} {res : Option (List (List Dm) × Nat)} {w w' : World} {e : Ending} (h : ManyN R s res w e w') (hB : B ≤ w.heap.size) :
    ∃ av k cv, e = .returned (.slice av k cv) ∧ Fr w.heap.size (fun q => q = R) w w' ∧ ∃ (a2 : Nat) (sh : Bool), w'.heap[R]? = some (.cells #[.string s, .int .i64 (a2 : Nat), .bool sh] 65 (0, 0)) ∧
      (sh = false → ∃ xs, res = some (xs, a2) ∧ NQ w' B (.slice av k cv) xs) ∧ (sh = true → res = none) := by
  obtain ⟨av, k, cv, he, hf, h⟩ := h
  refine ⟨av, k, cv, he, hf, ?_⟩
  cases res with
  | none =>
    obtain ⟨a2, h⟩ := h
    exact ⟨a2, true, h, fun h => by simp at h, fun _ => rfl⟩
  | some p =>
    obtain ⟨h1, vs, h2, h3⟩ := h
    exact ⟨p.2, false, h1, fun _ => ⟨p.1, rfl, _, vs, hB, h2, h3⟩, fun h => by simp at h⟩
theorem ManyP.uni {R B : Nat} {s : ByteArray} {res : Option (List Qu × Nat)} {w w' : World} {e : Ending} (h : ManyP R s 92 3 Qu.cells res w e w') (hB : B ≤ w.heap.size) :
    ∃ av k cv, e = .returned (.slice av k cv) ∧ Fr w.heap.size (fun q => q = R) w w' ∧ ∃ (a2 : Nat) (sh : Bool), w'.heap[R]? = some (.cells #[.string s, .int .i64 (a2 : Nat), .bool sh] 65 (0, 0)) ∧
      (sh = false → ∃ xs, res = some (xs, a2) ∧ QQ w' B (.slice av k cv) xs) ∧ (sh = true → res = none) := by
  obtain ⟨av, k, cv, he, hf, h⟩ := h
  refine ⟨av, k, cv, he, hf, ?_⟩
  cases res with
  | none =>
    obtain ⟨a2, h⟩ := h
    exact ⟨a2, true, h, fun h => by simp at h, fun _ => rfl⟩
  | some p =>
    obtain ⟨h1, h2⟩ := h
    exact ⟨p.2, false, h1, fun _ => ⟨p.1, rfl, _, hB, h2⟩, fun h => by simp at h⟩
theorem get4_any (R C lo : Nat) (s : ByteArray) (a : Nat) (sh : Bool) (nv qv v : Value) (w : World) (hR : w.heap[R]? = some (.cells #[.string s, .int .i64 (a : Nat), .bool sh] 65 (0, 0))) (hC : w.heap[C]? = some (.cells #[nv, qv, .int .i64 0, .int .i64 0, .int .i64 0, .int .i64 0] 43 (0, 0)))
    (hf : FieldRow w lo C v [(2, 1), (3, 1), (4, 2), (5, 2)]) (hRC : R ≠ C) (hlo : R < lo ∧ C < lo) (hs : s.size ≤ 100000) (ha : sh = true ∨ a ≤ s.size) :
    Calls Try.prog 21 #[.pointer (some ⟨R, 0, none⟩), v] w fun e w' => e = .returned (.tuple #[]) ∧ ∃ (a1 : Nat) (sh1 : Bool), w'.heap[R]? = some (.cells #[.string s, .int .i64 (a1 : Nat), .bool sh1] 65 (0, 0)) ∧
      Fr w.heap.size (fun q => q = R ∨ q = C) w w' ∧ (sh1 = true → sh = true ∨ s.size < a + 6) ∧
      (sh1 = false → sh = false ∧ a + 6 ≤ s.size ∧ a1 = a + 6 ∧ w'.heap[C]? = some (.cells #[nv, qv, .int .i64 (numF s a 1), .int .i64 (numF s (a + 1) 1), .int .i64 (numF s (a + 2) 2), .int .i64 (numF s (a + 4) 2)] 43 (0, 0))) := by
  cases sh with
  | true =>
    refine (get_stop R C lo s a true 2 1 [(3, 1), (4, 2), (5, 2)] v w hR hf hlo.1 hs (.inl rfl) (by simp)).mono ?_
    rintro e w' ⟨rfl, h1, h2⟩
    exact ⟨rfl, a, true, h2, h1.mono (Nat.le_refl _) fun _ _ e => .inl e, fun _ => .inl rfl, fun h => by simp at h⟩
  | false =>
    have ha' : a ≤ s.size := by simpa using ha
    refine (get_any R C lo s a [(2, 1), (3, 1), (4, 2), (5, 2)] v _ _ w hR hC hf hRC hlo (fun p hp => by simp only [List.mem_cons, List.not_mem_nil, or_false] at hp; rcases hp with rfl | rfl | rfl | rfl <;> exact ⟨by decide, by decide, rfl⟩) (by decide) hs ha' (by decide)).mono ?_
    rintro e w' ⟨rfl, h1, h2⟩
    rcases h2 with ⟨h2, h3, h4⟩ | ⟨h2, a2, cs', h3, h4, _⟩
    · exact ⟨rfl, a + 6, false, h3, h1, fun h => by simp at h, fun _ => ⟨rfl, h2, rfl, h4⟩⟩
    · exact ⟨rfl, a2, true, h3, h1, fun _ => .inr h2, fun h => by simp at h⟩
def ConfP (s : ByteArray) (w : World) (e : Ending) (w' : World) : Prop :=
  Below w.heap.size w w' ∧ match cfgR s with
    | some (c, b) => ∃ nv qv, e = .returned (.tuple #[.agg #[nv, qv, .int .i64 c.wk, .int .i64 c.tm, .int .i64 c.rt, .int .i64 c.ag], .string (s.extract b s.size), .int .i64 0]) ∧ NodesOf w' nv c.ns ∧ Rd.SliceOf w' qv 3 Qu.cells c.qs
    | none => e = .returned (.tuple #[.agg #[.slice none 0 0, .slice none 0 0, .int .i64 0, .int .i64 0, .int .i64 0, .int .i64 0], .string ⟨#[]⟩, .int .i64 11])
set_option maxRecDepth 100000 in
set_option maxHeartbeats 4000000 in
theorem config_any (s : ByteArray) (w : World) (hs : s.size ≤ 100000) : Calls Try.prog 17 #[.string s] w (ConfP s w) := by
  obtain ⟨res, hres⟩ : ∃ res, cfgR s = res := ⟨_, rfl⟩
  have HRES := Lib.hid hres
  unfold ConfP
  rw [hres]
  clear hres
  go_enter Try.func17, Try.ntmps17
  go_wp2_with fail
  have hb1 : Below w.heap.size w ((((w.alloc (.cells #[.slice none 0 0, .slice none 0 0, .int .i64 0, .int .i64 0, .int .i64 0, .int .i64 0] 43)).alloc (.cells #[.slice none 0 0, .slice none 0 0, .int .i64 0, .int .i64 0, .int .i64 0, .int .i64 0] 43)).alloc (.cells #[.string s, .int .i64 0, .bool false] 65)).alloc (.cells #[.pointer (some ⟨w.heap.size + 1 + 1, 0, none⟩)] 63)) := ((((Below.refl w.heap.size w).alloc (Nat.le_refl _) _).alloc (by simp) _).alloc (by simp; omega) _).alloc (by simp; omega) _
  have kP : ((((w.alloc (.cells #[.slice none 0 0, .slice none 0 0, .int .i64 0, .int .i64 0, .int .i64 0, .int .i64 0] 43)).alloc (.cells #[.slice none 0 0, .slice none 0 0, .int .i64 0, .int .i64 0, .int .i64 0, .int .i64 0] 43)).alloc (.cells #[.string s, .int .i64 0, .bool false] 65)).alloc (.cells #[.pointer (some ⟨w.heap.size + 1 + 1, 0, none⟩)] 63)).heap[w.heap.size]? = some (.cells #[.slice none 0 0, .slice none 0 0, .int .i64 0, .int .i64 0, .int .i64 0, .int .i64 0] 43 (0, 0)) := alloc_other (alloc_other (alloc_other (World.alloc_heap_new _ _)))
  have kC : ((((w.alloc (.cells #[.slice none 0 0, .slice none 0 0, .int .i64 0, .int .i64 0, .int .i64 0, .int .i64 0] 43)).alloc (.cells #[.slice none 0 0, .slice none 0 0, .int .i64 0, .int .i64 0, .int .i64 0, .int .i64 0] 43)).alloc (.cells #[.string s, .int .i64 0, .bool false] 65)).alloc (.cells #[.pointer (some ⟨w.heap.size + 1 + 1, 0, none⟩)] 63)).heap[w.heap.size + 1]? = some (.cells #[.slice none 0 0, .slice none 0 0, .int .i64 0, .int .i64 0, .int .i64 0, .int .i64 0] 43 (0, 0)) := alloc_other (alloc_other (alloc2_new _ _ _))
  have kR : ((((w.alloc (.cells #[.slice none 0 0, .slice none 0 0, .int .i64 0, .int .i64 0, .int .i64 0, .int .i64 0] 43)).alloc (.cells #[.slice none 0 0, .slice none 0 0, .int .i64 0, .int .i64 0, .int .i64 0, .int .i64 0] 43)).alloc (.cells #[.string s, .int .i64 0, .bool false] 65)).alloc (.cells #[.pointer (some ⟨w.heap.size + 1 + 1, 0, none⟩)] 63)).heap[w.heap.size + 1 + 1]? = some (.cells #[.string s, .int .i64 (0 : Nat), .bool false] 65 (0, 0)) := alloc_other (by
    have := alloc2_new (w.alloc (.cells #[.slice none 0 0, .slice none 0 0, .int .i64 0, .int .i64 0, .int .i64 0, .int .i64 0] 43)) (.cells #[.slice none 0 0, .slice none 0 0, .int .i64 0, .int .i64 0, .int .i64 0, .int .i64 0] 43) (.cells #[.string s, .int .i64 0, .bool false] 65)
    rwa [World.size_alloc] at this)
  have kB : ((((w.alloc (.cells #[.slice none 0 0, .slice none 0 0, .int .i64 0, .int .i64 0, .int .i64 0, .int .i64 0] 43)).alloc (.cells #[.slice none 0 0, .slice none 0 0, .int .i64 0, .int .i64 0, .int .i64 0, .int .i64 0] 43)).alloc (.cells #[.string s, .int .i64 0, .bool false] 65)).alloc (.cells #[.pointer (some ⟨w.heap.size + 1 + 1, 0, none⟩)] 63)).heap[w.heap.size + 1 + 1 + 1]? = some (.cells #[.pointer (some ⟨w.heap.size + 1 + 1, 0, none⟩)] 63 (0, 0)) := by
    have := alloc2_new ((w.alloc (.cells #[.slice none 0 0, .slice none 0 0, .int .i64 0, .int .i64 0, .int .i64 0, .int .i64 0] 43)).alloc (.cells #[.slice none 0 0, .slice none 0 0, .int .i64 0, .int .i64 0, .int .i64 0, .int .i64 0] 43)) (.cells #[.string s, .int .i64 0, .bool false] 65) (.cells #[.pointer (some ⟨w.heap.size + 1 + 1, 0, none⟩)] 63)
    rwa [World.size_alloc, World.size_alloc] at this
  generalize (((w.alloc (.cells #[.slice none 0 0, .slice none 0 0, .int .i64 0, .int .i64 0, .int .i64 0, .int .i64 0] 43)).alloc (.cells #[.slice none 0 0, .slice none 0 0, .int .i64 0, .int .i64 0, .int .i64 0, .int .i64 0] 43)).alloc (.cells #[.string s, .int .i64 0, .bool false] 65)).alloc (.cells #[.pointer (some ⟨w.heap.size + 1 + 1, 0, none⟩)] 63) = w1 at hb1 kP kC kR kB ⊢
  obtain ⟨Pb, hPb⟩ : ∃ Pb, w.heap.size = Pb := ⟨_, rfl⟩
  have HPB := Lib.hid hPb
  rw [hPb] at kP kC kR kB ⊢
  obtain ⟨C, hC⟩ : ∃ C, Pb + 1 = C := ⟨_, rfl⟩
  rw [hC] at kC kR kB ⊢
  obtain ⟨R, hR⟩ : ∃ R, C + 1 = R := ⟨_, rfl⟩
  rw [hR] at kR kB ⊢
  obtain ⟨B, hB⟩ : ∃ B, R + 1 = B := ⟨_, rfl⟩
  rw [hB] at kB ⊢
  have hord : Pb < C ∧ C < R ∧ R < B := by omega
  have HB1 := Lib.hid hb1; have HP1 := Lib.hid kP; have HC1 := Lib.hid kC; have HR1 := Lib.hid kR; have HBB1 := Lib.hid kB
  have lB1 := lt_of_block kB
  have hM := many_node R B s 0 false w1 kB kR (by omega) hs (.inr (Nat.zero_le _))
  rw [if_neg (by decide)] at hM
  have HM := Lib.hid hM
  clear hPb hC hR hB hb1 kP kC kR kB hM
  refine HM.out.mono ?_
  intro e w2 hq
  obtain ⟨av, k, cv, rfl, hf2, a1, sh1, hR2, hn1, hn2⟩ := hq.uni (B := B + 1) lB1
  have hC2 := (hf2.block C (lt_of_block HC1.out) (by omega)).trans HC1.out
  have hP2 := (hf2.block Pb (lt_of_block HP1.out) (by omega)).trans HP1.out
  have hB2 := (hf2.block B (lt_of_block HBB1.out) (by omega)).trans HBB1.out
  have HF2 := Lib.hid hf2; have HR2 := Lib.hid hR2; have HC2 := Lib.hid hC2; have HP2 := Lib.hid hP2; have HBB2 := Lib.hid hB2; have HN1 := Lib.hid hn1; have HN2 := Lib.hid hn2
  have c0 := cell_of_block hC2 0; have cz := frozen_of_block hC2 0; have lC := lt_of_block hC2
  have b0 := cell_of_block hB2 0; have lB := lt_of_block hB2
  clear hq hf2 hR2 hC2 hP2 hB2 hn1 hn2 HM
  go_wp2_with fail
  have hC3 : (w2.setCell ⟨C, 0, none⟩ (.slice av k cv)).heap[C]? = some (.cells #[.slice av k cv, .slice none 0 0, .int .i64 0, .int .i64 0, .int .i64 0, .int .i64 0] 43 (0, 0)) := setCell_block HC2.out 0 (.slice av k cv)
  have hP3 : (w2.setCell ⟨C, 0, none⟩ (.slice av k cv)).heap[Pb]? = _ := (setCell_other (w := w2) (k := Pb) (p := ⟨C, 0, none⟩) (.slice av k cv) (by simp only; omega)).trans HP2.out
  have hR3 : (w2.setCell ⟨C, 0, none⟩ (.slice av k cv)).heap[R]? = _ := (setCell_other (w := w2) (k := R) (p := ⟨C, 0, none⟩) (.slice av k cv) (by simp only; omega)).trans HR2.out
  have hB3 : (w2.setCell ⟨C, 0, none⟩ (.slice av k cv)).heap[B]? = _ := (setCell_other (w := w2) (k := B) (p := ⟨C, 0, none⟩) (.slice av k cv) (by simp only; omega)).trans HBB2.out
  have hf3 : Fr w2.heap.size (fun q => q = C) w2 (w2.setCell ⟨C, 0, none⟩ (.slice av k cv)) := Fr.setCell (F := fun q => q = C) (p := ⟨C, 0, none⟩) (Fr.refl _ _ _) (.inr rfl) _
  generalize w2.setCell ⟨C, 0, none⟩ (.slice av k cv) = w3 at hC3 hP3 hR3 hB3 hf3 ⊢
  have ha1 : sh1 = true ∨ a1 ≤ s.size := by
    cases sh1 with
    | true => exact .inl rfl
    | false =>
      obtain ⟨xs, h1, _⟩ := HN1.out rfl
      exact .inr (manyR_ge nodeR_ge h1).2.1
  have HF3 := Lib.hid hf3; have HR3 := Lib.hid hR3; have HC3 := Lib.hid hC3; have HP3 := Lib.hid hP3; have HBB3 := Lib.hid hB3
  have lB3 := lt_of_block hB3
  have HM := Lib.hid (many_qu R B s a1 sh1 w3 hB3 hR3 (by omega) hs ha1)
  clear hf3 hR3 hC3 hP3 hB3 ha1 c0 cz lC b0 lB
  refine HM.out.mono ?_
  intro e w4 hq
  obtain ⟨av4, k4, cv4, rfl, hf4, a2, sh2, hR4, hq1, hq2⟩ := hq.uni (B := B + 1) lB3
  have hC4 := (hf4.block C (lt_of_block HC3.out) (by omega)).trans HC3.out
  have hP4 := (hf4.block Pb (lt_of_block HP3.out) (by omega)).trans HP3.out
  have hB4 := (hf4.block B (lt_of_block HBB3.out) (by omega)).trans HBB3.out
  have HF4 := Lib.hid hf4; have HR4 := Lib.hid hR4; have HC4 := Lib.hid hC4; have HP4 := Lib.hid hP4; have HBB4 := Lib.hid hB4; have HQ1 := Lib.hid hq1; have HQ2 := Lib.hid hq2
  have c1 := cell_of_block hC4 1; have cz := frozen_of_block hC4 1; have lC := lt_of_block hC4
  clear hq hf4 hR4 hC4 hP4 hB4 hq1 hq2 HM
  go_wp2_with fail
  have hC5 : (w4.setCell ⟨C, 1, none⟩ (.slice av4 k4 cv4)).heap[C]? = some (.cells #[.slice av k cv, .slice av4 k4 cv4, .int .i64 0, .int .i64 0, .int .i64 0, .int .i64 0] 43 (0, 0)) := setCell_block HC4.out 1 (.slice av4 k4 cv4)
  have hP5 : (w4.setCell ⟨C, 1, none⟩ (.slice av4 k4 cv4)).heap[Pb]? = _ := (setCell_other (w := w4) (k := Pb) (p := ⟨C, 1, none⟩) (.slice av4 k4 cv4) (by simp only; omega)).trans HP4.out
  have hR5 : (w4.setCell ⟨C, 1, none⟩ (.slice av4 k4 cv4)).heap[R]? = _ := (setCell_other (w := w4) (k := R) (p := ⟨C, 1, none⟩) (.slice av4 k4 cv4) (by simp only; omega)).trans HR4.out
  have hB5 : (w4.setCell ⟨C, 1, none⟩ (.slice av4 k4 cv4)).heap[B]? = _ := (setCell_other (w := w4) (k := B) (p := ⟨C, 1, none⟩) (.slice av4 k4 cv4) (by simp only; omega)).trans HBB4.out
  have hf5 : Fr w4.heap.size (fun q => q = C) w4 (w4.setCell ⟨C, 1, none⟩ (.slice av4 k4 cv4)) := Fr.setCell (F := fun q => q = C) (p := ⟨C, 1, none⟩) (Fr.refl _ _ _) (.inr rfl) _
  generalize w4.setCell ⟨C, 1, none⟩ (.slice av4 k4 cv4) = w5 at hC5 hP5 hR5 hB5 hf5 ⊢
  have ha2 : sh2 = true ∨ a2 ≤ s.size := by
    cases sh2 with
    | true => exact .inl rfl
    | false =>
      obtain ⟨xs, h1, _⟩ := HQ1.out rfl
      split at h1
      · cases h1
      · exact .inr (manyR_ge quR_ge h1).2.1
  have HF5 := Lib.hid hf5; have HR5 := Lib.hid hR5; have HC5 := Lib.hid hC5; have HP5 := Lib.hid hP5; have HBB5 := Lib.hid hB5; have HA2 := Lib.hid ha2
  clear hf5 hR5 hC5 hP5 hB5 ha2 c1 cz lC lB3
  refine (tail_any C _).mono ?_
  rintro e w6 ⟨rfl, hb6⟩
  have HB6 := Lib.hid hb6
  clear hb6
  go_wp2_with fail
  have hb7 : Below w5.heap.size w5 (w6.alloc (.cells #[.pointer (some ⟨C, 2, none⟩), .int .i64 1, .pointer (some ⟨C, 3, none⟩), .int .i64 1, .pointer (some ⟨C, 4, none⟩), .int .i64 2, .pointer (some ⟨C, 5, none⟩), .int .i64 2] 93)) := HB6.out.trans ((Below.refl _ _).alloc HB6.out.size _)
  have kT := World.alloc_heap_new w6 (.cells #[.pointer (some ⟨C, 2, none⟩), .int .i64 1, .pointer (some ⟨C, 3, none⟩), .int .i64 1, .pointer (some ⟨C, 4, none⟩), .int .i64 2, .pointer (some ⟨C, 5, none⟩), .int .i64 2] 93)
  generalize w6.alloc (.cells #[.pointer (some ⟨C, 2, none⟩), .int .i64 1, .pointer (some ⟨C, 3, none⟩), .int .i64 1, .pointer (some ⟨C, 4, none⟩), .int .i64 2, .pointer (some ⟨C, 5, none⟩), .int .i64 2] 93) = w7 at hb7 kT ⊢
  obtain ⟨T, hT⟩ : ∃ T, w6.heap.size = T := ⟨_, rfl⟩
  have hCT : C < T ∧ R < T := by have h1 := HB6.out.size; have h2 := lt_of_block HC5.out; have h3 := lt_of_block HR5.out; omega
  rw [hT] at kT ⊢
  have hB7 := (hb7.block B (lt_of_block HBB5.out)).trans HBB5.out
  have lB7 := lt_of_block hB7
  have b0 : ∀ y : Later w7, y.wd.cell? ⟨B, 0, none⟩ = some (.pointer (some ⟨R, 0, none⟩)) := fun y => (y.cell lB7).trans (cell_of_block hB7 0)
  have hR7 := (hb7.block R (lt_of_block HR5.out)).trans HR5.out
  have hC7 := (hb7.block C (lt_of_block HC5.out)).trans HC5.out
  have hP7 := (hb7.block Pb (lt_of_block HP5.out)).trans HP5.out
  have hrow : FieldRow w7 T C (.slice (some ⟨T, 0, none⟩) 4 4) [(2, 1), (3, 1), (4, 2), (5, 2)] := field_row (l := [(2, 1), (3, 1), (4, 2), (5, 2)]) kT (Nat.le_refl _) (fun i hi => by simp at hi; rcases i with _ | _ | _ | _ | i <;> first | exact ⟨rfl, rfl⟩ | omega)
  have hb7d := (Below.refl w7.heap.size w7).drew
  have fx0 := hb7d
  have hG := get4_any R C T s a2 sh2 (.slice av k cv) (.slice av4 k4 cv4) _ w7.drew ((hb7d.block _ (lt_of_block hR7)).trans hR7) ((hb7d.block _ (lt_of_block hC7)).trans hC7) (hrow.later hb7d) (by omega) ⟨hCT.2, hCT.1⟩ hs HA2.out
  have HG := Lib.hid hG; have HB7 := Lib.hid hb7; have HBB7 := Lib.hid hB7; have HP7 := Lib.hid ((hb7d.block _ (lt_of_block hP7)).trans hP7)
  clear hT hb7 kT hB7 hR7 hC7 hP7 hrow hb7d hG
  refine Rg.wp_region_pick (by kernel_rfl) [0, 1] [2] 2 (by kernel_rfl) (by kernel_rfl) (by kernel_rfl) (fun w' => ∃ y : Later w7, w' = y.wd) (fun c a a' w hd h => ⟨hd.symm.trans h.1, h.2⟩) ⟨⟨_, fx0⟩, rfl⟩ ?_
  simp only [Rg.picks, List.getElem?_cons_succ, List.getElem?_cons_zero, Option.toList, List.cons_append, List.nil_append]
  repeat (quiet_step (fail))
  refine wpQuiet_nil ?_
  clear b0
  simp only [Rg.pickn, List.getElem?_cons_succ, List.getElem?_cons_zero, Option.toList, List.map_cons, List.map_nil, List.cons_append, List.nil_append]
  refine Rg.wpN_list (by decide) ?_
  simp only [List.map_cons, List.map_nil]
  go_wp2_with fail
  refine HG.out.mono ?_
  rintro e w8 ⟨rfl, a3, sh3, hR8, hf8, hg1, hg2⟩
  have hB8 := (hf8.block B (by exact lB7) (by omega)).trans ((fx0.block B lB7).trans HBB7.out)
  have hP8 := (hf8.block Pb (lt_of_block HP7.out) (by omega)).trans HP7.out
  have r2 := cell_of_block hR8 2; have r1 := cell_of_block hR8 1; have lR := lt_of_block hR8
  have b0 := cell_of_block hB8 0; have lB := lt_of_block hB8
  have p0 := cell_of_block hP8 0; have p1 := cell_of_block hP8 1; have p2 := cell_of_block hP8 2; have p3 := cell_of_block hP8 3; have p4 := cell_of_block hP8 4; have p5 := cell_of_block hP8 5; have pz := frozen_of_block hP8; have lP := lt_of_block hP8
  have HF8 := Lib.hid hf8; have HR8 := Lib.hid hR8; have HBB8 := Lib.hid hB8; have HP8 := Lib.hid hP8; have HG1 := Lib.hid hg1; have HG2 := Lib.hid hg2; have HFX := Lib.hid fx0
  clear hf8 hR8 hB8 hP8 hg1 hg2 fx0 lB7
  have hall : Fr w.heap.size (fun q => w.heap.size ≤ q) w w8 := by
    have hp := HPB.out
    have f1 := Fr.of_below HB1.out (fun q => w.heap.size ≤ q)
    have f2 := f1.trans (HF2.out.mono f1.size fun q _ e => by omega)
    have f3 := f2.trans (HF3.out.mono f2.size fun q _ e => by omega)
    have f4 := f3.trans (HF4.out.mono f3.size fun q _ e => by omega)
    have f5 := f4.trans (HF5.out.mono f4.size fun q _ e => by omega)
    have f7 := f5.trans (Fr.of_below (HB7.out.mono f5.size) _)
    have f7d := f7.trans (Fr.of_below (HFX.out.mono f7.size) _)
    exact f7d.trans (HF8.out.mono f7d.size fun q _ e => by omega)
  have HALL := Lib.hid hall
  clear hall
  cases sh3 with
  | true =>
    have hr : res = none := by
      rw [← HRES.out]; unfold cfgR
      cases sh1 with
      | true => rw [HN2.out rfl]
      | false =>
        obtain ⟨xs, h1, _⟩ := HN1.out rfl
        rw [h1]; simp only
        cases sh2 with
        | true => have h2 := HQ2.out rfl; rw [if_neg (by decide)] at h2; rw [h2]
        | false =>
          obtain ⟨ys, h2, _⟩ := HQ1.out rfl
          rw [if_neg (by decide)] at h2
          rw [h2]; simp only
          rw [if_neg]
          rcases HG1.out rfl with h | h
          · cases h
          · omega
    subst hr
    go_wp2_with fail
    have hst : (((((((w8.setCell ⟨Pb, 0, none⟩ (.slice none 0 0)).setCell ⟨Pb, 1, none⟩ (.slice none 0 0)).setCell ⟨Pb, 2, none⟩ (.int .i64 0)).setCell ⟨Pb, 3, none⟩ (.int .i64 0)).setCell ⟨Pb, 4, none⟩ (.int .i64 0)).setCell ⟨Pb, 5, none⟩ (.int .i64 0))).heap[Pb]? = some (.cells #[.slice none 0 0, .slice none 0 0, .int .i64 0, .int .i64 0, .int .i64 0, .int .i64 0] 43 (0, 0)) := setCells_block [.slice none 0 0, .slice none 0 0, .int .i64 0, .int .i64 0, .int .i64 0, .int .i64 0] 0 w8 [.slice none 0 0, .slice none 0 0, .int .i64 0, .int .i64 0, .int .i64 0, .int .i64 0] HP8.out
    have hfs : Fr w8.heap.size (fun q => q = Pb) w8 (((((((w8.setCell ⟨Pb, 0, none⟩ (.slice none 0 0)).setCell ⟨Pb, 1, none⟩ (.slice none 0 0)).setCell ⟨Pb, 2, none⟩ (.int .i64 0)).setCell ⟨Pb, 3, none⟩ (.int .i64 0)).setCell ⟨Pb, 4, none⟩ (.int .i64 0)).setCell ⟨Pb, 5, none⟩ (.int .i64 0))) := setCells_fr (b := Pb) (F := fun q => q = Pb) rfl [.slice none 0 0, .slice none 0 0, .int .i64 0, .int .i64 0, .int .i64 0, .int .i64 0] 0 w8 (Fr.refl _ _ _)
    refine bodyPost_ret (results_ctt rfl _ _ Pb _ _ (0, 0) _ Try.underlying43 rfl rfl hst (by kernel_rfl)) rfl ?_
    exact ⟨(HALL.out.trans (hfs.mono HALL.out.size fun q _ e => by have := HPB.out; omega)).below (Nat.le_refl _) fun q h => h, rfl⟩
  | false =>
    obtain ⟨e1, e2, rfl, hC8⟩ := HG2.out rfl
    subst e1
    obtain ⟨qs, h2, hQQ⟩ := HQ1.out rfl
    have e0 : sh1 = false := by
      cases sh1 with
      | false => rfl
      | true => simp at h2
    subst e0
    obtain ⟨ns, h1, hNN⟩ := HN1.out rfl
    rw [if_neg (by decide)] at h2
    have hr : res = some (⟨ns, qs, numF s a2 1, numF s (a2 + 1) 1, numF s (a2 + 2) 2, numF s (a2 + 4) 2⟩, a2 + 6) := by
      rw [← HRES.out]; unfold cfgR
      rw [h1]; simp only
      rw [h2]; simp only
      rw [if_pos e2]
    obtain ⟨n1, hn1⟩ : ∃ n, numF s a2 1 = n := ⟨_, rfl⟩
    obtain ⟨n2, hn2⟩ : ∃ n, numF s (a2 + 1) 1 = n := ⟨_, rfl⟩
    obtain ⟨n3, hn3⟩ : ∃ n, numF s (a2 + 2) 2 = n := ⟨_, rfl⟩
    obtain ⟨n4, hn4⟩ : ∃ n, numF s (a2 + 4) 2 = n := ⟨_, rfl⟩
    rw [hn1, hn2, hn3, hn4] at hr hC8
    clear hn1 hn2 hn3 hn4
    subst hr
    have hN8 : NQ w8 (B + 1) (.slice av k cv) ns := ((((hNN.fr HF3.out (fun g e => by omega)).fr HF4.out (fun g e => by omega)).fr HF5.out (fun g e => by omega)).fr ((Fr.of_below (HB7.out.trans (HFX.out.mono HB7.out.size)) (fun q => q = R))) (fun g e => by omega)).fr HF8.out (fun g e => by omega)
    have hQ8 : QQ w8 (B + 1) (.slice av4 k4 cv4) qs := ((hQQ.fr HF5.out (fun g e => by omega)).fr ((Fr.of_below (HB7.out.trans (HFX.out.mono HB7.out.size)) (fun q => q = R))) (fun g e => by omega)).fr HF8.out (fun g e => by omega)
    have HN8 := Lib.hid hN8; have HQ8 := Lib.hid hQ8
    have c0 := cell_of_block hC8 0; have c1 := cell_of_block hC8 1; have c2 := cell_of_block hC8 2; have c3 := cell_of_block hC8 3; have c4 := cell_of_block hC8 4; have c5 := cell_of_block hC8 5; have lC := lt_of_block hC8
    have i1 : (0 : Int) ≤ ((a2 + 6 : Nat) : Int) := by omega
    have i2 : ((a2 + 6 : Nat) : Int) ≤ (s.size : Int) := by omega
    clear h1 h2 hNN hQQ hN8 hQ8 hC8
    go_wp2_with fail
    go_region
    go_wp2_with fail
    have hst0 : (((((((w8.setCell ⟨Pb, 0, none⟩ (.slice av k cv)).setCell ⟨Pb, 1, none⟩ (.slice av4 k4 cv4)).setCell ⟨Pb, 2, none⟩ (.int .i64 n1)).setCell ⟨Pb, 3, none⟩ (.int .i64 n2)).setCell ⟨Pb, 4, none⟩ (.int .i64 n3)).setCell ⟨Pb, 5, none⟩ (.int .i64 n4))).heap[Pb]? = some (.cells #[.slice av k cv, .slice av4 k4 cv4, .int .i64 n1, .int .i64 n2, .int .i64 n3, .int .i64 n4] 43 (0, 0)) := setCells_block [.slice av k cv, .slice av4 k4 cv4, .int .i64 n1, .int .i64 n2, .int .i64 n3, .int .i64 n4] 0 w8 [.slice none 0 0, .slice none 0 0, .int .i64 0, .int .i64 0, .int .i64 0, .int .i64 0] HP8.out
    have hfs0 : Fr w8.heap.size (fun q => q = Pb) w8 (((((((w8.setCell ⟨Pb, 0, none⟩ (.slice av k cv)).setCell ⟨Pb, 1, none⟩ (.slice av4 k4 cv4)).setCell ⟨Pb, 2, none⟩ (.int .i64 n1)).setCell ⟨Pb, 3, none⟩ (.int .i64 n2)).setCell ⟨Pb, 4, none⟩ (.int .i64 n3)).setCell ⟨Pb, 5, none⟩ (.int .i64 n4))) := setCells_fr (b := Pb) (F := fun q => q = Pb) rfl [.slice av k cv, .slice av4 k4 cv4, .int .i64 n1, .int .i64 n2, .int .i64 n3, .int .i64 n4] 0 w8 (Fr.refl _ _ _)
    generalize ((((((w8.setCell ⟨Pb, 0, none⟩ (.slice av k cv)).setCell ⟨Pb, 1, none⟩ (.slice av4 k4 cv4)).setCell ⟨Pb, 2, none⟩ (.int .i64 n1)).setCell ⟨Pb, 3, none⟩ (.int .i64 n2)).setCell ⟨Pb, 4, none⟩ (.int .i64 n3)).setCell ⟨Pb, 5, none⟩ (.int .i64 n4)) = w9 at hst0 hfs0 ⊢
    have hst : w9.drew.heap[Pb]? = _ := hst0
    have hfs := hfs0.drew
    refine bodyPost_ret (results_ctt rfl _ _ Pb _ _ (0, 0) _ Try.underlying43 rfl rfl hst (by kernel_rfl)) rfl ?_
    exact ⟨(HALL.out.trans (hfs.mono HALL.out.size fun q _ e => by have := HPB.out; omega)).below (Nat.le_refl _) fun q h => h, _, _, rfl, (HN8.out.fr hfs fun g e => by omega).nodes, (HQ8.out.fr hfs fun g e => by omega).queues⟩
end Go.Proofs.Ytghfdiaaonjofaa
