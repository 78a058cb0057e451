/-
  wire: Entries.
-/
import Derived.Test.YtghfdiaaonjofaaWireGet
import Derived.Deep.Cut
set_option linter.unusedVariables false
set_option linter.unusedSimpArgs false
namespace Go.Proofs.Ytghfdiaaonjofaa
open Go.RowKit

def zeroA : Ac := ⟨0, 0, ⟨0, 0, 0, 0, ⟨0, 0, 0, 0⟩⟩⟩
def byteF (s : ByteArray) (i : Nat) : Int := ((s.data[i]?).getD 0).toNat
/-- the act of a kind, of the bytes from i on -/
def actF (s : ByteArray) (i : Nat) (kind : Int) : Ac :=
  if kind = 0 then ⟨0, 0, ⟨numF s i 2, numF s (i + 2) 1, numF s (i + 3) 1, numF s (i + 4) 2, ⟨numF s (i + 6) 1, numF s (i + 7) 2, numF s (i + 9) 1, numF s (i + 10) 1⟩⟩⟩
  else if kind = 1 ∨ kind = 2 ∨ kind = 7 then ⟨kind, numF s i 2, ⟨0, 0, 0, 0, ⟨0, 0, 0, 0⟩⟩⟩ else if kind = 3 ∨ kind = 4 ∨ kind = 6 then ⟨kind, numF s i 1, ⟨0, 0, 0, 0, ⟨0, 0, 0, 0⟩⟩⟩ else ⟨kind, 0, ⟨0, 0, 0, 0, ⟨0, 0, 0, 0⟩⟩⟩
/-- what stands at a place, and where the next one does -/
def entryF (s : ByteArray) (i : Nat) : We × Nat := match fldL (byteF s i) with
  | none => (⟨zeroA, 10, i⟩, i + 1)
  | some l => if i + 1 + total l ≤ s.size then (⟨actF s (i + 1) (byteF s i), 0, i⟩, i + 1 + total l) else (⟨zeroA, 11, i⟩, s.size)
def entriesN (s : ByteArray) : Nat → Nat → List We
  | 0, _ => []
  | f + 1, i => if i < s.size then (entryF s i).1 :: entriesN s f (entryF s i).2 else []
theorem entry_next (s : ByteArray) {i : Nat} (h : i < s.size) : i < (entryF s i).2 ∧ (entryF s i).2 ≤ s.size := by
  unfold entryF
  split
  · simp only; omega
  · split
    · simp only; omega
    · simp only; omega
theorem readC_act (s : ByteArray) (i : Nat) (kind at' : Int) (l : List (Nat × Nat)) (h : fldL kind = some l) :
    readC s i l (We.cells ⟨⟨kind, 0, ⟨0, 0, 0, 0, ⟨0, 0, 0, 0⟩⟩⟩, 0, at'⟩).toArray = (We.cells ⟨actF s i kind, 0, at'⟩).toArray := by
  unfold fldL at h
  split at h
  · rename_i h0; subst h0; cases h; simp [readC, We.cells, actF]
  · rename_i h0
    split at h
    · rename_i h1; cases h; unfold actF; rw [if_neg h0, if_pos h1]; simp [readC, We.cells]
    · rename_i h1
      split at h
      · rename_i h2; cases h; unfold actF; rw [if_neg h0, if_neg h1, if_pos h2]; simp [readC, We.cells]
      · rename_i h2
        split at h
        · rename_i h3; cases h; unfold actF; rw [if_neg h0, if_neg h1, if_neg h2]; simp [readC, We.cells]
        · cases h
theorem fld_ok (kind at' : Int) (l : List (Nat × Nat)) (h : fldL kind = some l) : (∀ p ∈ l, 1 ≤ p.2 ∧ p.2 ≤ 2 ∧ (We.cells ⟨⟨kind, 0, ⟨0, 0, 0, 0, ⟨0, 0, 0, 0⟩⟩⟩, 0, at'⟩).toArray[p.1]? = some (.int .i64 0)) ∧ (l.map (·.1)).Nodup ∧ l.length ≤ 100 := by
  unfold fldL at h
  repeat' split at h
  all_goals cases h
  · refine ⟨fun p hp => ?_, by decide, by decide⟩
    simp only [List.mem_cons, List.not_mem_nil, or_false] at hp
    rcases hp with rfl | rfl | rfl | rfl | rfl | rfl | rfl | rfl <;> exact ⟨by decide, by decide, rfl⟩
  · refine ⟨fun p hp => ?_, by decide, by decide⟩
    simp only [List.mem_cons, List.not_mem_nil, or_false] at hp
    rcases hp with rfl; exact ⟨by decide, by decide, rfl⟩
  · refine ⟨fun p hp => ?_, by decide, by decide⟩
    simp only [List.mem_cons, List.not_mem_nil, or_false] at hp
    rcases hp with rfl; exact ⟨by decide, by decide, rfl⟩
  · exact ⟨fun p hp => by simp at hp, by decide, by decide⟩

theorem own_form {w : World} {base : Nat} {e : TypeId} {sz : Nat} {v : Value} {n : Nat} {xs : List Value} (h : w.ownsRow base e sz v n xs) : ∃ a cap, v = .slice a n cap := by
  obtain ⟨_, ⟨rfl, rfl⟩ | ⟨g, cap, _, rfl, _⟩⟩ := h
  · exact ⟨none, 0, rfl⟩
  · exact ⟨_, cap, rfl⟩
theorem infoWe : (Try.prog.info? 33).map (fun i => (i.zero, i.size, i.bytes)) = some (some (.agg #[.int .i64 0, .int .i64 0, .int .i64 0, .int .i64 0, .int .i64 0, .int .i64 0, .int .i64 0, .int .i64 0, .int .i64 0, .int .i64 0, .int .i64 0, .int .i64 0]), 12, 96) := by kernel_rfl
/-- cells stored one behind the other -/
def setCells (b : Nat) : Nat → List Value → World → World
  | _, [], w => w
  | i, v :: r, w => setCells b (i + 1) r (w.setCell ⟨b, i, none⟩ v)
def overC : Nat → List Value → List Value → List Value
  | _, [], cs => cs
  | i, v :: r, cs => overC (i + 1) r (cs.set i v)
theorem setCells_block {b : Nat} {t : TypeId} {z : Nat × Nat} : ∀ (vs : List Value) (i : Nat) (w : World) (cs : List Value), w.heap[b]? = some (.cells cs.toArray t z) → (setCells b i vs w).heap[b]? = some (.cells (overC i vs cs).toArray t z)
  | [], _, _, _, h => h
  | v :: r, i, w, cs, h => setCells_block r (i + 1) _ _ (by have := setCell_block h i v; simpa using this)
theorem setCells_fr {b B : Nat} {F : Nat → Prop} {w0 : World} (hb : F b) : ∀ (vs : List Value) (i : Nat) (w : World), Fr B F w0 w → Fr B F w0 (setCells b i vs w)
  | [], _, _, h => h
  | v :: r, i, w, h => setCells_fr hb r (i + 1) _ (h.setCell (.inr hb) v)
theorem storeZ {w : World} {E : Nat} {cs : Array Value} {t : TypeId} {er a : Int} {G : World → Prop} (h : w.heap[E]? = some (.cells cs t (0, 0))) (hs : cs.size = 12) (ha : cs[11]? = some (.int .i64 a))
    (K : ∀ w' : World, w'.heap[E]? = some (.cells (We.cells ⟨zeroA, er, a⟩).toArray t (0, 0)) → Fr w.heap.size (fun q => q = E) w w' → G w') : G (((((((((((w.setCell ⟨E, 0, none⟩ (.int .i64 0)).setCell ⟨E, 1, none⟩ (.int .i64 0)).setCell ⟨E, 2, none⟩ (.int .i64 0)).setCell ⟨E, 3, none⟩ (.int .i64 0)).setCell ⟨E, 4, none⟩ (.int .i64 0)).setCell ⟨E, 5, none⟩ (.int .i64 0)).setCell ⟨E, 6, none⟩ (.int .i64 0)).setCell ⟨E, 7, none⟩ (.int .i64 0)).setCell ⟨E, 8, none⟩ (.int .i64 0)).setCell ⟨E, 9, none⟩ (.int .i64 0)).setCell ⟨E, 10, none⟩ (.int .i64 er)) := by
  obtain ⟨l⟩ := cs
  match l, hs with
  | [c0, c1, c2, c3, c4, c5, c6, c7, c8, c9, c10, c11], _ =>
    simp at ha
    subst ha
    have h1 := setCells_block [.int .i64 0, .int .i64 0, .int .i64 0, .int .i64 0, .int .i64 0, .int .i64 0, .int .i64 0, .int .i64 0, .int .i64 0, .int .i64 0, .int .i64 er] 0 w [c0, c1, c2, c3, c4, c5, c6, c7, c8, c9, c10, .int .i64 a] h
    exact K (setCells E 0 [.int .i64 0, .int .i64 0, .int .i64 0, .int .i64 0, .int .i64 0, .int .i64 0, .int .i64 0, .int .i64 0, .int .i64 0, .int .i64 0, .int .i64 er] w) h1 (setCells_fr (F := fun q => q = E) rfl _ _ _ (Fr.refl _ _ _))
theorem storeZR {w : World} {E R : Nat} {u : Value} {cs : Array Value} {t : TypeId} {er a : Int} {G : World → Prop} (h : w.heap[E]? = some (.cells cs t (0, 0))) (hs : cs.size = 12) (ha : cs[11]? = some (.int .i64 a))
    (K : ∀ w' : World, w'.heap[E]? = some (.cells (We.cells ⟨zeroA, er, a⟩).toArray t (0, 0)) → Fr w.heap.size (fun q => q = E) w w' → G (w'.setCell ⟨R, 1, none⟩ u)) : G ((((((((((((w.setCell ⟨E, 0, none⟩ (.int .i64 0)).setCell ⟨E, 1, none⟩ (.int .i64 0)).setCell ⟨E, 2, none⟩ (.int .i64 0)).setCell ⟨E, 3, none⟩ (.int .i64 0)).setCell ⟨E, 4, none⟩ (.int .i64 0)).setCell ⟨E, 5, none⟩ (.int .i64 0)).setCell ⟨E, 6, none⟩ (.int .i64 0)).setCell ⟨E, 7, none⟩ (.int .i64 0)).setCell ⟨E, 8, none⟩ (.int .i64 0)).setCell ⟨E, 9, none⟩ (.int .i64 0)).setCell ⟨E, 10, none⟩ (.int .i64 er)).setCell ⟨R, 1, none⟩ u) :=
  storeZ (G := fun W => G (W.setCell ⟨R, 1, none⟩ u)) h hs ha K
theorem fld_11 {kind : Int} {l : List (Nat × Nat)} (h : fldL kind = some l) : 11 ∉ l.map (·.1) := by
  unfold fldL at h
  repeat' split at h
  all_goals cases h
  all_goals decide
def atOf (o : Option Value) : Nat := match o with | some (.int _ n) => n.toNat | _ => 0
set_option maxRecDepth 100000 in
set_option maxHeartbeats 4000000 in
theorem entries_any (s : ByteArray) (w : World) (hs : s.size ≤ 100000) :
    Calls Try.prog 10 #[.string s] w fun e w' => ∃ v, e = .returned v ∧ w'.ownsRow w.heap.size 33 12 v (entriesN s s.size 0).length ((entriesN s s.size 0).flatMap We.cells) ∧ Below w.heap.size w w' := by
  go_enter Try.func10, Try.ntmps10
  go_wp2_with fail
  have hb0 := (Below.refl w.heap.size w).alloc (Nat.le_refl _) (.cells #[.string s, .int .i64 0, .bool false] 65)
  have hsz0 : (w.alloc (.cells #[.string s, .int .i64 0, .bool false] 65)).heap.size = w.heap.size + 1 := World.size_alloc _ _
  have k0 := World.alloc_heap_new w (.cells #[.string s, .int .i64 0, .bool false] 65)
  generalize w.alloc (.cells #[.string s, .int .i64 0, .bool false] 65) = w1 at hb0 hsz0 k0 ⊢
  have HB0 := Lib.hid hb0; have HS0 := Lib.hid hsz0; have HK0 := Lib.hid k0
  obtain ⟨R, hRe⟩ : ∃ R, w.heap.size = R := ⟨_, rfl⟩
  have HRE := Lib.hid hRe
  rw [hRe] at HK0 ⊢
  clear hb0 hsz0 k0 hRe
  go_loopw [3] (fun ov wr => ∃ (vo : Value) (es : List We) (a : Nat) (sh : Bool) (f : Nat), ov = vo ∧ a ≤ s.size ∧ Hid ((sh = true → a = s.size) ∧ es ++ entriesN s f a = entriesN s s.size 0 ∧ s.size - a ≤ f ∧ wr.heap[R]? = some (.cells #[.string s, .int .i64 (a : Nat), .bool sh] 65 (0, 0)) ∧ wr.ownsRow R 33 12 vo es.length (es.flatMap We.cells) ∧ vo.ownBlock ≠ some R ∧ Fr w.heap.size (fun _ => False) w wr ∧ R < wr.heap.size ∧ es.length ≤ a)) (fun _ wr => s.size - atOf (wr.cell? ⟨R, 1, none⟩))
  case atStart => exact ⟨_, [], 0, false, s.size, rfl, Nat.zero_le _, Lib.hid ⟨fun h => by simp at h, rfl, by omega, HK0.out, World.ownsRow_nil _ _ _ _, by simp [Value.ownBlock], Fr.of_below HB0.out _, lt_of_block HK0.out, Nat.le_refl _⟩⟩
  case round =>
    obtain ⟨vo, es, a, sh, f, hvo, ha, hI⟩ := hrel
    subst hvo
    have hR := hI.out.2.2.2.1
    have lR := lt_of_block hR
    have r0 := cell_of_block hR 0; have r1 := cell_of_block hR 1; have r2 := cell_of_block hR 2
    have z0 := frozen_of_block hR 0; have z1 := frozen_of_block hR 1; have z2 := frozen_of_block hR 2
    have HR := Lib.hid hR
    clear hR
    by_cases hlt : a < s.size
    · have hsh : sh = false := by
        cases sh with
        | false => rfl
        | true => have := hI.out.1 rfl; omega
      subst hsh
      have i1 : (0 : Int) ≤ (a : Int) := by omega
      have i2 : (a : Int) < (s.size : Int) := by omega
      go_wp2_with fail
      have hkd : wrap64 (s[a].toNat : Int) = byteF s a := by
        have e3 : (s.data[a]?).getD 0 = s[a] := by
          have : s.data[a]? = some s[a] := Array.getElem?_eq_getElem hlt
          rw [this]; rfl
        have hy : s[a].toNat < 256 := UInt8.toNat_lt _
        unfold byteF
        rw [e3]
        unfold wrap64
        omega
      rw [hkd]
      obtain ⟨kd, hkde⟩ : ∃ kd, byteF s a = kd := ⟨_, rfl⟩
      rw [hkde]
      have HKD := Lib.hid hkde
      obtain ⟨E, hE⟩ : ∃ E, wr.heap.size = E := ⟨_, rfl⟩
      have hRa := setCell_block HR.out 1 (.int .i64 ((a : Int) + 1))
      have hfa := Fr.setCell (p := ⟨R, 1, none⟩) (Fr.refl wr.heap.size (fun q => q = R) wr) (.inr rfl) (.int .i64 ((a : Int) + 1))
      have hsza : (wr.setCell ⟨R, 1, none⟩ (.int .i64 ((a : Int) + 1))).heap.size = E := by rw [← hE]; simp [World.setCell]
      generalize wr.setCell ⟨R, 1, none⟩ (.int .i64 ((a : Int) + 1)) = wa at hRa hfa hsza ⊢
      have hRb : (wa.alloc (.cells (We.cells ⟨⟨kd, 0, ⟨0, 0, 0, 0, ⟨0, 0, 0, 0⟩⟩⟩, 0, a⟩).toArray 33)).heap[R]? = _ := alloc_other hRa
      have hEb := World.alloc_heap_new wa (.cells (We.cells ⟨⟨kd, 0, ⟨0, 0, 0, 0, ⟨0, 0, 0, 0⟩⟩⟩, 0, a⟩).toArray 33)
      have hszb : (wa.alloc (.cells (We.cells ⟨⟨kd, 0, ⟨0, 0, 0, 0, ⟨0, 0, 0, 0⟩⟩⟩, 0, a⟩).toArray 33)).heap.size = E + 1 := by rw [World.size_alloc, hsza]
      have hfb := hfa.trans ((Fr.of_below ((Below.refl wa.heap.size wa).alloc (Nat.le_refl _) (.cells (We.cells ⟨⟨kd, 0, ⟨0, 0, 0, 0, ⟨0, 0, 0, 0⟩⟩⟩, 0, a⟩).toArray 33)) (fun q => q = R)).mono (by omega) fun _ _ e => e)
      rw [hsza] at hEb
      rw [hE] at hfb ⊢
      change Calls _ _ _ (wa.alloc (.cells (We.cells ⟨⟨kd, 0, ⟨0, 0, 0, 0, ⟨0, 0, 0, 0⟩⟩⟩, 0, a⟩).toArray 33)) _
      generalize wa.alloc (.cells (We.cells ⟨⟨kd, 0, ⟨0, 0, 0, 0, ⟨0, 0, 0, 0⟩⟩⟩, 0, a⟩).toArray 33) = wb at hRb hEb hszb hfb ⊢
      have HRb := Lib.hid hRb; have HEb := Lib.hid hEb; have HSb := Lib.hid hszb; have HFb := Lib.hid hfb; have HEE := Lib.hid hE
      clear hkd hkde hRa hfa hsza hRb hEb hszb hfb r0 r1 r2 z0 z1 z2
      refine (fields_any E kd wb (cell_of_block HEb.out 0) (lt_of_block HEb.out)).mono ?_
      rintro e w3 ⟨v, rfl, hrow, hb3⟩
      have hR3 := (hb3.block _ (lt_of_block HRb.out)).trans HRb.out
      have hE3 := (hb3.block _ (lt_of_block HEb.out)).trans HEb.out
      have hf3 := HFb.out.trans ((Fr.of_below hb3 (fun q => q = R)).mono (by have := HSb.out; omega) fun _ _ e => e)
      have hRE : R ≠ E := by have := HEE.out; omega
      have hown3 := ownsRow_fr (F := fun q => q = R) hI.out.2.2.2.2.1 (HEE.out ▸ hf3) (fun g hg => ⟨(hI.out.2.2.2.2.1.lt g hg).2, fun e => hI.out.2.2.2.2.2.1 (e ▸ hg)⟩)
      have HOWN3 := Lib.hid hown3
      have HR3 := Lib.hid hR3; have HE3 := Lib.hid hE3; have HF3 := Lib.hid hf3; have HROW := Lib.hid hrow; have HB3 := Lib.hid hb3
      clear hR3 hE3 hf3 hrow hb3 hown3
      cases hfl : fldL kd with
      | none =>
        have HFL := Lib.hid hfl
        have hR3' : w3.heap[R]? = some (.cells #[.string s, .int .i64 (a + 1 : Nat), .bool false] 65 (0, 0)) := by
          have := HR3.out
          simpa using this
        have hlo : R < wb.heap.size ∧ E < wb.heap.size := ⟨lt_of_block HRb.out, lt_of_block HEb.out⟩
        have HG := Lib.hid (get_any R E wb.heap.size s (a + 1) [] v _ _ w3 hR3' HE3.out (by have := HROW.out; rw [hfl] at this; exact this) hRE hlo (fun p hp => by simp at hp) (by simp) hs hlt (by simp))
        clear hR3' hlo hfl
        go_wp2_with fail
        refine HG.out.mono ?_
        rintro e w4 ⟨rfl, hf4, hcase⟩
        have hc4 : w4.heap[R]? = some (.cells #[.string s, .int .i64 (a + 1 : Nat), .bool false] 65 (0, 0)) ∧ w4.heap[E]? = some (.cells (We.cells ⟨⟨kd, 0, ⟨0, 0, 0, 0, ⟨0, 0, 0, 0⟩⟩⟩, 0, a⟩).toArray 33 (0, 0)) := by
          rcases hcase with h | h
          · exact ⟨by simpa [total] using h.2.1, by simpa [readC] using h.2.2⟩
          · have := h.1; simp [total] at this; omega
        have HF4 := Lib.hid hf4
        have HR4 := Lib.hid hc4.1; have HE4 := Lib.hid hc4.2
        have lE4 := lt_of_block hc4.2
        have zE := frozen_of_block hc4.2
        clear hf4 hcase hc4
        have e0 : w4.cell? ⟨E, 0, none⟩ = some (.int .i64 kd) := cell_of_block HE4.out 0
        have e1 : w4.cell? ⟨E, 1, none⟩ = some (.int .i64 0) := cell_of_block HE4.out 1
        have e2 : w4.cell? ⟨E, 2, none⟩ = some (.int .i64 0) := cell_of_block HE4.out 2
        have e3 : w4.cell? ⟨E, 3, none⟩ = some (.int .i64 0) := cell_of_block HE4.out 3
        have e4 : w4.cell? ⟨E, 4, none⟩ = some (.int .i64 0) := cell_of_block HE4.out 4
        have e5 : w4.cell? ⟨E, 5, none⟩ = some (.int .i64 0) := cell_of_block HE4.out 5
        have e6 : w4.cell? ⟨E, 6, none⟩ = some (.int .i64 0) := cell_of_block HE4.out 6
        have e7 : w4.cell? ⟨E, 7, none⟩ = some (.int .i64 0) := cell_of_block HE4.out 7
        have e8 : w4.cell? ⟨E, 8, none⟩ = some (.int .i64 0) := cell_of_block HE4.out 8
        have e9 : w4.cell? ⟨E, 9, none⟩ = some (.int .i64 0) := cell_of_block HE4.out 9
        have e10 : w4.cell? ⟨E, 10, none⟩ = some (.int .i64 0) := cell_of_block HE4.out 10
        have e11 : w4.cell? ⟨E, 11, none⟩ = some (.int .i64 a) := cell_of_block HE4.out 11
        go_upto_region 14 with fail
        refine storeZ (E := E) (er := 10) (a := a) HE4.out rfl rfl fun w5 hE5 hf5' => ?_
        clear e0 e1 e2 e3 e4 e5 e6 e7 e8 e9 e10 e11
        have hR5 : w5.heap[R]? = some (.cells #[.string s, .int .i64 (a + 1 : Nat), .bool false] 65 (0, 0)) := (hf5'.block R (lt_of_block HR4.out) hRE).trans HR4.out
        have hf5 : Fr wr.heap.size (fun q => q = R) wr w5 := by
          have hsz : E ≤ w3.heap.size := by have := HF3.out.size; have := HEE.out; omega
          rw [HEE.out]
          exact HF3.out.trans ((HF4.out.mono hsz fun q hq e => e.elim (fun e => e) (fun e => by omega)).trans (hf5'.mono (Nat.le_trans hsz HF4.out.size) fun q hq e => by omega))
        obtain ⟨ent, hente⟩ : ∃ ent : We, ent = ⟨zeroA, 10, a⟩ := ⟨_, rfl⟩
        obtain ⟨a2, ha2⟩ : ∃ a2, a2 = a + 1 := ⟨_, rfl⟩
        rw [← hente] at hE5
        rw [← ha2] at hR5
        have HENT := Lib.hid (show entryF s a = (ent, a2) by unfold entryF; rw [HKD.out, HFL.out, hente, ha2])
        have HSH := Lib.hid (show false = true → a2 = s.size from fun h => by simp at h)
        clear hente ha2 hf5'
        have hown5 := ownsRow_fr (F := fun q => q = R) hI.out.2.2.2.2.1 hf5 (fun g hg => ⟨(hI.out.2.2.2.2.1.lt g hg).2, fun e => hI.out.2.2.2.2.2.1 (e ▸ hg)⟩)
        obtain ⟨av, cv, hvo⟩ := own_form hown5
        have hvR := hI.out.2.2.2.2.2.1
        rw [hvo] at hown5 hvR ⊢
        obtain ⟨m, hm⟩ : ∃ m, es.length = m := ⟨_, rfl⟩
        have hma : m ≤ a := hm ▸ hI.out.2.2.2.2.2.2.2.2
        rw [hm] at hown5 hvR ⊢
        obtain ⟨i0, hi0, hz0, hz1, hz2⟩ := info_parts infoWe
        have q0 : w5.cell? ⟨E, 0, none⟩ = some (.int .i64 ent.act.kind) := cell_of_block hE5 0
        have q1 : w5.cell? ⟨E, 1, none⟩ = some (.int .i64 ent.act.n) := cell_of_block hE5 1
        have q2 : w5.cell? ⟨E, 2, none⟩ = some (.int .i64 ent.act.job.id) := cell_of_block hE5 2
        have q3 : w5.cell? ⟨E, 3, none⟩ = some (.int .i64 ent.act.job.queue) := cell_of_block hE5 3
        have q4 : w5.cell? ⟨E, 4, none⟩ = some (.int .i64 ent.act.job.prio) := cell_of_block hE5 4
        have q5 : w5.cell? ⟨E, 5, none⟩ = some (.int .i64 ent.act.job.runtime) := cell_of_block hE5 5
        have q6 : w5.cell? ⟨E, 6, none⟩ = some (.int .i64 ent.act.job.shape.gpus) := cell_of_block hE5 6
        have q7 : w5.cell? ⟨E, 7, none⟩ = some (.int .i64 ent.act.job.shape.cpus) := cell_of_block hE5 7
        have q8 : w5.cell? ⟨E, 8, none⟩ = some (.int .i64 ent.act.job.shape.mn) := cell_of_block hE5 8
        have q9 : w5.cell? ⟨E, 9, none⟩ = some (.int .i64 ent.act.job.shape.mx) := cell_of_block hE5 9
        have q10 : w5.cell? ⟨E, 10, none⟩ = some (.int .i64 ent.err) := cell_of_block hE5 10
        have q11 : w5.cell? ⟨E, 11, none⟩ = some (.int .i64 ent.place) := cell_of_block hE5 11
        have lE5 := lt_of_block hE5
        have hRw := HRE.out
        have hw5 : R ≤ w5.heap.size := Nat.le_of_lt (lt_of_block hR5)
        have HO5 := Lib.hid hown5; have HM := Lib.hid hm; have HR5 := Lib.hid hR5; have HF5 := Lib.hid hf5; have HVR := Lib.hid hvR; have HVO := Lib.hid hvo
        have HLV := Lib.hid (show (Value.slice av m cv).ownBlock ≠ some R ∧ ∀ q, (Value.slice av m cv).ownBlock = some q → R ≤ q ∧ q < w5.heap.size from ⟨hvR, fun q hq => hown5.lt q hq⟩)
        clear hown5 hvR hm hE5 hR5 hf5 hvo
        go_wp2_with (at_builtin; refine wpList_append_lies _ rfl _ _ _ rfl R 33 i0 _ 12 96 Try.underlying23 hi0 hz0 hz1 hz2 rfl (by omega) (.slice av m cv) m _ rfl (HO5.out.alloc _) ⟨w5.heap.size, 0, none⟩ 1 1 (We.cells ent) rfl rfl (World.news_of_block (cs := #[.int .i64 ent.act.kind, .int .i64 ent.act.n, .int .i64 ent.act.job.id, .int .i64 ent.act.job.queue, .int .i64 ent.act.job.prio, .int .i64 ent.act.job.runtime, .int .i64 ent.act.job.shape.gpus, .int .i64 ent.act.job.shape.cpus, .int .i64 ent.act.job.shape.mn, .int .i64 ent.act.job.shape.mx, .int .i64 ent.err, .int .i64 ent.place]) (t := 33) (fr := (0, 0)) (World.alloc_heap_new w5 _)) (by simp [We.cells, Value.oneCell']) (by omega) (by unfold maxLen; omega) (by omega) (by simp; omega) (w5.heap.size + 1) (by simp) ?_)
        intro gg cap' w6 hown6 hgrow hat hlt6
        have hf6 : Fr w5.heap.size (fun q => (Value.slice av m cv).ownBlock = some q) w5 w6 := Fr.grown ((Fr.refl _ _ _).alloc (Nat.le_refl _) _) hgrow (by simp) (fun q e => .inr e)
        have hR6 := (hf6.block R (lt_of_block HR5.out) HLV.out.1).trans HR5.out
        have hgg : gg ≠ R := fun e => by
          subst e
          rcases hat with h | h
          · exact HLV.out.1 h
          · have := lt_of_block HR5.out; omega
        have hfW : Fr w.heap.size (fun _ => False) w w6 := by
          have h1 := hI.out.2.2.2.2.2.2.1
          have h2 := h1.trans (HF5.out.mono h1.size fun q hq e => by omega)
          exact h2.trans (hf6.mono h2.size fun q hq e => by have := (HLV.out.2 q e).1; omega)
        have HFIN := Lib.hid (And.intro hR6 (And.intro hgg (And.intro hfW hown6)))
        clear hown6 hgrow hat hlt6 hf6 hR6 hgg hfW q0 q1 q2 q3 q4 q5 q6 q7 q8 q9 q10 q11
        go_wp2_with fail
        obtain ⟨f', rfl⟩ : ∃ f', f = f' + 1 := ⟨f - 1, by have := hI.out.2.2.1; omega⟩
        have hen : entriesN s (f' + 1) a = ent :: entriesN s f' a2 := by
          show (if a < s.size then (entryF s a).1 :: entriesN s f' (entryF s a).2 else []) = _
          rw [if_pos hlt, HENT.out]
        have hnx := entry_next s hlt
        rw [HENT.out] at hnx
        simp only at hnx
        refine ⟨⟨_, es ++ [ent], a2, false, f', rfl, hnx.2, Lib.hid ⟨HSH.out, ?_, by have := hI.out.2.2.1; omega, HFIN.out.1, ?_, ?_, HFIN.out.2.2.1, lt_of_block HFIN.out.1, ?_⟩⟩, ?_⟩
        · rw [List.append_assoc, List.singleton_append, ← hen]; exact hI.out.2.1
        · rw [List.length_append, List.flatMap_append, HM.out, show List.flatMap We.cells [ent] = We.cells ent by simp]
          exact HFIN.out.2.2.2
        · simp [Value.ownBlock]; exact HFIN.out.2.1
        · rw [List.length_append, HM.out]; simp; omega
        · rw [cell_of_block HFIN.out.1 1, cell_of_block HR.out 1]
          show s.size - (Int.toNat (a2 : Nat)) < s.size - (Int.toNat (a : Nat))
          simp only [Int.toNat_natCast]
          omega
      | some l =>
        have HFL := Lib.hid hfl
        have hR3' : w3.heap[R]? = some (.cells #[.string s, .int .i64 (a + 1 : Nat), .bool false] 65 (0, 0)) := by
          have := HR3.out
          simpa using this
        have hlo : R < wb.heap.size ∧ E < wb.heap.size := ⟨lt_of_block HRb.out, lt_of_block HEb.out⟩
        obtain ⟨hl1, hl2, hl3⟩ := fld_ok kd a l hfl
        have HG := Lib.hid (get_any R E wb.heap.size s (a + 1) l v _ _ w3 hR3' HE3.out (by have := HROW.out; rw [hfl] at this; exact this) hRE hlo (fun p hp => ⟨(hl1 p hp).1, Nat.le_trans (hl1 p hp).2.1 (by decide), (hl1 p hp).2.2⟩) hl2 hs hlt hl3)
        clear hR3' hlo hfl hl1 hl2 hl3
        go_wp2_with fail
        refine HG.out.mono ?_
        rintro e w4 ⟨rfl, hf4, hcase⟩
        rcases hcase with hcase | hcase
        · · have hE4 := hcase.2.2
            rw [readC_act s (a + 1) kd a l HFL.out] at hE4
            have HR4 := Lib.hid hcase.2.1; have HE4 := Lib.hid hE4; have HFIT := Lib.hid hcase.1
            have HF4 := Lib.hid hf4
            have r2 := cell_of_block HR4.out 2; have lR4 := lt_of_block HR4.out
            clear hf4 hcase hE4
            go_upto_region 14 with fail
            obtain ⟨w5, hw45⟩ : ∃ w5, w4 = w5 := ⟨_, rfl⟩
            rw [hw45]
            clear r2 lR4
            have hR5 : w5.heap[R]? = some (.cells #[.string s, .int .i64 (a + 1 + total l : Nat), .bool false] 65 (0, 0)) := hw45 ▸ HR4.out
            have hE5 : w5.heap[E]? = some (.cells (We.cells ⟨actF s (a + 1) kd, 0, a⟩).toArray 33 (0, 0)) := hw45 ▸ HE4.out
            have hf5 : Fr wr.heap.size (fun q => q = R) wr w5 := by
              rw [← hw45]
              have hsz : E ≤ w3.heap.size := by have := HF3.out.size; have := HEE.out; omega
              rw [HEE.out]
              exact HF3.out.trans ((HF4.out.mono hsz fun q hq e => e.elim (fun e => e) (fun e => by omega)))
            obtain ⟨ent, hente⟩ : ∃ ent : We, ent = ⟨actF s (a + 1) kd, 0, a⟩ := ⟨_, rfl⟩
            obtain ⟨a2, ha2⟩ : ∃ a2, a2 = a + 1 + total l := ⟨_, rfl⟩
            rw [← hente] at hE5
            rw [← ha2] at hR5
            have HENT := Lib.hid (show entryF s a = (ent, a2) by unfold entryF; rw [HKD.out, HFL.out]; simp only; rw [if_pos HFIT.out, hente, ha2])
            have HSH := Lib.hid (show false = true → a2 = s.size from fun h => by simp at h)
            clear hente ha2 hw45
            have hown5 := ownsRow_fr (F := fun q => q = R) hI.out.2.2.2.2.1 hf5 (fun g hg => ⟨(hI.out.2.2.2.2.1.lt g hg).2, fun e => hI.out.2.2.2.2.2.1 (e ▸ hg)⟩)
            obtain ⟨av, cv, hvo⟩ := own_form hown5
            have hvR := hI.out.2.2.2.2.2.1
            rw [hvo] at hown5 hvR ⊢
            obtain ⟨m, hm⟩ : ∃ m, es.length = m := ⟨_, rfl⟩
            have hma : m ≤ a := hm ▸ hI.out.2.2.2.2.2.2.2.2
            rw [hm] at hown5 hvR ⊢
            obtain ⟨i0, hi0, hz0, hz1, hz2⟩ := info_parts infoWe
            have q0 : w5.cell? ⟨E, 0, none⟩ = some (.int .i64 ent.act.kind) := cell_of_block hE5 0
            have q1 : w5.cell? ⟨E, 1, none⟩ = some (.int .i64 ent.act.n) := cell_of_block hE5 1
            have q2 : w5.cell? ⟨E, 2, none⟩ = some (.int .i64 ent.act.job.id) := cell_of_block hE5 2
            have q3 : w5.cell? ⟨E, 3, none⟩ = some (.int .i64 ent.act.job.queue) := cell_of_block hE5 3
            have q4 : w5.cell? ⟨E, 4, none⟩ = some (.int .i64 ent.act.job.prio) := cell_of_block hE5 4
            have q5 : w5.cell? ⟨E, 5, none⟩ = some (.int .i64 ent.act.job.runtime) := cell_of_block hE5 5
            have q6 : w5.cell? ⟨E, 6, none⟩ = some (.int .i64 ent.act.job.shape.gpus) := cell_of_block hE5 6
            have q7 : w5.cell? ⟨E, 7, none⟩ = some (.int .i64 ent.act.job.shape.cpus) := cell_of_block hE5 7
            have q8 : w5.cell? ⟨E, 8, none⟩ = some (.int .i64 ent.act.job.shape.mn) := cell_of_block hE5 8
            have q9 : w5.cell? ⟨E, 9, none⟩ = some (.int .i64 ent.act.job.shape.mx) := cell_of_block hE5 9
            have q10 : w5.cell? ⟨E, 10, none⟩ = some (.int .i64 ent.err) := cell_of_block hE5 10
            have q11 : w5.cell? ⟨E, 11, none⟩ = some (.int .i64 ent.place) := cell_of_block hE5 11
            have lE5 := lt_of_block hE5
            have hRw := HRE.out
            have hw5 : R ≤ w5.heap.size := Nat.le_of_lt (lt_of_block hR5)
            have HO5 := Lib.hid hown5; have HM := Lib.hid hm; have HR5 := Lib.hid hR5; have HF5 := Lib.hid hf5; have HVR := Lib.hid hvR; have HVO := Lib.hid hvo
            have HLV := Lib.hid (show (Value.slice av m cv).ownBlock ≠ some R ∧ ∀ q, (Value.slice av m cv).ownBlock = some q → R ≤ q ∧ q < w5.heap.size from ⟨hvR, fun q hq => hown5.lt q hq⟩)
            clear hown5 hvR hm hE5 hR5 hf5 hvo
            go_wp2_with (at_builtin; refine wpList_append_lies _ rfl _ _ _ rfl R 33 i0 _ 12 96 Try.underlying23 hi0 hz0 hz1 hz2 rfl (by omega) (.slice av m cv) m _ rfl (HO5.out.alloc _) ⟨w5.heap.size, 0, none⟩ 1 1 (We.cells ent) rfl rfl (World.news_of_block (cs := #[.int .i64 ent.act.kind, .int .i64 ent.act.n, .int .i64 ent.act.job.id, .int .i64 ent.act.job.queue, .int .i64 ent.act.job.prio, .int .i64 ent.act.job.runtime, .int .i64 ent.act.job.shape.gpus, .int .i64 ent.act.job.shape.cpus, .int .i64 ent.act.job.shape.mn, .int .i64 ent.act.job.shape.mx, .int .i64 ent.err, .int .i64 ent.place]) (t := 33) (fr := (0, 0)) (World.alloc_heap_new w5 _)) (by simp [We.cells, Value.oneCell']) (by omega) (by unfold maxLen; omega) (by omega) (by simp; omega) (w5.heap.size + 1) (by simp) ?_)
            intro gg cap' w6 hown6 hgrow hat hlt6
            have hf6 : Fr w5.heap.size (fun q => (Value.slice av m cv).ownBlock = some q) w5 w6 := Fr.grown ((Fr.refl _ _ _).alloc (Nat.le_refl _) _) hgrow (by simp) (fun q e => .inr e)
            have hR6 := (hf6.block R (lt_of_block HR5.out) HLV.out.1).trans HR5.out
            have hgg : gg ≠ R := fun e => by
              subst e
              rcases hat with h | h
              · exact HLV.out.1 h
              · have := lt_of_block HR5.out; omega
            have hfW : Fr w.heap.size (fun _ => False) w w6 := by
              have h1 := hI.out.2.2.2.2.2.2.1
              have h2 := h1.trans (HF5.out.mono h1.size fun q hq e => by omega)
              exact h2.trans (hf6.mono h2.size fun q hq e => by have := (HLV.out.2 q e).1; omega)
            have HFIN := Lib.hid (And.intro hR6 (And.intro hgg (And.intro hfW hown6)))
            clear hown6 hgrow hat hlt6 hf6 hR6 hgg hfW q0 q1 q2 q3 q4 q5 q6 q7 q8 q9 q10 q11
            go_wp2_with fail
            obtain ⟨f', rfl⟩ : ∃ f', f = f' + 1 := ⟨f - 1, by have := hI.out.2.2.1; omega⟩
            have hen : entriesN s (f' + 1) a = ent :: entriesN s f' a2 := by
              show (if a < s.size then (entryF s a).1 :: entriesN s f' (entryF s a).2 else []) = _
              rw [if_pos hlt, HENT.out]
            have hnx := entry_next s hlt
            rw [HENT.out] at hnx
            simp only at hnx
            refine ⟨⟨_, es ++ [ent], a2, false, f', rfl, hnx.2, Lib.hid ⟨HSH.out, ?_, by have := hI.out.2.2.1; omega, HFIN.out.1, ?_, ?_, HFIN.out.2.2.1, lt_of_block HFIN.out.1, ?_⟩⟩, ?_⟩
            · rw [List.append_assoc, List.singleton_append, ← hen]; exact hI.out.2.1
            · rw [List.length_append, List.flatMap_append, HM.out, show List.flatMap We.cells [ent] = We.cells ent by simp]
              exact HFIN.out.2.2.2
            · simp [Value.ownBlock]; exact HFIN.out.2.1
            · rw [List.length_append, HM.out]; simp; omega
            · rw [cell_of_block HFIN.out.1 1, cell_of_block HR.out 1]
              show s.size - (Int.toNat (a2 : Nat)) < s.size - (Int.toNat (a : Nat))
              simp only [Int.toNat_natCast]
              omega
        · · obtain ⟨hlt2, a3, cs', hR4, hE4, hcs, hoff⟩ := hcase
            have h12 : cs'.size = 12 := by rw [hcs]; rfl
            have h11 : cs'[11]? = some (.int .i64 a) := (hoff 11 (fld_11 HFL.out)).trans rfl
            have hex : ∀ i, i < 12 → ∃ c, w4.cell? ⟨E, i, none⟩ = some c := fun i hi => ⟨cs'[i]'(by omega), (cell_of_block hE4 i).trans (Array.getElem?_eq_getElem (by omega))⟩
            obtain ⟨c0, e0⟩ := hex 0 (by omega)
            obtain ⟨c1, e1⟩ := hex 1 (by omega)
            obtain ⟨c2, e2⟩ := hex 2 (by omega)
            obtain ⟨c3, e3⟩ := hex 3 (by omega)
            obtain ⟨c4, e4⟩ := hex 4 (by omega)
            obtain ⟨c5, e5⟩ := hex 5 (by omega)
            obtain ⟨c6, e6⟩ := hex 6 (by omega)
            obtain ⟨c7, e7⟩ := hex 7 (by omega)
            obtain ⟨c8, e8⟩ := hex 8 (by omega)
            obtain ⟨c9, e9⟩ := hex 9 (by omega)
            obtain ⟨c10, e10⟩ := hex 10 (by omega)
            obtain ⟨c11, e11⟩ := hex 11 (by omega)
            have lE4 := lt_of_block hE4; have lR4 := lt_of_block hR4
            have zE := frozen_of_block hE4; have zR := frozen_of_block hR4 1
            have r2 := cell_of_block hR4 2; have r1 := cell_of_block hR4 1
            have HR4 := Lib.hid hR4; have HE4 := Lib.hid hE4; have HF4 := Lib.hid hf4; have HLT2 := Lib.hid hlt2; have H12 := Lib.hid h12; have H11 := Lib.hid h11
            clear hR4 hE4 hf4 hcs hoff hex hlt2 h12 h11
            go_upto_region 14 with fail
            refine storeZR (E := E) (er := 11) (a := a) HE4.out H12.out H11.out fun w5' hE5' hf5' => ?_
            clear e0 e1 e2 e3 e4 e5 e6 e7 e8 e9 e10 e11 r1 r2 zE zR
            have hR5' := setCell_block ((hf5'.block R (lt_of_block HR4.out) hRE).trans HR4.out) 1 (.int .i64 (s.size : Int))
            have hE5'' := (setCell_other (w := w5') (k := E) (p := ⟨R, 1, none⟩) (.int .i64 (s.size : Int)) (Ne.symm hRE)).trans hE5'
            have hfR := Fr.setCell (F := fun q => q = R) (p := ⟨R, 1, none⟩) (Fr.refl w5'.heap.size (fun q => q = R) w5') (.inr rfl) (.int .i64 (s.size : Int))
            have hfE : Fr w4.heap.size (fun q => q = R ∨ q = E) w4 (w5'.setCell ⟨R, 1, none⟩ (.int .i64 (s.size : Int))) := (hf5'.mono (Nat.le_refl _) fun q _ e => .inr e).trans (hfR.mono hf5'.size fun q _ e => .inl e)
            obtain ⟨w5, hw5⟩ : ∃ w5, w5'.setCell ⟨R, 1, none⟩ (.int .i64 (s.size : Int)) = w5 := ⟨_, rfl⟩
            rw [hw5] at hR5' hE5'' hfE ⊢
            clear hw5 hfR hf5' hE5'
            have hR5 : w5.heap[R]? = some (.cells #[.string s, .int .i64 (s.size : Nat), .bool true] 65 (0, 0)) := hR5'
            have hE5 := hE5''
            have hf5 : Fr wr.heap.size (fun q => q = R) wr w5 := by
              have hsz : E ≤ w3.heap.size := by have := HF3.out.size; have := HEE.out; omega
              rw [HEE.out]
              exact HF3.out.trans ((HF4.out.mono hsz fun q hq e => e.elim (fun e => e) (fun e => by omega)).trans (hfE.mono (Nat.le_trans hsz HF4.out.size) fun q hq e => e.elim (fun e => e) (fun e => by omega)))
            obtain ⟨ent, hente⟩ : ∃ ent : We, ent = ⟨zeroA, 11, a⟩ := ⟨_, rfl⟩
            obtain ⟨a2, ha2⟩ : ∃ a2, a2 = s.size := ⟨_, rfl⟩
            rw [← hente] at hE5
            rw [← ha2] at hR5
            have HENT := Lib.hid (show entryF s a = (ent, a2) by unfold entryF; rw [HKD.out, HFL.out]; simp only; rw [if_neg (by have := HLT2.out; omega), hente, ha2])
            have HSH := Lib.hid (show a2 = s.size from ha2)
            clear hente ha2 hE5'' hR5' hfE
            have hown5 := ownsRow_fr (F := fun q => q = R) hI.out.2.2.2.2.1 hf5 (fun g hg => ⟨(hI.out.2.2.2.2.1.lt g hg).2, fun e => hI.out.2.2.2.2.2.1 (e ▸ hg)⟩)
            obtain ⟨av, cv, hvo⟩ := own_form hown5
            have hvR := hI.out.2.2.2.2.2.1
            rw [hvo] at hown5 hvR ⊢
            obtain ⟨m, hm⟩ : ∃ m, es.length = m := ⟨_, rfl⟩
            have hma : m ≤ a := hm ▸ hI.out.2.2.2.2.2.2.2.2
            rw [hm] at hown5 hvR ⊢
            obtain ⟨i0, hi0, hz0, hz1, hz2⟩ := info_parts infoWe
            have q0 : w5.cell? ⟨E, 0, none⟩ = some (.int .i64 ent.act.kind) := cell_of_block hE5 0
            have q1 : w5.cell? ⟨E, 1, none⟩ = some (.int .i64 ent.act.n) := cell_of_block hE5 1
            have q2 : w5.cell? ⟨E, 2, none⟩ = some (.int .i64 ent.act.job.id) := cell_of_block hE5 2
            have q3 : w5.cell? ⟨E, 3, none⟩ = some (.int .i64 ent.act.job.queue) := cell_of_block hE5 3
            have q4 : w5.cell? ⟨E, 4, none⟩ = some (.int .i64 ent.act.job.prio) := cell_of_block hE5 4
            have q5 : w5.cell? ⟨E, 5, none⟩ = some (.int .i64 ent.act.job.runtime) := cell_of_block hE5 5
            have q6 : w5.cell? ⟨E, 6, none⟩ = some (.int .i64 ent.act.job.shape.gpus) := cell_of_block hE5 6
            have q7 : w5.cell? ⟨E, 7, none⟩ = some (.int .i64 ent.act.job.shape.cpus) := cell_of_block hE5 7
            have q8 : w5.cell? ⟨E, 8, none⟩ = some (.int .i64 ent.act.job.shape.mn) := cell_of_block hE5 8
            have q9 : w5.cell? ⟨E, 9, none⟩ = some (.int .i64 ent.act.job.shape.mx) := cell_of_block hE5 9
            have q10 : w5.cell? ⟨E, 10, none⟩ = some (.int .i64 ent.err) := cell_of_block hE5 10
            have q11 : w5.cell? ⟨E, 11, none⟩ = some (.int .i64 ent.place) := cell_of_block hE5 11
            have lE5 := lt_of_block hE5
            have hRw := HRE.out
            have hw5 : R ≤ w5.heap.size := Nat.le_of_lt (lt_of_block hR5)
            have HO5 := Lib.hid hown5; have HM := Lib.hid hm; have HR5 := Lib.hid hR5; have HF5 := Lib.hid hf5; have HVR := Lib.hid hvR; have HVO := Lib.hid hvo
            have HLV := Lib.hid (show (Value.slice av m cv).ownBlock ≠ some R ∧ ∀ q, (Value.slice av m cv).ownBlock = some q → R ≤ q ∧ q < w5.heap.size from ⟨hvR, fun q hq => hown5.lt q hq⟩)
            clear hown5 hvR hm hE5 hR5 hf5 hvo
            go_wp2_with (at_builtin; refine wpList_append_lies _ rfl _ _ _ rfl R 33 i0 _ 12 96 Try.underlying23 hi0 hz0 hz1 hz2 rfl (by omega) (.slice av m cv) m _ rfl (HO5.out.alloc _) ⟨w5.heap.size, 0, none⟩ 1 1 (We.cells ent) rfl rfl (World.news_of_block (cs := #[.int .i64 ent.act.kind, .int .i64 ent.act.n, .int .i64 ent.act.job.id, .int .i64 ent.act.job.queue, .int .i64 ent.act.job.prio, .int .i64 ent.act.job.runtime, .int .i64 ent.act.job.shape.gpus, .int .i64 ent.act.job.shape.cpus, .int .i64 ent.act.job.shape.mn, .int .i64 ent.act.job.shape.mx, .int .i64 ent.err, .int .i64 ent.place]) (t := 33) (fr := (0, 0)) (World.alloc_heap_new w5 _)) (by simp [We.cells, Value.oneCell']) (by omega) (by unfold maxLen; omega) (by omega) (by simp; omega) (w5.heap.size + 1) (by simp) ?_)
            intro gg cap' w6 hown6 hgrow hat hlt6
            have hf6 : Fr w5.heap.size (fun q => (Value.slice av m cv).ownBlock = some q) w5 w6 := Fr.grown ((Fr.refl _ _ _).alloc (Nat.le_refl _) _) hgrow (by simp) (fun q e => .inr e)
            have hR6 := (hf6.block R (lt_of_block HR5.out) HLV.out.1).trans HR5.out
            have hgg : gg ≠ R := fun e => by
              subst e
              rcases hat with h | h
              · exact HLV.out.1 h
              · have := lt_of_block HR5.out; omega
            have hfW : Fr w.heap.size (fun _ => False) w w6 := by
              have h1 := hI.out.2.2.2.2.2.2.1
              have h2 := h1.trans (HF5.out.mono h1.size fun q hq e => by omega)
              exact h2.trans (hf6.mono h2.size fun q hq e => by have := (HLV.out.2 q e).1; omega)
            have HFIN := Lib.hid (And.intro hR6 (And.intro hgg (And.intro hfW hown6)))
            clear hown6 hgrow hat hlt6 hf6 hR6 hgg hfW q0 q1 q2 q3 q4 q5 q6 q7 q8 q9 q10 q11
            go_wp2_with fail
            obtain ⟨f', rfl⟩ : ∃ f', f = f' + 1 := ⟨f - 1, by have := hI.out.2.2.1; omega⟩
            have hen : entriesN s (f' + 1) a = ent :: entriesN s f' a2 := by
              show (if a < s.size then (entryF s a).1 :: entriesN s f' (entryF s a).2 else []) = _
              rw [if_pos hlt, HENT.out]
            have hnx := entry_next s hlt
            rw [HENT.out] at hnx
            simp only at hnx
            refine ⟨⟨_, es ++ [ent], a2, true, f', rfl, hnx.2, Lib.hid ⟨fun _ => HSH.out, ?_, by have := hI.out.2.2.1; omega, HFIN.out.1, ?_, ?_, HFIN.out.2.2.1, lt_of_block HFIN.out.1, ?_⟩⟩, ?_⟩
            · rw [List.append_assoc, List.singleton_append, ← hen]; exact hI.out.2.1
            · rw [List.length_append, List.flatMap_append, HM.out, show List.flatMap We.cells [ent] = We.cells ent by simp]
              exact HFIN.out.2.2.2
            · simp [Value.ownBlock]; exact HFIN.out.2.1
            · rw [List.length_append, HM.out]; simp; omega
            · rw [cell_of_block HFIN.out.1 1, cell_of_block HR.out 1]
              show s.size - (Int.toNat (a2 : Nat)) < s.size - (Int.toNat (a : Nat))
              simp only [Int.toNat_natCast]
              omega
    · obtain rfl : a = s.size := by omega
      have hnil : entriesN s f s.size = [] := by
        cases f with
        | zero => rfl
        | succ f => unfold entriesN; rw [if_neg (by omega)]
      have hes := hI.out.2.1
      rw [hnil, List.append_nil] at hes
      have HF := Lib.hid hI.out.2.2.2.2.2.2.1
      have HOW := Lib.hid hI.out.2.2.2.2.1
      go_wp2_with fail
      go_ret
      refine ⟨_, rfl, ?_, HF.out.below (Nat.le_refl _) (fun _ h => h.elim)⟩
      rw [← hes, HRE.out]
      exact HOW.out
end Go.Proofs.Ytghfdiaaonjofaa
