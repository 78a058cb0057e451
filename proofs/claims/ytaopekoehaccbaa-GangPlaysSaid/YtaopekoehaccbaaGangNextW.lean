import Derived.Test.YtaopekoehaccbaaProg
import Derived.Test.YtaopekoehaccbaaMaps
import Derived.Test.YtaopekoehaccbaaRegions
import Derived.KernelRfl
import Derived.Deep.QuietTactic
import Derived.BigQuiet
import Derived.BigRegion
namespace Go.Proofs.Ytaopekoehaccbaa
open Go.RowKit Go.Maps

def inB (n lo hi : Int) : Bool := decide (lo ≤ n ∧ n ≤ hi)

set_option maxHeartbeats 400000 in
theorem in_any (n lo hi : Int) (w : World) :
    Calls Try.prog 27 #[.int .i64 n, .int .i64 lo, .int .i64 hi] w fun e w' => e = .returned (.bool (inB n lo hi)) ∧ w = w' := by
  go_enter Try.func27, Try.ntmps27
  go_wp2
  all_goals go_ret
  all_goals refine ⟨?_, rfl⟩
  all_goals simp [inB]
  all_goals omega

/-- two numbers, as an array's value -/
def pair (k : Int × Int) : Value := .agg #[.int .i64 k.1, .int .i64 k.2]
def okInt (n : Int) : Prop := (Lit.int .i64 n).wf = true
theorem okInt_small {n : Int} (h : -1000000 ≤ n) (h' : n ≤ 1000000) : okInt n := by
  unfold okInt
  simp [Lit.wf, IntKind.min, IntKind.max, IntKind.signed, IntKind.bits]
  omega
theorem laidOut : laidOutB Try.prog = true := by kernel_rfl
theorem keyLits_pair {P : Program} {K I d : Nat} (h3 : P.underlying K = some (.array 2 I)) (h4 : P.underlying I = some (.int .i64)) (h5 : P.cellsOf I = 1) (h6 : P.cellsOf K = 2)
    {a b : Int} (ha : okInt a) (hb : okInt b) : P.keyLits (d + 2) K [.int .i64 a, .int .i64 b] = some [.int .i64 a, .int .i64 b] := by
  unfold okInt at ha hb
  have e : ∀ n, okInt n → P.keyLits (d + 1) I [.int .i64 n] = some [.int .i64 n] := fun n hn => by
    unfold okInt at hn
    simp [Program.keyLits, h4, hn]
  unfold Program.keyLits
  simp only [h3, h5, h6]
  simp [List.range_succ, e a ha, e b hb]
theorem pairKey : Mp.KeyEnc Try.prog 67 (fun k : Int × Int => okInt k.1 ∧ okInt k.2) pair where
  law := Keyed.of_law (deep_law_gate laidOut (of_decide_eq_true (by kernel_rfl)) (of_decide_eq_true (by kernel_rfl)) (by kernel_rfl) (by kernel_rfl))
  key := by
    rintro ⟨a, b⟩ ⟨ha, hb⟩
    have h1 : Try.prog.keyType 67 = true := by kernel_rfl
    have h2 : (pair (a, b)).formed Try.prog 67 = true := by kernel_rfl
    have h3 : Try.prog.underlying 67 = some (.array 2 3) := by kernel_rfl
    have h4 : Try.prog.underlying 3 = some (.int .i64) := by kernel_rfl
    have h5 : Try.prog.cellsOf 3 = 1 := by kernel_rfl
    have h6 : Try.prog.cellsOf 67 = 2 := by kernel_rfl
    have h7 : 1 ≤ Try.prog.types.size := of_decide_eq_true (by kernel_rfl)
    obtain ⟨d, hd⟩ : ∃ d, Try.prog.types.size + 1 = d + 2 := ⟨Try.prog.types.size - 1, by omega⟩
    have hl := keyLits_pair (d := d) h3 h4 h5 h6 ha hb
    refine ⟨.string (keyBytes [.int .i64 a, .int .i64 b]), ?_⟩
    unfold keyOf
    rw [h3, h1, h2, hd]
    rw [show (pair (a, b)).cells.toList = [.int .i64 a, .int .i64 b] from rfl, hl]
    rfl
  inj := by
    rintro ⟨a, b⟩ ⟨a', b'⟩ h
    simp [pair] at h
    simp [h]

theorem infoLeads : Try.prog.underlying 65 = some (.map 67 3) := by kernel_rfl

/-- what leads where, as entries of the literal: the operation's number, the key, what it leads to -/
def leadsD : List (Nat × (Int × Int) × Int) := [(2, (1, 1), 2), (4, (2, 2), 3), (6, (2, 3), 1), (8, (3, 4), 4), (10, (2, 5), 5), (12, (3, 5), 5), (14, (1, 6), 6), (16, (2, 6), 6), (18, (3, 6), 6)]
def leadsF (k : Int × Int) : Option Int := (leadsD.find? (fun x => x.2.1 = k)).map (·.2.2)

abbrev POk (k : Int × Int) : Prop := okInt k.1 ∧ okInt k.2

def LeadsPost (w : World) (e : Ending) (w' : World) : Prop :=
  ∃ es c m, e = .returned (.map (some w.heap.size)) ∧ w' = (w.alloc (.map es c)).drew ∧ Mp.Ents POk pair es m ∧ ∀ k, Mp.look m k = (leadsF k).map (Value.int .i64)

/-- what is known while the literal is laid -/
structure LJ (w0 : World) (listed : Array Bool) (a : Act) (w : World) : Prop where
  def0 : a.defers = []
  size : a.tmps.size = 12
  s1 : Rg.did listed 0 = true → a.tmps.getD 1 undef = .map (some w0.heap.size)
  keys : ∀ x ∈ leadsD, Rg.did listed (x.1 - 1) = true → a.tmps.getD (x.1 / 2 + 1) undef = pair x.2.1
  s11 : Rg.did listed 19 = true → a.tmps.getD 11 undef = .map (some w0.heap.size)
  s0 : Rg.did listed 20 = true → a.tmps.getD 0 undef = .map (some w0.heap.size)
  wait : Rg.did listed 0 = false → w = w0.drew ∧ ∀ x ∈ leadsD, Rg.did listed x.1 = false
  made : Rg.did listed 0 = true → ∃ es c m, w = (w0.alloc (.map es c)).drew ∧ Mp.Ents POk pair es m ∧ ∀ k v, Mp.look m k = some v ↔ ∃ x ∈ leadsD, Rg.did listed x.1 = true ∧ x.2.1 = k ∧ v = .int .i64 x.2.2

theorem put_getD (a : Act) (d : Nat) (v : Value) (j : Nat) (h : d < a.tmps.size) : (a.put (some d) v).tmps.getD j undef = if j = d then v else a.tmps.getD j undef := by
  simp only [Act.put]
  by_cases e : j = d
  · subst e; simp [h]
  · rw [if_neg e]
    simp [Array.getElem?_setIfInBounds_ne (Ne.symm e)]

theorem find_leads {k : Int × Int} {v : Value} : (∃ x ∈ leadsD, x.2.1 = k ∧ v = .int .i64 x.2.2) → (leadsF k).map (Value.int .i64) = some v := by
  rintro ⟨x, hx, rfl, rfl⟩
  simp only [leadsD, List.mem_cons, List.not_mem_nil, or_false] at hx
  rcases hx with rfl | rfl | rfl | rfl | rfl | rfl | rfl | rfl | rfl <;> rfl

theorem did_none (n i : Nat) : Rg.did (Array.replicate n false) i = false := by
  unfold Rg.did
  by_cases h : i < n <;> simp [h]

theorem LJ.init (w : World) (t : Array Value) (ht : t.size = 12) : LJ w (Array.replicate 21 false) { tmps := t, defers := [] } w.drew :=
  ⟨rfl, ht, fun h => by (rw [did_none] at h; cases h), fun _ _ h => by (rw [did_none] at h; cases h), fun h => by (rw [did_none] at h; cases h), fun h => by (rw [did_none] at h; cases h),
    fun _ => ⟨rfl, fun _ _ => did_none _ _⟩, fun h => by (rw [did_none] at h; cases h)⟩

theorem leadsD_facts : ∀ x ∈ leadsD, 2 ≤ x.1 ∧ x.1 ≤ 18 ∧ x.1 % 2 = 0 := by decide
theorem leadsD_inj : ∀ x ∈ leadsD, ∀ y ∈ leadsD, x.1 = y.1 → x = y := by decide
theorem leadsD_key : ∀ x ∈ leadsD, ∀ y ∈ leadsD, x.2.1 = y.2.1 → x = y := by decide
theorem leadsD_small : ∀ x ∈ leadsD, (-1000000 ≤ x.2.1.1 ∧ x.2.1.1 ≤ 1000000) ∧ (-1000000 ≤ x.2.1.2 ∧ x.2.1.2 ≤ 1000000) := by decide

section
variable {w0 w : World} {listed : Array Bool} {a : Act}

theorem LJ.mk0 (h : LJ w0 listed a w) (hs : listed.size = 21) (hd : Rg.did listed 0 = false) :
    LJ w0 (listed.setIfInBounds 0 true) (a.put (some 1) (.map (some w.heap.size))) (w.alloc (.map #[] 0)) := by
  obtain ⟨hw, hno⟩ := h.wait hd
  have hN : w.heap.size = w0.heap.size := by rw [hw]; rfl
  have hset : ∀ j, Rg.did (listed.setIfInBounds 0 true) j = (decide (j = 0) || Rg.did listed j) := fun j => Rg.did_set (by omega)
  have hput := fun j => put_getD a 1 (.map (some w.heap.size)) j (by rw [h.size]; decide)
  refine ⟨h.def0, by simp [Act.put, h.size], fun _ => by rw [hput, if_pos rfl, hN], fun x hx hd' => ?_, fun hd' => ?_, fun hd' => ?_, fun hd' => ?_, fun _ => ⟨#[], 0, [], ?_, Mp.Ents.nil, fun k v => ?_⟩⟩
  · have hf := leadsD_facts x hx
    rw [hset, decide_eq_false (by omega), Bool.false_or] at hd'
    rw [hput, if_neg (by omega)]
    exact h.keys x hx hd'
  · rw [hset, decide_eq_false (by omega), Bool.false_or] at hd'
    rw [hput, if_neg (by omega)]; exact h.s11 hd'
  · rw [hset, decide_eq_false (by omega), Bool.false_or] at hd'
    rw [hput, if_neg (by omega)]; exact h.s0 hd'
  · rw [hset] at hd'; simp at hd'
  · rw [hw]; rfl
  · constructor
    · intro h'; cases h'
    · rintro ⟨x, hx, hd', _⟩
      have hf := leadsD_facts x hx
      rw [hset, decide_eq_false (by omega), Bool.false_or, hno x hx] at hd'
      cases hd'

theorem LJ.key (h : LJ w0 listed a w) (hs : listed.size = 21) {x : Nat × (Int × Int) × Int} (hx : x ∈ leadsD) :
    LJ w0 (listed.setIfInBounds (x.1 - 1) true) (a.put (some (x.1 / 2 + 1)) (pair x.2.1)) w := by
  have hf := leadsD_facts x hx
  have hset : ∀ j, Rg.did (listed.setIfInBounds (x.1 - 1) true) j = (decide (j = x.1 - 1) || Rg.did listed j) := fun j => Rg.did_set (by omega)
  have hput := fun j => put_getD a (x.1 / 2 + 1) (pair x.2.1) j (by rw [h.size]; omega)
  have same : ∀ y ∈ leadsD, Rg.did (listed.setIfInBounds (x.1 - 1) true) y.1 = Rg.did listed y.1 := fun y hy => by
    have hg := leadsD_facts y hy
    rw [hset, decide_eq_false (by omega), Bool.false_or]
  have z0 : Rg.did (listed.setIfInBounds (x.1 - 1) true) 0 = Rg.did listed 0 := by rw [hset, decide_eq_false (by omega), Bool.false_or]
  refine ⟨h.def0, by simp [Act.put, h.size], fun hd => ?_, fun y hy hd => ?_, fun hd => ?_, fun hd => ?_, fun hd => ?_, fun hd => ?_⟩
  · rw [z0] at hd; rw [hput, if_neg (by omega)]; exact h.s1 hd
  · have hg := leadsD_facts y hy
    rw [hput]
    by_cases e : y.1 = x.1
    · obtain rfl := leadsD_inj y hy x hx e
      rw [if_pos rfl]
    · rw [hset, decide_eq_false (by omega), Bool.false_or] at hd
      rw [if_neg (by omega)]; exact h.keys y hy hd
  · rw [hset, decide_eq_false (by omega), Bool.false_or] at hd; rw [hput, if_neg (by omega)]; exact h.s11 hd
  · rw [hset, decide_eq_false (by omega), Bool.false_or] at hd; rw [hput, if_neg (by omega)]; exact h.s0 hd
  · rw [z0] at hd
    obtain ⟨hw, hno⟩ := h.wait hd
    exact ⟨hw, fun y hy => by rw [same y hy]; exact hno y hy⟩
  · rw [z0] at hd
    obtain ⟨es, c, m, hw, hE, hl⟩ := h.made hd
    refine ⟨es, c, m, hw, hE, fun k v => (hl k v).trans ⟨?_, ?_⟩⟩
    · rintro ⟨y, hy, hd', h'⟩; exact ⟨y, hy, by rw [same y hy]; exact hd', h'⟩
    · rintro ⟨y, hy, hd', h'⟩; exact ⟨y, hy, by rw [same y hy] at hd'; exact hd', h'⟩

theorem look_put {κ : Type} [DecidableEq κ] (m : List (κ × Value)) (k k' : κ) (v : Value) : Mp.look (Mp.put m k v) k' = if k = k' then some v else Mp.look m k' := by
  unfold Mp.put
  cases hs : Mp.look m k with
  | none =>
    simp only [Option.isSome_none, Bool.false_eq_true, if_false]
    unfold Mp.look at hs ⊢
    rw [List.find?_append]
    by_cases e : k = k'
    · subst e
      rw [if_pos rfl]
      simp only [Option.map_eq_none_iff] at hs
      rw [hs]; simp
    · rw [if_neg e]
      cases List.find? (fun p => decide (p.1 = k')) m <;> simp [e]
  | some u =>
    simp only [Option.isSome_some, if_true]
    unfold Mp.look at hs ⊢
    induction m with
    | nil => simp at hs
    | cons p r ih =>
      by_cases e1 : p.1 = k
      · by_cases e : k = k'
        · subst e; simp [e1]
        · have : ¬ p.1 = k' := fun e' => e (e1.symm.trans e')
          rw [if_neg e]
          simp only [List.map_cons, e1, if_true]
          rw [List.find?_cons_of_neg (by simpa using e), List.find?_cons_of_neg (by simpa using this), List.find?_map]
          have hc : ((fun p : κ × Value => decide (p.1 = k')) ∘ fun p : κ × Value => if p.1 = k then (k, v) else p) = fun p => decide (p.1 = k') := by
            funext q
            by_cases e2 : q.1 = k <;> simp [e2]
          rw [hc]
          cases hf : List.find? (fun p => decide (p.1 = k')) r with
          | none => rfl
          | some q =>
            have hq : q.1 = k' := by simpa using List.find?_some hf
            have : ¬ q.1 = k := fun e' => e (e'.symm.trans hq)
            simp [this]
      · rw [List.find?_cons_of_neg (by simpa using e1)] at hs
        have ih' := ih hs
        simp only [List.map_cons, e1, if_false]
        by_cases e2 : p.1 = k'
        · rw [List.find?_cons_of_pos (by simpa using e2), List.find?_cons_of_pos (by simpa using e2)]
          rw [if_neg (fun e => e1 (e2.trans e.symm))]
        · rw [List.find?_cons_of_neg (by simpa using e2), List.find?_cons_of_neg (by simpa using e2)]
          exact ih'

theorem push_set {α : Type} (h : Array α) (x y : α) : (h.push x).setIfInBounds h.size y = h.push y := by
  apply Array.ext_getElem?
  intro i
  rw [Array.getElem?_setIfInBounds, Array.getElem?_push, Array.getElem?_push]
  by_cases e : h.size = i
  · subst e; simp
  · rw [if_neg e, if_neg (Ne.symm e), if_neg (Ne.symm e)]

theorem upon_v {P : Program} {s : Sem Value} {v : Value} {w w' : World} (h : s.run P w = .ok v w') : (do let x ← s; pure (Next.value x) : Sem Next).run P w = .ok (.value v) w' := by
  rw [Sem.run_bind, h]; rfl
theorem build_pair (x y : Int) (w : World) : (Instr.build 67 #[(0, .int .i64 x), (1, .int .i64 y)]).run Try.prog w = .ok (pair (x, y)) w := by kernel_rfl

section
variable {P : Program} {o : Oper} {a : Act} {w w' : World} {K : Act → World → Prop} {Q : Exit → Act → World → Prop} {d : Option Nat}
theorem wp_build_pair {x y : Int} (h : o.op = .build 67 #[(0, .const (.int .i64 x)), (1, .const (.int .i64 y))]) (hd : o.dst = d) (hk : K (a.put d (pair (x, y))) w) : o.wp Try.prog a w K Q := by
  unfold Oper.wp execOp
  rw [h]
  dsimp only
  have e : (#[(0, Operand.const (.int .i64 x)), (1, .const (.int .i64 y))].map fun (p : Nat × Operand) => (p.1, a.eval p.2)) = #[(0, Value.int .i64 x), (1, .int .i64 y)] := by simp [Act.eval]
  rw [e, upon_v (build_pair x y w), Oper.upon_value, hd]
  exact hk
theorem wp_insert {T : Nat} {m k x : Operand} (h : o.op = .insert T m k x) (hd : o.dst = none) (hr : (Instr.mapUpdate T (a.eval m) (a.eval k) (a.eval x)).run P w = .ok () w') (hk : K a w') : o.wp P a w K Q := by
  unfold Oper.wp execOp
  rw [h]
  dsimp only
  rw [Sem.run_bind, hr]
  show Oper.upon _ _ _ _ _ (.ok .skip w')
  rw [Oper.upon_skip, hd]
  exact hk
theorem wp_makeMap {T : Nat} (h : o.op = .makeMap T none) (hd : o.dst = d) (hk : K (a.put d (.map (some w.heap.size))) (w.alloc (.map #[] 0))) : o.wp P a w K Q := by
  unfold Oper.wp execOp
  rw [h]
  dsimp only
  rw [upon_v (show (Instr.makeMap T (Option.map a.eval none)).run P w = .ok (.map (some w.heap.size)) (w.alloc (.map #[] 0)) from run_makeMap T w), Oper.upon_value, hd]
  exact hk
theorem wp_mv {x : Operand} (h : o.op = .move x ∨ o.op = .assign x) (hd : o.dst = d) (hk : K (a.put d (a.eval x)) w) : o.wp P a w K Q := by
  unfold Oper.wp execOp
  rcases h with h | h
  all_goals
    rw [h]
    show Oper.upon _ _ _ _ _ (.ok (.value (a.eval x)) w)
    rw [Oper.upon_value, hd]
    exact hk
end

theorem LJ.ins (h : LJ w0 listed a w) (hs : listed.size = 21) {x : Nat × (Int × Int) × Int} (hx : x ∈ leadsD) (h0 : Rg.did listed 0 = true) (h1 : Rg.did listed (x.1 - 1) = true) (hx0 : Rg.did listed x.1 = false) :
    ∃ w', (Instr.mapUpdate 65 (a.tmps.getD 1 undef) (a.tmps.getD (x.1 / 2 + 1) undef) (.int .i64 x.2.2)).run Try.prog w = .ok () w' ∧ LJ w0 (listed.setIfInBounds x.1 true) a w' := by
  have hf := leadsD_facts x hx
  obtain ⟨es, c, m, hw, hE, hl⟩ := h.made h0
  have hsm := leadsD_small x hx
  obtain ⟨es', c', hr, hE'⟩ := Mp.update (k := x.2.1) pairKey infoLeads w0.heap.size c hE ⟨okInt_small hsm.1.1 hsm.1.2, okInt_small hsm.2.1 hsm.2.2⟩ (.int .i64 x.2.2)
  have hb : w.heap[w0.heap.size]? = some (.map es c) := by rw [hw]; exact World.alloc_heap_new w0 _
  refine ⟨_, by rw [h.s1 h0, h.keys x hx h1]; exact hr w hb, ?_⟩
  have hset : ∀ j, Rg.did (listed.setIfInBounds x.1 true) j = (decide (j = x.1) || Rg.did listed j) := fun j => Rg.did_set (by omega)
  refine ⟨h.def0, h.size, fun _ => h.s1 h0, fun y hy hd => ?_, fun hd => ?_, fun hd => ?_, fun hd => ?_, fun hd => ?_⟩
  · have hg := leadsD_facts y hy
    rw [hset, decide_eq_false (by omega), Bool.false_or] at hd; exact h.keys y hy hd
  · rw [hset, decide_eq_false (by omega), Bool.false_or] at hd; exact h.s11 hd
  · rw [hset, decide_eq_false (by omega), Bool.false_or] at hd; exact h.s0 hd
  · rw [hset, h0] at hd; simp at hd
  · refine ⟨es', c', _, ?_, hE', fun k v => ?_⟩
    · rw [hw]
      show ({ w0 with heap := (w0.heap.push (.map es c)).setIfInBounds w0.heap.size (.map es' c'), drawn := w0.drawn + 1 } : World) = { w0 with heap := w0.heap.push (.map es' c'), drawn := w0.drawn + 1 }
      rw [push_set]
    · rw [look_put]
      by_cases e : x.2.1 = k
      · rw [if_pos e]
        constructor
        · intro h'; cases h'; exact ⟨x, hx, by rw [hset]; simp, e, rfl⟩
        · rintro ⟨y, hy, _, hk, rfl⟩
          obtain rfl := leadsD_key y hy x hx (hk.trans e.symm)
          rfl
      · rw [if_neg e, hl]
        constructor
        · rintro ⟨y, hy, hd, h'⟩; exact ⟨y, hy, by rw [hset, hd]; simp, h'⟩
        · rintro ⟨y, hy, hd, hk, h'⟩
          rw [hset, decide_eq_false, Bool.false_or] at hd
          · exact ⟨y, hy, hd, hk, h'⟩
          · intro e'; obtain rfl := leadsD_inj y hy x hx e'; exact e hk

theorem LJ.end1 (h : LJ w0 listed a w) (hs : listed.size = 21) (i d : Nat) (v : Value) (hi : (i = 19 ∧ d = 11) ∨ (i = 20 ∧ d = 0)) (hv : v = .map (some w0.heap.size)) (hd0 : Rg.did listed 0 = true) :
    LJ w0 (listed.setIfInBounds i true) (a.put (some d) v) w := by
  have hset : ∀ j, Rg.did (listed.setIfInBounds i true) j = (decide (j = i) || Rg.did listed j) := fun j => Rg.did_set (by omega)
  have hput := fun j => put_getD a d v j (by rw [h.size]; omega)
  have same : ∀ y ∈ leadsD, Rg.did (listed.setIfInBounds i true) y.1 = Rg.did listed y.1 := fun y hy => by
    have hg := leadsD_facts y hy
    rw [hset, decide_eq_false (by omega), Bool.false_or]
  refine ⟨h.def0, by simp [Act.put, h.size], fun _ => by rw [hput, if_neg (by omega)]; exact h.s1 hd0, fun y hy hd => ?_, fun hd => ?_, fun hd => ?_, fun hd => ?_, fun hd => ?_⟩
  · have hg := leadsD_facts y hy
    rw [hset, decide_eq_false (by omega), Bool.false_or] at hd
    rw [hput, if_neg (by omega)]; exact h.keys y hy hd
  · rw [hput]
    by_cases e : 11 = d
    · rw [if_pos e, hv]
    · rw [if_neg e]; rw [hset, decide_eq_false (by omega), Bool.false_or] at hd; exact h.s11 hd
  · rw [hput]
    by_cases e : 0 = d
    · rw [if_pos e, hv]
    · rw [if_neg e]; rw [hset, decide_eq_false (by omega), Bool.false_or] at hd; exact h.s0 hd
  · rw [hset, hd0] at hd; simp at hd
  · obtain ⟨es, c, m, hw, hE, hl⟩ := h.made hd0
    refine ⟨es, c, m, hw, hE, fun k v => (hl k v).trans ⟨?_, ?_⟩⟩
    · rintro ⟨y, hy, hd', h'⟩; exact ⟨y, hy, by rw [same y hy]; exact hd', h'⟩
    · rintro ⟨y, hy, hd', h'⟩; exact ⟨y, hy, by rw [same y hy] at hd'; exact hd', h'⟩
end
set_option maxHeartbeats 1000000 in
theorem leads_any (w : World) :
    Calls Try.prog 28 #[] w fun e w' => LeadsPost w e w' := by
  go_enter Try.func28, Try.ntmps28
  go_wp2
  refine Rg.region_inv (by kernel_rfl) (by kernel_rfl) (LJ w) ?_ ?_ ?_
  · exact LJ.init w _ rfl
  · intro listed a wr i o hs ho hd hE hJ
    have hlt : i < 21 := (Array.getElem?_eq_some_iff.1 ho).1
    have hs : listed.size = 21 := hs
    have hi : i = 0 ∨ i = 1 ∨ i = 2 ∨ i = 3 ∨ i = 4 ∨ i = 5 ∨ i = 6 ∨ i = 7 ∨ i = 8 ∨ i = 9 ∨ i = 10 ∨ i = 11 ∨ i = 12 ∨ i = 13 ∨ i = 14 ∨ i = 15 ∨ i = 16 ∨ i = 17 ∨ i = 18 ∨ i = 19 ∨ i = 20 := by omega
    rcases hi with rfl | rfl | rfl | rfl | rfl | rfl | rfl | rfl | rfl | rfl | rfl | rfl | rfl | rfl | rfl | rfl | rfl | rfl | rfl | rfl | rfl
    · obtain rfl := Option.some.inj ho
      exact .inl (wp_makeMap rfl rfl (hJ.mk0 hs hd))
    · obtain rfl := Option.some.inj ho
      exact .inl (wp_build_pair rfl rfl (hJ.key hs (x := (2, (1, 1), 2)) (by decide)))
    · obtain rfl := Option.some.inj ho
      obtain ⟨w', hr, hJ'⟩ := hJ.ins hs (x := (2, (1, 1), 2)) (by decide) (hE _ (by simp; exact .inl rfl) rfl) (hE _ (by simp; exact .inr rfl) rfl) hd
      exact .inl (wp_insert rfl rfl hr hJ')
    · obtain rfl := Option.some.inj ho
      exact .inl (wp_build_pair rfl rfl (hJ.key hs (x := (4, (2, 2), 3)) (by decide)))
    · obtain rfl := Option.some.inj ho
      obtain ⟨w', hr, hJ'⟩ := hJ.ins hs (x := (4, (2, 2), 3)) (by decide) (hE _ (by simp; exact .inl rfl) rfl) (hE _ (by simp; exact .inr rfl) rfl) hd
      exact .inl (wp_insert rfl rfl hr hJ')
    · obtain rfl := Option.some.inj ho
      exact .inl (wp_build_pair rfl rfl (hJ.key hs (x := (6, (2, 3), 1)) (by decide)))
    · obtain rfl := Option.some.inj ho
      obtain ⟨w', hr, hJ'⟩ := hJ.ins hs (x := (6, (2, 3), 1)) (by decide) (hE _ (by simp; exact .inl rfl) rfl) (hE _ (by simp; exact .inr rfl) rfl) hd
      exact .inl (wp_insert rfl rfl hr hJ')
    · obtain rfl := Option.some.inj ho
      exact .inl (wp_build_pair rfl rfl (hJ.key hs (x := (8, (3, 4), 4)) (by decide)))
    · obtain rfl := Option.some.inj ho
      obtain ⟨w', hr, hJ'⟩ := hJ.ins hs (x := (8, (3, 4), 4)) (by decide) (hE _ (by simp; exact .inl rfl) rfl) (hE _ (by simp; exact .inr rfl) rfl) hd
      exact .inl (wp_insert rfl rfl hr hJ')
    · obtain rfl := Option.some.inj ho
      exact .inl (wp_build_pair rfl rfl (hJ.key hs (x := (10, (2, 5), 5)) (by decide)))
    · obtain rfl := Option.some.inj ho
      obtain ⟨w', hr, hJ'⟩ := hJ.ins hs (x := (10, (2, 5), 5)) (by decide) (hE _ (by simp; exact .inl rfl) rfl) (hE _ (by simp; exact .inr rfl) rfl) hd
      exact .inl (wp_insert rfl rfl hr hJ')
    · obtain rfl := Option.some.inj ho
      exact .inl (wp_build_pair rfl rfl (hJ.key hs (x := (12, (3, 5), 5)) (by decide)))
    · obtain rfl := Option.some.inj ho
      obtain ⟨w', hr, hJ'⟩ := hJ.ins hs (x := (12, (3, 5), 5)) (by decide) (hE _ (by simp; exact .inl rfl) rfl) (hE _ (by simp; exact .inr rfl) rfl) hd
      exact .inl (wp_insert rfl rfl hr hJ')
    · obtain rfl := Option.some.inj ho
      exact .inl (wp_build_pair rfl rfl (hJ.key hs (x := (14, (1, 6), 6)) (by decide)))
    · obtain rfl := Option.some.inj ho
      obtain ⟨w', hr, hJ'⟩ := hJ.ins hs (x := (14, (1, 6), 6)) (by decide) (hE _ (by simp; exact .inl rfl) rfl) (hE _ (by simp; exact .inr rfl) rfl) hd
      exact .inl (wp_insert rfl rfl hr hJ')
    · obtain rfl := Option.some.inj ho
      exact .inl (wp_build_pair rfl rfl (hJ.key hs (x := (16, (2, 6), 6)) (by decide)))
    · obtain rfl := Option.some.inj ho
      obtain ⟨w', hr, hJ'⟩ := hJ.ins hs (x := (16, (2, 6), 6)) (by decide) (hE _ (by simp; exact .inl rfl) rfl) (hE _ (by simp; exact .inr rfl) rfl) hd
      exact .inl (wp_insert rfl rfl hr hJ')
    · obtain rfl := Option.some.inj ho
      exact .inl (wp_build_pair rfl rfl (hJ.key hs (x := (18, (3, 6), 6)) (by decide)))
    · obtain rfl := Option.some.inj ho
      obtain ⟨w', hr, hJ'⟩ := hJ.ins hs (x := (18, (3, 6), 6)) (by decide) (hE _ (by simp; exact .inl rfl) rfl) (hE _ (by simp; exact .inr rfl) rfl) hd
      exact .inl (wp_insert rfl rfl hr hJ')
    · obtain rfl := Option.some.inj ho
      have h0 : Rg.did listed 0 = true := hE ⟨0, .data⟩ (by simp) rfl
      exact .inl (wp_mv (x := .tmp 1) (.inl rfl) rfl (hJ.end1 hs 19 11 _ (.inl ⟨rfl, rfl⟩) (hJ.s1 h0) h0))
    · obtain rfl := Option.some.inj ho
      have h0 : Rg.did listed 0 = true := hE ⟨0, .phase⟩ (by simp) rfl
      have h19 : Rg.did listed 19 = true := hE ⟨19, .data⟩ (by simp) rfl
      exact .inl (wp_mv (x := .tmp 11) (.inr rfl) rfl (hJ.end1 hs 20 0 _ (.inr ⟨rfl, rfl⟩) (hJ.s11 h19) h0))
  · intro listed a wr hall hJ
    obtain ⟨es, c, m, hw, hE, hl⟩ := hJ.made (hall 0 (by decide))
    have h0 := hJ.s0 (hall 20 (by decide))
    go_wp2
    refine bodyPost_ret (v := .map (some w.heap.size)) ?_ hJ.def0 ⟨es, c, m, rfl, hw, hE, fun k => ?_⟩
    · rw [results_tmp rfl, h0]
    · cases hm : Mp.look m k with
      | some v =>
        obtain ⟨x, hx, _, h'⟩ := (hl k v).1 hm
        exact (find_leads ⟨x, hx, h'⟩).symm
      | none =>
        cases hf : leadsF k with
        | none => rfl
        | some v =>
          exfalso
          unfold leadsF at hf
          simp only [Option.map_eq_some_iff] at hf
          obtain ⟨x, hx, rfl⟩ := hf
          have h1 := List.mem_of_find?_eq_some hx
          have h2 : x.2.1 = k := by simpa using List.find?_some hx
          have hb := leadsD_facts x h1
          have := (hl k (.int .i64 x.2.2)).2 ⟨x, h1, hall _ (by simp; omega), h2, rfl⟩
          rw [hm] at this; cases this
end Go.Proofs.Ytaopekoehaccbaa
