/-
  Slices of numbers as they read; the mask of units in whatever order (plain).
-/
import Derived.Test.YtcfckooammacmaaDoorUsLaw
import Derived.Test.YtcfckooammacmaaDoorRead
set_option linter.unusedVariables false
namespace Go.Proofs.YtcfckooammacmaaDoor
open Go.RowKit

def I64.cells (x : Int) : List Value := [.int .i64 x]
def I64.wf (x : Int) : Prop := (Lit.int .i64 x).wf = true
def I64.ks : List Rd.Fk := [.int .i64]
theorem I64.of_fits {cs : List Value} (h : Rd.Fits I64.ks cs) : ∃ x : Int, cs = I64.cells x ∧ I64.wf x := by
  obtain ⟨_, r0, rfl, ⟨n0, rfl, w0⟩, h0⟩ := Rd.Fits.cons h
  obtain rfl := Rd.Fits.nil h0
  exact ⟨n0, rfl, w0⟩

/-- a slice value that holds the numbers xs -/
def Is (w : World) (a : Option Addr) (cap : Nat) (xs : List Int) : Prop :=
  xs.length = 0 ∨ ∃ b off, a = some ⟨b, off, none⟩ ∧ b < w.heap.size ∧ xs.length ≤ cap ∧ cap ≤ maxLen ∧ ∀ i (h : i < xs.length), w.cell? ⟨b, off + i, none⟩ = some (.int .i64 xs[i])

theorem Is.later {w w' : World} {cap : Nat} {a : Option Addr} {xs : List Int} (h : Is w a cap xs) (hb : Below w.heap.size w w') : Is w' a cap xs := by
  rcases h with h | ⟨b, off, h1, h3, h4, h5, h6⟩
  · exact .inl h
  · exact .inr ⟨b, off, h1, by have := hb.size; omega, h4, h5, fun i hi => (hb.cell (p := ⟨b, off + i, none⟩) h3).trans (h6 i hi)⟩
theorem Is.at {w : World} {cap : Nat} {a : Option Addr} {xs : List Int} (h : Is w a cap xs) {i : Nat} (hi : i < xs.length) :
    ∃ b off, a = some ⟨b, off, none⟩ ∧ b < w.heap.size ∧ xs.length ≤ cap ∧ cap ≤ maxLen ∧ w.cell? ⟨b, off + i, none⟩ = some (.int .i64 xs[i]) := by
  rcases h with h | ⟨b, off, h1, h3, h4, h5, h6⟩
  · omega
  · exact ⟨b, off, h1, h3, h4, h5, h6 i hi⟩
theorem Is.take {w : World} {cap : Nat} {a : Option Addr} {xs : List Int} (h : Is w a cap xs) (k : Nat) : Is w a cap (xs.take k) := by
  rcases h with h | ⟨b, off, h1, h3, h4, h5, h6⟩
  · exact .inl (by rw [List.length_take]; omega)
  · exact .inr ⟨b, off, h1, h3, by simp; omega, h5, fun i hi => by
      rw [List.getElem_take]; exact h6 i (by simp at hi; omega)⟩
theorem Us.is {w : World} {B cap : Nat} {a : Option Addr} {L : List (Fin 64)} (h : Us w B a cap L) : Is w a cap (L.map fun x => (x.val : Int)) := by
  rcases h with h | ⟨g, h1, h2, h3, h4, h5, h6⟩
  · exact .inl (by simpa using h)
  · exact .inr ⟨g, 0, h1, h3, by simpa using h4, h5, fun i hi => by
      rw [Nat.zero_add, List.getElem_map]; exact h6 i (by simpa using hi)⟩
theorem is_of {w : World} {v : Value} {xs : List Int} (h : Rd.SliceOf w v 1 I64.cells xs) : ∃ a cap, v = .slice a xs.length cap ∧ Is w a cap xs := by
  by_cases hn : xs = []
  · obtain ⟨a, cap, rfl⟩ := h.form
    exact ⟨a, cap, rfl, .inl (by simp [hn])⟩
  · obtain ⟨b, off, cap, rfl, h1, h2, h3, h4⟩ := h.plain hn (fun x _ => by simp [I64.cells])
    exact ⟨_, cap, rfl, .inr ⟨b, off, rfl, h3, h1, h2, fun i hi => by simpa [I64.cells] using h4 i hi 0 (by simp [I64.cells])⟩⟩

namespace Mk
theorem or_add_and (a b : Nat) : (a ||| b) + (a &&& b) = a + b := by
  induction a using Nat.strongRecOn generalizing b with
  | _ a ih =>
    by_cases h : a = 0
    · subst h; simp
    · have h1 := ih (a / 2) (by omega) (b / 2)
      have h2 := or_two a b
      have e1 : (a ||| b) / 2 = a / 2 ||| b / 2 := Nat.or_div_two
      have e2 : (a &&& b) / 2 = a / 2 &&& b / 2 := Nat.and_div_two
      omega
theorem and_bit {a u : Nat} (h : a.testBit u = false) : a &&& 2 ^ u = 0 := by
  refine Nat.eq_of_testBit_eq fun i => ?_
  rw [Nat.testBit_and, Nat.testBit_two_pow, Nat.zero_testBit]
  by_cases e : u = i
  · subst e; simp [h]
  · simp [e]
theorem or_bit {a u : Nat} (h : a.testBit u = false) : a ||| 2 ^ u = a + 2 ^ u := by
  have := or_add_and a (2 ^ u)
  rw [and_bit h] at this
  omega
theorem dis : ∀ (l : List Nat), l.Nodup → (∀ u ∈ l, u < 64) → maskOf l < 2 ^ 64 ∧ ∀ i, (maskOf l).testBit i = decide (i ∈ l)
  | [], _, _ => ⟨by simp [maskOf], fun i => by simp [maskOf]⟩
  | u :: r, hn, hb => by
    rw [List.nodup_cons] at hn
    obtain ⟨h1, h2⟩ := dis r hn.2 (fun x hx => hb x (List.mem_cons_of_mem _ hx))
    have hu : (maskOf r).testBit u = false := by rw [h2]; simpa using hn.1
    have e : maskOf (u :: r) = maskOf r ||| 2 ^ u := by rw [or_bit hu, maskOf, Nat.add_comm]
    rw [e]
    refine ⟨Nat.or_lt_two_pow h1 (Nat.pow_lt_pow_right (by omega) (hb u (by simp))), fun i => ?_⟩
    rw [Nat.testBit_or, h2, Nat.testBit_two_pow]
    by_cases e : u = i
    · subst e; simp
    · by_cases e' : i ∈ r <;> simp [e, e', Ne.symm e]
theorem units_filter {m : Nat} (hm : m < 2 ^ 64) : (List.range 64).filter (fun i => m.testBit i) = units m := by
  have hI : Incr ((List.range 64).filter fun i => m.testBit i) := ⟨List.pairwise_lt_range.filter _, fun u hu => by simp at hu; exact hu.1⟩
  have e : maskOf ((List.range 64).filter fun i => m.testBit i) = m := bits_ext hI.mlt hm fun i hi => by
    rw [hI.bit]; simp [hi]
  have := hI.un
  rw [e] at this
  exact this.symm
end Mk

/-- what the mask of units is, or why there is none -/
def ofG : List Int → List Int → Int × Int
  | pre, [] => ((Mk.maskOf (pre.map Int.toNat) : Nat), 0)
  | pre, u :: r => if u < 0 ∨ 63 < u then (0, 1) else if u ∈ pre then (0, 4) else ofG (pre ++ [u]) r

structure Seen (pre : List Int) : Prop where
  rng : ∀ u ∈ pre, 0 ≤ u ∧ u ≤ 63
  nd : pre.Nodup
theorem Seen.nil : Seen [] := ⟨(fun _ h => by cases h), List.nodup_nil⟩
theorem Seen.snoc {pre : List Int} (h : Seen pre) {u : Int} (h0 : 0 ≤ u ∧ u ≤ 63) (hn : u ∉ pre) : Seen (pre ++ [u]) :=
  { rng := fun x hx => by
      rcases List.mem_append.1 hx with hx | hx
      · exact h.rng x hx
      · obtain rfl : x = u := by simpa using hx
        exact h0
    nd := by
      rw [List.nodup_append]
      exact ⟨h.nd, by simp, fun a ha b hb e => by
        obtain rfl : b = u := by simpa using hb
        exact hn (e ▸ ha)⟩ }
theorem Seen.nat {pre : List Int} (h : Seen pre) : (pre.map Int.toNat).Nodup ∧ ∀ u ∈ pre.map Int.toNat, u < 64 := by
  constructor
  · rw [List.Nodup, List.pairwise_map]
    refine List.Pairwise.imp_of_mem (R := (· ≠ ·)) (fun {a b} ha hb hne e => hne ?_) h.nd
    have := h.rng a ha; have := h.rng b hb; omega
  · intro u hu
    obtain ⟨x, hx, rfl⟩ := List.mem_map.1 hu
    have := h.rng x hx; omega
theorem Seen.mem {pre : List Int} (h : Seen pre) {u : Nat} : (u ∈ pre.map Int.toNat) ↔ (u : Int) ∈ pre := by
  rw [List.mem_map]
  constructor
  · rintro ⟨x, hx, rfl⟩
    have := h.rng x hx
    rwa [show ((x.toNat : Nat) : Int) = x by omega]
  · exact fun hu => ⟨u, hu, by simp⟩
theorem Seen.lt {pre : List Int} (h : Seen pre) : Mk.maskOf (pre.map Int.toNat) < 18446744073709551616 := by have := (Mk.dis _ h.nat.1 h.nat.2).1; omega
theorem Seen.bit {pre : List Int} (h : Seen pre) (u : Nat) : (Mk.maskOf (pre.map Int.toNat)).testBit u = decide ((u : Int) ∈ pre) := by
  rw [(Mk.dis _ h.nat.1 h.nat.2).2, decide_eq_decide]; exact h.mem
theorem maskI_snoc (pre : List Int) (u : Nat) : Mk.maskOf ((pre ++ [(u : Int)]).map Int.toNat) = Mk.maskOf (pre.map Int.toNat) + 2 ^ u := by
  rw [List.map_append, Mk.maskOf_append]; simp [Mk.maskOf]
theorem Seen.or {pre : List Int} (h : Seen pre) {u : Nat} (hu : u < 64) (hn : (u : Int) ∉ pre) :
    Go.bits .or .u64 ((Mk.maskOf (pre.map Int.toNat) : Nat) : Int) ((2 ^ u : Nat) : Int) = ((Mk.maskOf ((pre ++ [(u : Int)]).map Int.toNat) : Nat) : Int) := by
  have hp : 2 ^ u < 18446744073709551616 := by have := Nat.pow_lt_pow_right (a := 2) (by omega) hu; simpa using this
  rw [u64_or_nat _ _ h.lt hp, Mk.or_bit (by rw [h.bit]; simpa using hn), maskI_snoc]
end Go.Proofs.YtcfckooammacmaaDoor
