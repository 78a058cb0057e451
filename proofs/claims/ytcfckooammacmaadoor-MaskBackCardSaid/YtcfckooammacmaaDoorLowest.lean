/-
  mask.lows, mask.Lowest: contracts.
-/
import Derived.RangeFuncNested
import Derived.RangeFuncBound
import Derived.RangeFuncCalls
import Derived.RangeFuncLeaves
import Derived.Shelf.Abstract
import Derived.Shelf.RegionOpen
import Derived.WalkKit
import Derived.OwnWalkIn
import Derived.TacticsInMore
import Derived.LoopNIn
import Derived.LoopIn
import Derived.Test.YtcfckooammacmaaDoorIterLaw
import Derived.Test.YtcfckooammacmaaDoorMaskLaw
import Derived.Test.YtcfckooammacmaaDoorPop
import Derived.Outline
set_option linter.unusedVariables false
set_option linter.unusedSimpArgs false
namespace Go.Proofs.YtcfckooammacmaaDoor
open Go.RowKit Go.Shelf

attribute [local go_sem] Oper.semAt_some

abbrev U64 := Fin 64
def ubit (x : Fin 64) : Nat := 2 ^ x.val
theorem ubit_lt (x : Fin 64) : ubit x < 18446744073709551616 := by
  unfold ubit
  have := Nat.pow_lt_pow_right (a := 2) (by omega) x.isLt
  simpa using this

/-- the units as numbers below 64 -/
theorem units_fin (m : Nat) : ∃ L : List (Fin 64), L.map Fin.val = Mk.units m := by
  refine ⟨(Mk.units m).attach.map (fun u => ⟨u.1, ((Mk.mem_units m u.1).1 u.2).1⟩), ?_⟩
  rw [List.map_map]
  exact List.attach_map_subtype_val _

theorem low_law (m : Nat) (h : m < 18446744073709551616) (h0 : 0 < m) : ∃ (x : Fin 64) (m' : Nat), Mk.units m = x.val :: Mk.units m' ∧ m' < m ∧
    bits .and .u64 (m : Int) (IntKind.u64.wrap (-(m : Int))) = ((ubit x : Nat) : Int) ∧ bits .and .u64 (m : Int) ((m : Int) - 1) = (m' : Int) := by
  have h' : m < 2 ^ 64 := by simpa using h
  obtain ⟨h1, h2⟩ := Mk.tz_lt 64 m h' h0
  have hp : 0 < 2 ^ Mk.tz 64 m := Nat.two_pow_pos _
  refine ⟨⟨Mk.tz 64 m, h1⟩, m - 2 ^ Mk.tz 64 m, ?_, by omega, ?_, ?_⟩
  · have := Mk.us_step 64 0 m h' h0
    simpa [Mk.units] using this
  · have e : IntKind.u64.wrap (-(m : Int)) = ((18446744073709551616 - m : Nat) : Int) := by rw [IntKind.wrap_u64]; omega
    rw [e, u64_and_nat m _ h (by omega)]
    have := Mk.and_neg 64 m h' h0
    simp only [Nat.reducePow] at this
    rw [this]; rfl
  · have e : (m : Int) - 1 = ((m - 1 : Nat) : Int) := by omega
    rw [e, u64_and_nat m _ h (by omega), Mk.and_pred 64 m h' h0]

def cellNat (w : World) (a : Addr) : Nat := match w.cell? a with
  | some (.int _ x) => x.toNat
  | _ => 0

set_option maxRecDepth 100000 in
set_option maxHeartbeats 1000000 in
theorem lows1_in (F : Fence) (n : Nat) (h12 : F.fn 24) (hro : F.round = none) (hn : 1 ≤ n) (l Bm m : Nat) (hm : m < 18446744073709551616) (L : List (Fin 64)) (hL : L.map Fin.val = Mk.units m) (J Jx : List (Fin 64) → World → Prop)
    (hJc : ∀ s W v, J s W → J s (W.setCell ⟨Bm, 0, none⟩ v)) (hJxc : ∀ s W v, Jx s W → Jx s (W.setCell ⟨Bm, 0, none⟩ v))
    (hY : ∀ pre x W, J pre W → pre.length < L.length → YieldAt F (n - 1) Tryd.prog l #[.int .u64 ((ubit x : Nat) : Int)] W fun e W' =>
      (e = .returned (.bool true) ∧ J (pre ++ [x]) W' ∧ (W'.cell? ⟨Bm, 0, none⟩ = W.cell? ⟨Bm, 0, none⟩ ∧ W'.frozen? ⟨Bm, 0, none⟩ = W.frozen? ⟨Bm, 0, none⟩)) ∨ (e = .returned (.bool false) ∧ Jx (pre ++ [x]) W'))
    (W : World) (hc : W.cell? ⟨Bm, 0, none⟩ = some (.int .u64 m)) (hf : W.frozen? ⟨Bm, 0, none⟩ = false) (h0 : J [] W) :
    CallsIn F n Tryd.prog 24 #[.func (.yield l) #[] #[], .pointer (some ⟨Bm, 0, none⟩)] W fun e W' => (∃ v, e = .returned v) ∧
      ((∃ ys, ys = L ∧ J ys W') ∨ (∃ pre, pre <+: L ∧ Jx pre W')) := by
  refine callsIn_of_wp Tryd.func24 rfl h12 ?_ hro
  simp only [Tryd.ntmps24, List.size_toArray, List.length_cons, List.length_nil, Nat.reduceAdd, Nat.reduceSub, Array.replicate_succ, Array.replicate_zero, List.push_toArray, List.append_toArray, List.nil_append, List.cons_append]
  gi_wp2
  gi_loopw [3] (fun p wr => ∃ (pre rest : List (Fin 64)) (k : Nat), L = pre ++ rest ∧ k < 18446744073709551616 ∧ wr.cell? ⟨Bm, 0, none⟩ = some (.int .u64 k) ∧ wr.frozen? ⟨Bm, 0, none⟩ = false ∧ rest.map Fin.val = Mk.units k ∧ J pre wr)
    (fun p wr => cellNat wr ⟨Bm, 0, none⟩)
  case atStart =>
    exact ⟨[], L, m, rfl, hm, hc, hf, hL, h0⟩
  case round =>
    obtain ⟨pre, rest, k, hx, hk, hck, hfk, hrest, hJs⟩ := hrel
    have HR := Lib.hid hrest; have HX := Lib.hid hx; have HL := Lib.hid hL; have HK := Lib.hid hck
    clear hc hf hrest hx hL
    by_cases hk0 : k = 0
    · subst hk0
      gi_wp2
      go_end0
      have : rest = [] := by have := HR.out; simp [Mk.units, Mk.us_zero] at this; exact this
      exact ⟨⟨_, rfl⟩, .inl ⟨pre, by rw [HX.out, this]; simp, hJs⟩⟩
    · obtain ⟨x, k', e1, e2, e3, e4⟩ := low_law k hk (by omega)
      have HE := Lib.hid e1; have HE4 := Lib.hid e4
      clear e1 e4
      obtain ⟨y, rest', rfl, hy1, hy2⟩ : ∃ y rest', rest = y :: rest' ∧ y = x ∧ rest'.map Fin.val = Mk.units k' := by
        have h1 := HR.out
        rw [HE.out] at h1
        cases rest with
        | nil => simp at h1
        | cons y r => simp only [List.map_cons, List.cons.injEq] at h1; exact ⟨y, r, rfl, Fin.ext h1.1, h1.2⟩
      subst hy1
      have HY2 := Lib.hid hy2
      clear hy2
      obtain ⟨fn, tmps, assign, body, hy, hR⟩ := hY pre y wr hJs (by rw [HX.out]; simp)
      clear hY
      have hkne : (k : Int) ≠ 0 := by omega
      gi_wp2
      refine hR.mono ?_
      rintro e W3 (⟨rfl, hJ3, hk3, hf3⟩ | ⟨rfl, hJx3⟩)
      · have hc3 : W3.cell? ⟨Bm, 0, none⟩ = some (.int .u64 k) := hk3.trans HK.out
        have hf3' : W3.frozen? ⟨Bm, 0, none⟩ = false := hf3.trans hfk
        have e4 := HE4.out
        clear hk3 hf3 hck hfk hy e3
        gi_wp2
        go_roundw
        case rel => exact ⟨pre ++ [y], rest', k', by rw [HX.out]; simp, by omega, World.cell?_setCell_same' _ _ _ (by rw [hc3]; rfl), by rw [World.frozen?_setCell]; exact hf3', HY2.out, hJc _ _ _ hJ3⟩
        case measure =>
          have a1 : cellNat wr ⟨Bm, 0, none⟩ = k := by unfold cellNat; rw [HK.out]; simp
          have a2 : cellNat (W3.setCell ⟨Bm, 0, none⟩ (.int .u64 (k' : Int))) ⟨Bm, 0, none⟩ = k' := by unfold cellNat; rw [World.cell?_setCell_same' _ _ _ (by rw [hc3]; rfl)]; simp
          rw [a1, a2]; exact e2
      · gi_wp2
        refine bodyPost_ret (results_none rfl _ _ _) rfl ?_
        exact ⟨⟨_, rfl⟩, .inr ⟨pre ++ [y], ⟨rest', by rw [HX.out]; simp⟩, hJx3⟩⟩

theorem lows_in (F : Fence) (n : Nat) (h10 : F.fn 18) (hro : F.round = none) (m : Int) (w : World) :
    CallsIn F n Tryd.prog 18 #[.int .u64 m] w fun e w' => e = .returned (.func (.func 24) #[] #[.pointer (some ⟨w.heap.size, 0, none⟩)]) ∧ w' = w.alloc (.cells #[.int .u64 m] 22) := by
  refine callsIn_of_wp Tryd.func18 rfl h10 ?_ hro
  simp only [Tryd.ntmps18, List.size_toArray, List.length_cons, List.length_nil, Nat.reduceAdd, Nat.reduceSub, Array.replicate_succ, Array.replicate_zero, List.push_toArray, List.append_toArray, List.nil_append, List.cons_append]
  gi_wp2
  go_ret
  exact ⟨rfl, rfl⟩

theorem lows_stops (F : Fence) (n : Nat) (h12 : F.fn 24) (hro : F.round = none) (hn : 1 ≤ n) (Bm m : Nat) (hm : m < 18446744073709551616) (L : List (Fin 64)) (hL : L.map Fin.val = Mk.units m) (w : World) (hBn : Bm < w.heap.size)
    (hc : w.cell? ⟨Bm, 0, none⟩ = some (.int .u64 m)) (hf : w.frozen? ⟨Bm, 0, none⟩ = false) :
    SeqCell F n Tryd.prog 24 #[.pointer (some ⟨Bm, 0, none⟩)] (fun x : Fin 64 => #[Value.int .u64 ((ubit x : Nat) : Int)]) (fun A B => B.cell? ⟨Bm, 0, none⟩ = A.cell? ⟨Bm, 0, none⟩ ∧ B.frozen? ⟨Bm, 0, none⟩ = A.frozen? ⟨Bm, 0, none⟩) ⟨Bm, 0, none⟩
      (fun ys => ys = L) (fun pre => pre <+: L) L.length w := fun l J Jx W hW _ _ hJc hJxc hY h0 =>
  lows1_in F n h12 hro hn l Bm m hm L hL J Jx hJc hJxc hY W ((hW.cell (p := ⟨Bm, 0, none⟩) hBn).trans hc) ((hW.frozen (p := ⟨Bm, 0, none⟩) hBn).trans hf) h0
end Go.Proofs.YtcfckooammacmaaDoor
