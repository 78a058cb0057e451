/-
  wire: the document's Few; what its PutConfig builds, in plain Lean.
-/
import Derived.Test.YtghfdiaaonjofaaWireCfg3
import Derived.Test.YtghfdiaaonjofaaRefWire5
set_option linter.unusedVariables false
set_option linter.unusedSimpArgs false
namespace Go.Proofs.Ytghfdiaaonjofaa
open Go.RowKit

def fewC (ns : List (List Dm)) (qs : List Qu) : Bool := decide (ns.length ≤ 300) && decide (qs.length ≤ 300) && decide (dtot ns ≤ 600)
theorem dtot_snoc {ns : List (List Dm)} {k : Nat} (hk : k < ns.length) : dtot (ns.take (k + 1)) = dtot (ns.take k) + ns[k].length := by
  rw [take_snoc hk]; unfold dtot; rw [List.map_append, List.sum_append]; simp
set_option maxHeartbeats 2000000 in
theorem rfew_any (nv qv : Value) (ns : List (List Dm)) (qs : List Qu) (wk tm rt ag : Int) (w : World) (hn : NodesOf w nv ns) (hq : Rd.SliceOf w qv 3 Qu.cells qs) (hd : dtot ns ≤ 1048576) :
    Calls Try.prog 12 #[.agg #[nv, qv, .int .i64 wk, .int .i64 tm, .int .i64 rt, .int .i64 ag]] w fun e w' => e = .returned (.bool (fewC ns qs)) ∧ Below w.heap.size w w' := by
  obtain ⟨na, ncap, hnv⟩ := hn.form
  obtain ⟨qa, qcap, hqv⟩ := hq.form
  obtain ⟨nn, hnn⟩ : ∃ nn, ns.length = nn := ⟨_, rfl⟩
  obtain ⟨qn, hqn⟩ : ∃ qn, qs.length = qn := ⟨_, rfl⟩
  obtain ⟨res, hres⟩ : ∃ res, fewC ns qs = res := ⟨_, rfl⟩
  have HRES := Lib.hid (show res = (decide (nn ≤ 300) && decide (qn ≤ 300) && decide (dtot ns ≤ 600)) by rw [← hres, ← hnn, ← hqn]; rfl)
  rw [hres]
  have HNN := Lib.hid hnn; have HNO := Lib.hid hn; have HD := Lib.hid hd
  rw [hnn] at hnv
  rw [hqn] at hqv
  subst hnv hqv
  clear hn hq hres hnn hqn hd
  have hW0 := (Below.refl w.heap.size w).alloc (Nat.le_refl _) (.cells #[.slice na nn ncap, .slice qa qn qcap, .int .i64 wk, .int .i64 tm, .int .i64 rt, .int .i64 ag] 43)
  have hC := World.alloc_heap_new w (.cells #[.slice na nn ncap, .slice qa qn qcap, .int .i64 wk, .int .i64 tm, .int .i64 rt, .int .i64 ag] 43)
  by_cases h1 : 300 < nn
  · have d1 : decide (300 < (nn : Int)) = true := by simp; omega
    have hr : res = false := by rw [HRES.out]; simp; omega
    subst hr
    clear h1
    have HB := Lib.hid hW0
    clear hW0 hC
    go_enter Try.func12, Try.ntmps12
    go_wp2_with fail
    go_ret
    exact ⟨rfl, HB.out⟩
  have d1 : decide (300 < (nn : Int)) = false := by simp; omega
  by_cases h2 : 300 < qn
  · have d2 : decide (300 < (qn : Int)) = true := by simp; omega
    have hr : res = false := by rw [HRES.out]; simp; omega
    subst hr
    clear h1 h2
    have HB := Lib.hid hW0
    clear hW0 hC
    go_enter Try.func12, Try.ntmps12
    go_wp2_with fail
    go_ret
    exact ⟨rfl, HB.out⟩
  have d2 : decide (300 < (qn : Int)) = false := by simp; omega
  have hn3 : nn ≤ 300 := by omega
  have HR2 := Lib.hid (show res = decide (dtot ns ≤ 600) by rw [HRES.out]; simp; omega)
  have lC := lt_of_block hC
  have HC := Lib.hid hC; have HW0 := Lib.hid hW0
  clear h1 h2 hC hW0 HRES lC
  go_enter Try.func12, Try.ntmps12
  go_upto_region 3 with fail
  generalize w.alloc (.cells #[.slice na nn ncap, .slice qa qn qcap, .int .i64 wk, .int .i64 tm, .int .i64 rt, .int .i64 ag] 43) = w1 at HC HW0 ⊢
  obtain ⟨C, hCe⟩ : ∃ C, w.heap.size = C := ⟨_, rfl⟩
  rw [hCe] at HC ⊢
  clear hCe
  have c0 := cell_of_block HC.out 0; have lC := lt_of_block HC.out
  go_wp2_with fail
  go_loopw [3, 4] (fun s i wr => ∃ (k t : Nat), k ≤ nn ∧ i = .int .i64 k ∧ s = .int .i64 t ∧ t ≤ 1048576 ∧ Hid (t = dtot (ns.take k)) ∧ wr = w1) (fun _ i _ => nn - (intOf i).toNat)
  case atStart => exact ⟨0, 0, Nat.zero_le _, rfl, rfl, by omega, Lib.hid rfl, rfl⟩
  case round =>
    obtain ⟨k, t, hk, rfl, rfl, ht, hT, rfl⟩ := hrel
    by_cases hlt : k < nn
    · have hkn : k < ns.length := by rw [HNN.out]; exact hlt
      obtain ⟨ds, hds⟩ : ∃ ds, ns[k] = ds := ⟨_, rfl⟩
      obtain ⟨b, off, cap3, hv, hc1, hc2, hb, hat⟩ := HNO.out.plain (fun e => by rw [e] at hkn; simp at hkn)
      simp only [Value.slice.injEq] at hv
      obtain ⟨rfl, -, rfl⟩ := hv
      obtain ⟨u, hu, hsu⟩ := hat k hkn
      rw [hds] at hsu
      obtain ⟨ua, ucap, hue⟩ := hsu.form
      obtain ⟨m, hm⟩ : ∃ m, ds.length = m := ⟨_, rfl⟩
      rw [hm] at hue
      subst hue
      have hsn := dtot_snoc hkn
      have htk := dtot_take ns hkn
      rw [hds, hm, ← hT.out] at htk
      have htm : t + m ≤ 1048576 := Nat.le_trans htk HD.out
      rw [hds, hm, ← hT.out] at hsn
      have HSN := Lib.hid hsn
      have e0 := (HW0.out.cell (p := ⟨b, off + k, none⟩) hb).trans hu
      have lb := Nat.lt_of_lt_of_le hb HW0.out.size
      clear hds hsu hm hu hat hc1 hc2 hsn htk
      go_wp2_with fail
      exact ⟨⟨k + 1, t + m, by omega, by go_num, by go_num, htm, Lib.hid HSN.out.symm, by first | rfl | trivial⟩, by simp [intOf]; omega⟩
    · obtain rfl : k = nn := by omega
      have hend := hT.out
      rw [show (ns.take k) = ns from List.take_of_length_le (by rw [HNN.out]; exact Nat.le_refl _)] at hend
      have hr : res = decide (t ≤ 600) := by rw [HR2.out, ← hend]
      have hdt : decide ((t : Int) ≤ 600) = decide (t ≤ 600) := by
        by_cases h : t ≤ 600
        · rw [decide_eq_true h, decide_eq_true (by omega)]
        · rw [decide_eq_false h, decide_eq_false (by omega)]
      have HQ := Lib.hid (hdt.trans hr.symm)
      clear hr hdt hend hlt hk
      go_wp2_with fail
      go_ret
      exact ⟨by rw [← HQ.out]; rfl, HW0.out⟩
/-- numbers as the document cuts them into bytes -/
def rbN (L : List (Nat × Int)) : List Int := L.flatMap fun p => rb p.2 p.1
theorem rbN_append (a b : List (Nat × Int)) : rbN (a ++ b) = rbN a ++ rbN b := by unfold rbN; rw [List.flatMap_append]
theorem fitN_append (a b : List (Nat × Int)) : fitN (a ++ b) = (fitN a && fitN b) := by unfold fitN; rw [List.all_append]
theorem rbN_fit : ∀ {L : List (Nat × Int)}, fitN L = true → rbN L = putN L
  | [], _ => rfl
  | p :: r, h => by
    unfold fitN at h
    rw [List.all_cons, Bool.and_eq_true] at h
    have ih := rbN_fit (L := r) h.2
    unfold rbN putN at ih ⊢
    rw [List.flatMap_cons, List.flatMap_cons, ih, rb_nn (of_decide_eq_true h.1).1]
theorem rbN_len : ∀ (L : List (Nat × Int)), (∀ p ∈ L, p.1 ≤ 3) → (rbN L).length ≤ 3 * L.length
  | [], _ => by simp [rbN]
  | p :: r, h => by
    have ih := rbN_len r fun q hq => h q (List.mem_cons_of_mem _ hq)
    have h1 := h p (List.mem_cons_self ..)
    unfold rbN at ih ⊢
    rw [List.flatMap_cons, List.length_append, rb_len, List.length_cons]
    omega
/-- the part that does not lie in a loop -/
def fit0 (nn qn : Nat) (wk tm rt ag : Int) : Bool := fitN [(1, (nn : Int))] && fitN [(1, (qn : Int))] && fitN [(1, wk)] && fitN [(1, tm)] && fitN [(2, rt)] && fitN [(2, ag)]
set_option maxRecDepth 100000 in
theorem fit_all (ns : List (List Dm)) (qs : List Qu) (wk tm rt ag : Int) : fitN (cfgL ns qs wk tm rt ag) = (fit0 ns.length qs.length wk tm rt ag && fitN (bitsC ns) && fitN (bitsQ qs)) := by
  have e1 : cfgL ns qs wk tm rt ag = [(1, (ns.length : Int))] ++ bitsC ns ++ [(1, (qs.length : Int))] ++ bitsQ qs ++ [(1, wk)] ++ [(1, tm)] ++ [(2, rt)] ++ [(2, ag)] := by unfold cfgL; simp
  rw [e1]
  unfold fit0
  simp only [fitN_append]
  ac_rfl
end Go.Proofs.Ytghfdiaaonjofaa
