/-
  The law MaskBack: its walk.
-/
import Derived.Test.YtcfckooammacmaaDoorOfW
import Derived.BigQuiet
set_option linter.unusedVariables false
set_option linter.unusedSimpArgs false
namespace Go.Proofs.YtcfckooammacmaaDoor
open Go.RowKit

/-- what has a mask is numbers from 0 to 63, each once; the mask's units are these -/
theorem ofG_ok : ∀ (r pre : List Int), Seen pre → ∀ o, ofG pre r = (o, 0) → Seen (pre ++ r) ∧ o = ((Mk.maskOf ((pre ++ r).map Int.toNat) : Nat) : Int)
  | [], pre, h, o, e => by
    unfold ofG at e
    simp only [Prod.mk.injEq] at e
    rw [List.append_nil]
    exact ⟨h, e.1.symm⟩
  | u :: r, pre, h, o, e => by
    unfold ofG at e
    by_cases h1 : u < 0 ∨ 63 < u
    · rw [if_pos h1] at e; simp at e
    · rw [if_neg h1] at e
      by_cases h2 : u ∈ pre
      · rw [if_pos h2] at e; simp at e
      · rw [if_neg h2] at e
        have := ofG_ok r (pre ++ [u]) (h.snoc (by omega) h2) o e
        rwa [List.append_assoc] at this
theorem ofG_err : ∀ (r pre : List Int) (o q : Int), ofG pre r = (o, q) → q ≠ 0 → o = 0
  | [], pre, o, q, e, h => by unfold ofG at e; simp only [Prod.mk.injEq] at e; exact absurd e.2.symm h
  | u :: r, pre, o, q, e, h => by
    unfold ofG at e
    by_cases h1 : u < 0 ∨ 63 < u
    · rw [if_pos h1] at e; simp only [Prod.mk.injEq] at e; exact e.1.symm
    · rw [if_neg h1] at e
      by_cases h2 : u ∈ pre
      · rw [if_pos h2] at e; simp only [Prod.mk.injEq] at e; exact e.1.symm
      · rw [if_neg h2] at e; exact ofG_err r _ o q e h
/-- rising numbers below 64 are taken -/
theorem ofG_take : ∀ (r pre : List Int), Seen (pre ++ r) → ofG pre r = (((Mk.maskOf ((pre ++ r).map Int.toNat) : Nat) : Int), 0)
  | [], pre, h => by unfold ofG; rw [List.append_nil]
  | u :: r, pre, h => by
    have h1 := h.rng u (by simp)
    have h2 : u ∉ pre := fun e => (List.nodup_append.1 h.nd).2.2 u e u (by simp) rfl
    unfold ofG
    rw [if_neg (by omega), if_neg h2, ofG_take r (pre ++ [u]) (by rw [List.append_assoc]; exact h), List.append_assoc]
    rfl
theorem ofG_units {m : Nat} (hm : m < 2 ^ 64) (L : List (Fin 64)) (hL : L.map Fin.val = Mk.units m) : ofG [] (L.map fun x => (x.val : Int)) = ((m : Int), 0) := by
  have hmap : (L.map fun x => (x.val : Int)).map Int.toNat = Mk.units m := by
    rw [List.map_map, ← hL]; exact List.map_congr_left fun x _ => by simp
  have hS : Seen ([] ++ L.map fun x => (x.val : Int)) := by
    rw [List.nil_append]
    refine { rng := fun u hu => ?_, nd := ?_ }
    · obtain ⟨x, _, rfl⟩ := List.mem_map.1 hu
      have := x.isLt; omega
    · have h1 : (Mk.units m).Nodup := (Mk.units_incr m).imp (fun h => Nat.ne_of_lt h)
      rw [← hL] at h1
      rw [List.Nodup, List.pairwise_map]
      rw [List.Nodup, List.pairwise_map] at h1
      exact h1.imp fun h e => h (by omega)
  have := ofG_take _ _ hS
  rw [List.nil_append, hmap, Mk.maskOf_units hm] at this
  exact this

theorem cnt_dis : ∀ (l : List Nat), l.Nodup → (∀ u ∈ l, u < 64) → Mk.cnt (Mk.maskOf l) = l.length
  | [], _, _ => by rw [← Mk.units_len]; simp [Mk.maskOf, Mk.units, Mk.us_zero]
  | u :: r, hn, hb => by
    rw [List.nodup_cons] at hn
    have hbr : ∀ x ∈ r, x < 64 := fun x hx => hb x (List.mem_cons_of_mem _ hx)
    have h1 := cnt_dis r hn.2 hbr
    have hu : (Mk.maskOf r).testBit u = false := by rw [(Mk.dis r hn.2 hbr).2]; simpa using hn.1
    have h2 := Mk.cnt_two (Mk.maskOf r) (2 ^ u)
    have h3 : Mk.Incr [u] := ⟨List.pairwise_singleton _ _, fun x hx => by
      obtain rfl : x = u := by simpa using hx
      exact hb x (by simp)⟩
    have h4 := h3.cnt
    have h5 : Mk.maskOf [u] = 2 ^ u := by simp [Mk.maskOf]
    have h6 : Mk.cnt 0 = 0 := by rw [← Mk.units_len]; simp [Mk.units, Mk.us_zero]
    rw [h5] at h4
    rw [Mk.or_bit hu, Mk.and_bit hu, h6, h4, h1] at h2
    rw [Mk.maskOf, Nat.add_comm]
    simp only [List.length_cons, List.length_nil] at h2 ⊢
    omega

/-- the units of a mask of xs: just xs, rising, as many -/
theorem back_law {xs : List Int} {o : Nat} (ho : ofG [] xs = ((o : Int), 0)) (L : List (Fin 64)) (hL : L.map Fin.val = Mk.units o) :
    o < 18446744073709551616 ∧ L.length = xs.length ∧ (∀ i (h : i < L.length), (L[i].val : Int) ∈ xs) ∧ ∀ i (h : i + 1 < L.length), L[i].val < L[i + 1].val := by
  obtain ⟨hs, he⟩ := ofG_ok xs [] Seen.nil _ ho
  rw [List.nil_append] at hs he
  have hoe : o = Mk.maskOf (xs.map Int.toNat) := by omega
  have hd := Mk.dis _ hs.nat.1 hs.nat.2
  rw [← hoe] at hd
  have hmem : ∀ u : Nat, u ∈ Mk.units o ↔ (u : Int) ∈ xs := fun u => by
    rw [Mk.mem_units, hd.2]
    constructor
    · exact fun h => hs.mem.1 (by simpa using h.2)
    · exact fun h => ⟨by have := hs.rng _ h; omega, by simpa using hs.mem.2 h⟩
  have hlen : (Mk.units o).length = xs.length := by
    rw [Mk.units_len, hoe, cnt_dis _ hs.nat.1 hs.nat.2, List.length_map]
  have hl : L.length = (Mk.units o).length := by rw [← hL]; simp
  have hget : ∀ i (h : i < L.length), (Mk.units o)[i]'(by omega) = L[i].val := fun i h => by
    have : (L.map Fin.val)[i]? = (Mk.units o)[i]? := by rw [hL]
    rw [List.getElem?_map, List.getElem?_eq_getElem h, List.getElem?_eq_getElem (by omega)] at this
    simpa using this.symm
  refine ⟨by omega, by omega, fun i h => ?_, fun i h => ?_⟩
  · exact (hmem _).1 (by rw [← hget i h]; exact List.getElem_mem _)
  · rw [← hget i (by omega), ← hget (i + 1) h]
    exact List.pairwise_iff_getElem.1 (Mk.units_incr o) i (i + 1) (by omega) (by omega) (by omega)

set_option maxHeartbeats 2000000 in
theorem maskBack_walk (W : World) (hT : Tab W) (m0 : Int) (wm : (Lit.int .u64 m0).wf = true) (v : Value) (xs : List Int) (s : Rd.SliceOf W v 1 I64.cells xs) (ws : ∀ x ∈ xs, I64.wf x) :
    Calls Tryd.prog 5 #[.int .u64 m0, v] W fun e w' => e = .returned (.bool true) ∧ Below W.heap.size W w' := by
  have m1 := wf_u64' wm
  obtain ⟨m, rfl⟩ : ∃ m : Nat, m0 = m := ⟨m0.toNat, by omega⟩
  have hm : m < 18446744073709551616 := by omega
  obtain ⟨av, capv, rfl, hIs⟩ := is_of s
  obtain ⟨n, hk⟩ : ∃ k, xs.length = k := ⟨_, rfl⟩
  have HK := Lib.hid hk; have HI := Lib.hid hIs; have HT := Lib.hid hT
  have hTl := hT.lt
  rw [hk]
  clear s ws hk hIs hT wm
  by_cases h100 : 100 < n
  · go_enter Tryd.func5, Tryd.ntmps5
    go_wp2_with fail
    refine (awakeC _).mono ?_
    rintro e w1 ⟨rfl, hb1⟩
    go_wp2_with fail
    go_ret
    exact ⟨rfl, hb1⟩
  · obtain ⟨o1, o2, ho⟩ : ∃ o1 o2, ofG [] xs = (o1, o2) := ⟨_, _, rfl⟩
    have HO := Lib.hid ho
    clear ho
    go_enter Tryd.func5, Tryd.ntmps5
    go_wp2_with fail
    refine (awakeC _).mono ?_
    rintro e w1 ⟨rfl, hb1⟩
    have HB1 := Lib.hid hb1
    clear hb1
    go_wp2_with fail
    refine (units_any m _ hm (HT.out.later HB1.out hTl)).mono ?_
    intro e w2 h2
    obtain ⟨a2, cap2, L2, rfl, hL2, hus2, hb2⟩ := h2.us
    have HB2 := Lib.hid (HB1.out.trans (hb2.mono HB1.out.size))
    have hof := of_any _ a2 cap2 w2 hus2.is m 0 (ofG_units (by omega) L2 hL2)
    rw [List.length_map] at hof
    clear h2 hus2 hL2 hb2
    go_wp2_with fail
    refine hof.mono ?_
    rintro e w3 ⟨rfl, rfl⟩
    clear hof
    go_wp2_with fail
    have hof := of_any xs av capv w2 (HI.out.later HB2.out) o1 o2 HO.out
    rw [HK.out] at hof
    refine hof.mono ?_
    rintro e w4 ⟨rfl, rfl⟩
    clear hof
    by_cases hz : o2 = 0
    · subst hz
      obtain ⟨hs, he⟩ := ofG_ok xs [] Seen.nil _ HO.out
      obtain ⟨o, rfl⟩ : ∃ o : Nat, o1 = o := ⟨_, he⟩
      obtain ⟨Lo, hLo⟩ := units_fin o
      have hol := (back_law HO.out Lo hLo).1
      clear hs he hLo
      go_wp2_with fail
      refine (units_any o _ hol (HT.out.later HB2.out hTl)).mono ?_
      intro e w5 h5
      obtain ⟨a, cap, L, rfl, hL, hus, hb5⟩ := h5.us
      obtain ⟨-, hl, hin, hinc⟩ := back_law HO.out L hL
      rw [HK.out] at hl
      have HB5 := Lib.hid (HB2.out.trans (hb5.mono HB2.out.size))
      have HI5 := Lib.hid ((HI.out.later HB2.out).later hb5)
      have HL := Lib.hid hl; have HIN := Lib.hid hin; have HINC := Lib.hid hinc; have HU := Lib.hid hus
      rw [hl]
      clear h5 hus hL hb5 hl hin hinc
      go_wp2_with fail
      go_loopw [10] (fun i wr => ∃ k : Nat, k ≤ n ∧ i = .int .i64 k ∧ Below w5.heap.size w5 wr) (fun i _ => n - (intOf i).toNat)
      case atStart => exact ⟨0, Nat.zero_le _, rfl, Below.refl _ _⟩
      case round =>
        obtain ⟨k, hk, rfl, hB⟩ := hrel
        have HB := Lib.hid hB
        clear hB
        by_cases hlt : k < n
        · have hkl : k < L.length := by rw [HL.out]; exact hlt
          obtain ⟨u, hu⟩ : ∃ u : Nat, L[k].val = u := ⟨_, rfl⟩
          have HUU := Lib.hid hu
          have hux : (u : Int) ∈ xs := by rw [← hu]; exact HIN.out k hkl
          have HUX := Lib.hid hux
          clear hu hux
          go_wp2_with fail
          go_loopw [11, 12] (fun fd i wr => ∃ (j : Nat) (f : Bool), j ≤ n ∧ fd = .bool f ∧ i = .int .i64 j ∧ Below w5.heap.size w5 wr ∧ Hid (f = decide ((u : Int) ∈ xs.take j))) (fun _ i _ => n - (intOf i).toNat)
          case atStart => exact ⟨0, false, Nat.zero_le _, rfl, rfl, HB.out, Lib.hid (by simp)⟩
          case round =>
            obtain ⟨j, f, hj, rfl, rfl, hB2, hf⟩ := hrel
            have HB2 := Lib.hid hB2
            clear hB2
            obtain ⟨g, rfl, hg, hc1, hc2, hcell⟩ := (HU.out.later HB2.out).at hkl
            rw [HUU.out] at hcell
            rw [HL.out] at hc1
            by_cases hjn : j < n
            · have hjl : j < xs.length := by rw [HK.out]; exact hjn
              obtain ⟨b, off, rfl, hb, hd1, hd2, hxc⟩ := (HI5.out.later HB2.out).at hjl
              rw [HK.out] at hd1
              obtain ⟨x, hx⟩ : ∃ x, xs[j] = x := ⟨_, rfl⟩
              rw [hx] at hxc
              have hnext : (f || x == (u : Int)) = decide ((u : Int) ∈ xs.take (j + 1)) := by
                rw [List.take_succ_eq_append_getElem hjl, hx, hf.out, Bool.eq_iff_iff]
                simp only [Bool.or_eq_true, decide_eq_true_eq, beq_iff_eq, List.mem_append, List.mem_singleton]
                exact or_congr Iff.rfl ⟨Eq.symm, Eq.symm⟩
              have HX := Lib.hid hnext
              clear hx hnext
              cases f with
              | true =>
                go_wp2_with fail
                go_quiet (fail)
                go_wp2_with fail
                refine ⟨⟨j + 1, true, by omega, rfl, by go_num, ⟨HB2.out.os, HB2.out.tape, HB2.out.output, HB2.out.size, HB2.out.block⟩, Lib.hid (by simpa using HX.out)⟩, by simp [intOf]; omega⟩
              | false =>
                go_wp2_with fail
                go_quiet (fail)
                go_wp2_with fail
                refine ⟨⟨j + 1, x == (u : Int), by omega, rfl, by go_num, ⟨HB2.out.os, HB2.out.tape, HB2.out.output, HB2.out.size, HB2.out.block⟩, Lib.hid (by simpa using HX.out)⟩, by simp [intOf]; omega⟩
            · obtain rfl : j = n := by omega
              obtain rfl : f = true := by rw [hf.out, List.take_of_length_le (by rw [HK.out]; omega)]; simpa using HUX.out
              by_cases h0 : k = 0
              · subst h0
                go_wp2_with fail
                go_quiet (fail)
                go_wp2_with fail
                refine ⟨⟨1, by omega, by go_num, ⟨HB2.out.os, HB2.out.tape, HB2.out.output, HB2.out.size, HB2.out.block⟩⟩, by simp [intOf]; omega⟩
              · obtain ⟨p, rfl⟩ : ∃ p, k = p + 1 := ⟨k - 1, by omega⟩
                obtain ⟨g', hg', _, _, _, hcell2⟩ := (HU.out.later HB2.out).at (i := p) (by omega)
                simp only [Option.some.injEq, Addr.mk.injEq, and_true, true_and] at hg'
                subst hg'
                obtain ⟨z, hz⟩ : ∃ z : Nat, L[p].val = z := ⟨_, rfl⟩
                have hlt2 : z < u := by rw [← hz, ← HUU.out]; exact HINC.out p hkl
                rw [hz] at hcell2
                clear hz
                go_wp2_with fail
                go_quiet (fail)
                go_wp2_with fail
                refine ⟨⟨p + 1 + 1, by omega, by go_num, ⟨HB2.out.os, HB2.out.tape, HB2.out.output, HB2.out.size, HB2.out.block⟩⟩, by simp [intOf]; omega⟩
        · obtain rfl : k = n := by omega
          go_wp2_with fail
          go_ret
          exact ⟨rfl, HB5.out.trans (HB.out.mono HB5.out.size)⟩
    · have h0 := ofG_err _ _ _ _ HO.out hz
      subst h0
      go_wp2_with fail
      go_ret
      exact ⟨rfl, HB2.out⟩
end Go.Proofs.YtcfckooammacmaaDoor
