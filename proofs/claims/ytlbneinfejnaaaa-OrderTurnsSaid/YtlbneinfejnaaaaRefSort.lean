/-
  The document's Sort.
-/
import Derived.Test.YtlbneinfejnaaaaSortW7
import Derived.Test.YtlbneinfejnaaaaOrderRef
import Derived.Test.YtlbneinfejnaaaaFlatWt
import Derived.Test.YtlbneinfejnaaaaRegions4
import Derived.Deep.AppendLies
set_option linter.unusedVariables false
set_option linter.unusedSimpArgs false
namespace Go.Proofs.Ytlbneinfejnaaaa.Ss
open Go Go.RowKit
variable {W w w' : World} {now age : Int}
theorem build_runW (x : Wt) (w : World) : (Instr.buildSlice 43 1 #[(0, (.agg #[.int .i64 (Jb.id (Wt.job x)), .int .i64 (Jb.queue (Wt.job x)), .int .i64 (Jb.prio (Wt.job x)), .int .i64 (Jb.runtime (Wt.job x)), .int .i64 (Sh.gpus (Jb.shape (Wt.job x))), .int .i64 (Sh.cpus (Jb.shape (Wt.job x))), .int .i64 (Sh.mn (Jb.shape (Wt.job x))), .int .i64 (Sh.mx (Jb.shape (Wt.job x))), .int .i64 (Wt.since x), .int .i64 (Wt.number x)]))]).run Try.prog w = .ok (.slice (some ⟨w.heap.size, 0, none⟩) 1 1) (w.alloc (.cells #[.int .i64 x.job.id, .int .i64 x.job.queue, .int .i64 x.job.prio, .int .i64 x.job.runtime, .int .i64 x.job.shape.gpus, .int .i64 x.job.shape.cpus, .int .i64 x.job.shape.mn, .int .i64 x.job.shape.mx, .int .i64 x.since, .int .i64 x.number] 27)) := by
  first | rfl | (simp [Instr.buildSlice, go_sem]; done)
theorem step_build1W {ops : Array Oper} {o : Oper} {a : Act} {w : World} {K : Act → World → Prop} {Q : Exit → Act → World → Prop} {E : Prop} (hgd : o.guard = none) (u : Operand) (ho : o.op = .buildSlice 43 1 #[(0, u)]) (x : Wt) (hx : a.eval u = (.agg #[.int .i64 (Jb.id (Wt.job x)), .int .i64 (Jb.queue (Wt.job x)), .int .i64 (Jb.prio (Wt.job x)), .int .i64 (Jb.runtime (Wt.job x)), .int .i64 (Sh.gpus (Jb.shape (Wt.job x))), .int .i64 (Sh.cpus (Jb.shape (Wt.job x))), .int .i64 (Sh.mn (Jb.shape (Wt.job x))), .int .i64 (Sh.mx (Jb.shape (Wt.job x))), .int .i64 (Wt.since x), .int .i64 (Wt.number x)]))
    (h : K (a.put o.dst (.slice (some ⟨w.heap.size, 0, none⟩) 1 1)) (w.alloc (.cells #[.int .i64 x.job.id, .int .i64 x.job.queue, .int .i64 x.job.prio, .int .i64 x.job.runtime, .int .i64 x.job.shape.gpus, .int .i64 x.job.shape.cpus, .int .i64 x.job.shape.mn, .int .i64 x.job.shape.mx, .int .i64 x.since, .int .i64 x.number] 27))) : if Region.wanted o (yielded ops a.tmps) = true then Oper.wp Try.prog o a w K Q else E := by
  have hw : Region.wanted o (yielded ops a.tmps) = true := by simp [Region.wanted, hgd]
  rw [if_pos hw]
  unfold Oper.wp execOp
  simp only [ho, List.map_toArray, List.map_cons, List.map_nil, hx, Sem.run_bind, Sem.run_pure, Result.andThen_ok, build_runW]
  exact h
theorem slice_own {base : Nat} {v : Value} {xs : List Wt} (h : w.ownsRow base 27 10 v xs.length (xs.flatMap Wt.cells)) : Rd.SliceOf w v 10 Wt.cells xs := by
  obtain ⟨hl, ⟨rfl, h0⟩ | ⟨g, cap, cur, rfl, hg, hc, hn, hm, hs, ht⟩⟩ := h
  · exact .inl ⟨rfl, List.length_eq_zero_iff.1 h0⟩
  · refine .inr ⟨_, _, rfl, hn, hm, fun i hi j hj => ?_⟩
    have hj' : j < 10 := by simpa [Wt.cells] using hj
    have hadd : (⟨g, 0, none⟩ : Addr).add (i * 10 + j) = ⟨g, i * 10 + j, none⟩ := by
      unfold Addr.add
      split
      · rename_i e'; rw [e']
      · simp
    rw [hadd]
    have hcell : w.cell? ⟨g, i * 10 + j, none⟩ = cur[i * 10 + j]? := by simp [World.cell?, hc]
    have h1 : (cur.toList.take (xs.length * 10))[i * 10 + j]? = cur.toList[i * 10 + j]? := by rw [List.getElem?_take, if_pos (by omega)]
    rw [ht] at h1
    rw [hcell, ← Array.getElem?_toList, ← h1]
    have := flat_at xs [] (List.getElem?_eq_getElem hi) hj'
    rw [List.append_nil] at this
    rw [this, List.getElem?_eq_getElem]
theorem own_formW {base : Nat} {e : TypeId} {sz : Nat} {v : Value} {n : Nat} {xs : List Value} (h : w.ownsRow base e sz v n xs) : (v = .slice none 0 0 ∧ n = 0) ∨ ∃ g cap, v = .slice (some ⟨g, 0, none⟩) n cap ∧ n ≤ cap ∧ cap ≤ maxLen ∧ g < w.heap.size := by
  obtain ⟨_, ⟨rfl, rfl⟩ | ⟨g, cap, _, rfl, _, hb, h1, h2, _⟩⟩ := h
  · exact .inl ⟨rfl, rfl⟩
  · exact .inr ⟨g, cap, rfl, h1, h2, lt_of_block hb⟩
/-- a part of a row -/
theorem src_partW {b o n c : Nat} {l : List Wt} (h : Rd.SliceOf w (.slice (some ⟨b, o, none⟩) n c) 10 Wt.cells l) (lo hi : Nat) (hh : hi ≤ l.length) (ad : Addr) (c' : Nat) (had : lo < hi → ad = ⟨b, o + lo * 10, none⟩) : Src w 10 (some ad) ((l.take hi).drop lo).length c' (((l.take hi).drop lo).flatMap Wt.cells) := by
  refine .inr ⟨ad, rfl, flat_len _, fun j u hu => ?_⟩
  have hj := (List.getElem?_eq_some_iff.1 hu).1
  rw [flat_len] at hj
  obtain ⟨q, r, hr, rfl⟩ : ∃ q r, r < 10 ∧ j = q * 10 + r := ⟨j / 10, j % 10, by omega, by omega⟩
  have hq : q < ((l.take hi).drop lo).length := by omega
  have h3 := flat_at ((l.take hi).drop lo) [] (List.getElem?_eq_getElem hq) hr
  rw [List.append_nil, hu] at h3
  have hl : ((l.take hi).drop lo).length = hi - lo := by simp; omega
  have hlk : lo + q < l.length := by omega
  have hx : ((l.take hi).drop lo)[q] = l[lo + q] := by
    have h1 : ((l.take hi).drop lo)[q]? = l[lo + q]? := by rw [List.getElem?_drop, List.getElem?_take, if_pos (by omega)]
    rw [List.getElem?_eq_getElem hq, List.getElem?_eq_getElem hlk] at h1
    exact Option.some.inj h1
  rw [hx] at h3
  obtain ⟨b', off, cap, hv, _, _, hb, hcell⟩ := h.plain (by intro e; rw [e] at hlk; simp at hlk) (by intro x _; simp [Wt.cells])
  simp only [Value.slice.injEq, Option.some.injEq, Addr.mk.injEq] at hv
  obtain ⟨⟨rfl, rfl, -⟩, -, -⟩ := hv
  rw [had (by omega)]
  have e : (⟨b, o + lo * 10, none⟩ : Addr).add (q * 10 + r) = ⟨b, o + ((lo + q) * 10 + r), none⟩ := by unfold Addr.add; split <;> simp_all <;> omega
  rw [e, hcell (lo + q) hlk r (by simpa [Wt.cells] using hr), h3, List.getElem?_eq_getElem (by simpa [Wt.cells] using hr)]
theorem build_run0 (w : World) : (Instr.buildSlice 43 0 #[]).run Try.prog w = .ok (.slice (some ⟨w.heap.size, 0, none⟩) 0 0) (w.alloc (.cells #[] 27)) := by
  first | rfl | (simp [Instr.buildSlice, go_sem]; done)
theorem step_build0W {ops : Array Oper} {o : Oper} {a : Act} {w : World} {K : Act → World → Prop} {Q : Exit → Act → World → Prop} {E : Prop} (hgd : o.guard = none) (ho : o.op = .buildSlice 43 0 #[])
    (h : K (a.put o.dst (.slice (some ⟨w.heap.size, 0, none⟩) 0 0)) (w.alloc (.cells #[] 27))) : if Region.wanted o (yielded ops a.tmps) = true then Oper.wp Try.prog o a w K Q else E := by
  have hw : Region.wanted o (yielded ops a.tmps) = true := by simp [Region.wanted, hgd]
  rw [if_pos hw]
  unfold Oper.wp execOp
  simp only [ho, Sem.run_bind, Sem.run_pure, Result.andThen_ok, List.map_toArray, List.map_nil, build_run0]
  exact h
theorem made0 {w2 wp : World} (h : Below w2.heap.size w2 wp) : (wp.alloc (.cells #[] 27)).ownsRow w2.heap.size 27 10 (.slice (some ⟨wp.heap.size, 0, none⟩) 0 0) 0 [] :=
  ⟨rfl, .inr ⟨_, 0, #[], rfl, h.size, World.alloc_heap_new _ _, Nat.le_refl _, Nat.zero_le _, rfl, rfl⟩⟩
set_option maxRecDepth 100000 in
set_option maxHeartbeats 8000000 in
theorem refSort_any (v0 : Value) (xs : List Wt) (w : World) (h : Rd.SliceOf w v0 10 Wt.cells xs) (hl : xs.length ≤ 1000000) (hok : ∀ x ∈ xs, RankOk x now age) :
    Calls Try.prog 21 #[v0, .int .i64 now, .int .i64 age] w fun e w' => ∃ u, e = .returned u ∧ SortedRow xs now age w.heap.size u w' ∧ Below w.heap.size w w' := by
  obtain ⟨i0, hi0, hz0, hz1, hz2⟩ := info_partsW infoW
  obtain ⟨a0, cap0, rfl⟩ := h.form
  obtain ⟨n, hn⟩ : ∃ n, xs.length = n := ⟨_, rfl⟩
  have H := Lib.hid h; have HN := Lib.hid hn; have HOK := Lib.hid hok
  rw [hn] at hl ⊢
  clear h hn hok
  go_enter Try.func21, Try.ntmps21
  go_wp2_with fail
  go_loopw [7, 8] (fun ov iv wr => ∃ (i : Nat) (v : Value) (out : List Wt), v = ov ∧ i ≤ n ∧ iv = .int .i64 i ∧ wr.ownsRow w.heap.size 27 10 v i (out.flatMap Wt.cells) ∧ Below w.heap.size w wr ∧ Hid (out.length = i ∧ SE (lw now age) (xs.take i) out ∧ Sorted (lw now age) out)) (fun _ iv _ => n - (intOf iv).toNat)
  case atStart => exact ⟨0, _, [], rfl, Nat.zero_le _, rfl, World.ownsRow_nil _ _ _ _, Below.refl _ _, Lib.hid ⟨rfl, fun z => rfl, List.Pairwise.nil⟩⟩
  case round => as_aux_lemma =>
    obtain ⟨i, v, out, rfl, hi, rfl, hown, hB, HL⟩ := hrel
    obtain ⟨wo, rfl⟩ : ∃ wo, wo = wr := ⟨wr, rfl⟩
    have HO := Lib.hid hown; have HB := Lib.hid hB
    clear hown hB
    by_cases hin : i < n
    · have din : decide ((i : Int) < n) = true := by simp; omega
      have hil : i < xs.length := by rw [HN.out]; exact hin
      obtain ⟨x, hx⟩ : ∃ x, xs[i] = x := ⟨_, rfl⟩
      obtain ⟨b, off, cp, hv, _, _, hb, hat⟩ := Wt.at H.out hil hx
      rw [HN.out] at hv
      simp only [Value.slice.injEq] at hv
      obtain ⟨rfl, -, rfl⟩ := hv
      have HAT := Lib.hid hat
      have HRX := Lib.hid (HOK.out x (hx ▸ List.getElem_mem hil))
      have HTK := Lib.hid (show xs.take (i + 1) = xs.take i ++ [x] by rw [List.take_add_one, List.getElem?_eq_getElem hil, hx]; rfl)
      obtain ⟨av, capv, hvv⟩ : ∃ av capv, v = .slice av i capv := by
        rcases own_formW HO.out with ⟨e, rfl⟩ | ⟨g, cap, e, _⟩
        · exact ⟨none, 0, e⟩
        · exact ⟨_, cap, e⟩
      have HIN := Lib.hid hin
      subst hvv
      clear hx hat hil
      go_upto_block 2 with fail
      go_cut [9] from 10 to 50 (fun kv wy => ∃ (k : Nat) (wx : World), wx = wy ∧ k ≤ i ∧ kv = .int .i64 k ∧ Hid (Below w.heap.size w wx) ∧ Hid (Below wo.heap.size wo wx) ∧ Hid (∀ j y, k ≤ j → out[j]? = some y → lw now age x y = true) ∧ Hid (∀ y, 0 < k → out[k - 1]? = some y → lw now age x y = false))
      case first => as_aux_lemma =>
        go_wp2_with fail
        go_loopw [9] (fun kv wx => ∃ k : Nat, k ≤ i ∧ kv = .int .i64 k ∧ Hid (Below w.heap.size w wx) ∧ Hid (Below wo.heap.size wo wx) ∧ Hid (∀ j y, k ≤ j → out[j]? = some y → lw now age x y = true)) (fun kv _ => (intOf kv).toNat)
        case atStart => exact ⟨i, Nat.le_refl _, rfl, Lib.hid HB.out, Lib.hid (Below.refl _ _), Lib.hid (fun j y h1 h2 => by have := (List.getElem?_eq_some_iff.1 h2).1; have := HL.out.1; omega)⟩
        case round =>
          obtain ⟨k, hk, rfl, HB1, HB2, HLO⟩ := hrel
          by_cases k0 : 0 < k
          · obtain ⟨s, hs⟩ : ∃ s, s + 1 = k := ⟨k - 1, by omega⟩
            have hso : s < out.length := by rw [HL.out.1]; omega
            obtain ⟨y, hy⟩ : ∃ y, out[s] = y := ⟨_, rfl⟩
            have hsl := slice_own (xs := out) (w := wr) (v := .slice av i capv) (base := w.heap.size) (by rw [HL.out.1]; exact ownsRow_below HO.out HB2.out)
            obtain ⟨b2, off2, cp2, hv2, _, _, hb2, hat2⟩ := Wt.at hsl hso hy
            rw [HL.out.1] at hv2
            simp only [Value.slice.injEq] at hv2
            obtain ⟨rfl, -, rfl⟩ := hv2
            have HAT2 := Lib.hid hat2; have HKS := Lib.hid hs
            have HY := Lib.hid (show out[s]? = some y by rw [List.getElem?_eq_getElem hso, hy])
            obtain ⟨bo, hbo⟩ : ∃ bo, aheadF x y now age = bo := ⟨_, rfl⟩
            have HBO := Lib.hid (show lw now age x y = bo from hbo)
            have hry : RankOk y now age := HOK.out y (by
              have := (HL.out.2.1.symm).mem (lw_swo now age) (List.mem_of_getElem? HY.out)
              exact List.mem_of_mem_take this)
            have HA := Lib.hid (fun w' => refAhead_any x y now age w' HRX.out hry)
            rw [hbo] at HA
            have HLX := Lib.hid (fun (z9 : Later wr) => HAT.out z9.wd (HB1.out.trans (z9.bel.mono HB1.out.size)))
            have HLY := Lib.hid (fun (z9 : Later wr) => HAT2.out z9.wd z9.bel)
            have qa0 : ∀ z9 : Later wr, z9.wd.cell? ⟨b, off + i * 10, none⟩ = some (.int .i64 x.job.id) := fun z9 => (HLX.out z9).1
            have qa1 : ∀ z9 : Later wr, z9.wd.cell? ⟨b, off + i * 10 + 1, none⟩ = some (.int .i64 x.job.queue) := fun z9 => (HLX.out z9).2.1
            have qa2 : ∀ z9 : Later wr, z9.wd.cell? ⟨b, off + i * 10 + 2, none⟩ = some (.int .i64 x.job.prio) := fun z9 => (HLX.out z9).2.2.1
            have qa3 : ∀ z9 : Later wr, z9.wd.cell? ⟨b, off + i * 10 + 3, none⟩ = some (.int .i64 x.job.runtime) := fun z9 => (HLX.out z9).2.2.2.1
            have qa4 : ∀ z9 : Later wr, z9.wd.cell? ⟨b, off + i * 10 + 4, none⟩ = some (.int .i64 x.job.shape.gpus) := fun z9 => (HLX.out z9).2.2.2.2.1
            have qa5 : ∀ z9 : Later wr, z9.wd.cell? ⟨b, off + i * 10 + 5, none⟩ = some (.int .i64 x.job.shape.cpus) := fun z9 => (HLX.out z9).2.2.2.2.2.1
            have qa6 : ∀ z9 : Later wr, z9.wd.cell? ⟨b, off + i * 10 + 6, none⟩ = some (.int .i64 x.job.shape.mn) := fun z9 => (HLX.out z9).2.2.2.2.2.2.1
            have qa7 : ∀ z9 : Later wr, z9.wd.cell? ⟨b, off + i * 10 + 7, none⟩ = some (.int .i64 x.job.shape.mx) := fun z9 => (HLX.out z9).2.2.2.2.2.2.2.1
            have qa8 : ∀ z9 : Later wr, z9.wd.cell? ⟨b, off + i * 10 + 8, none⟩ = some (.int .i64 x.since) := fun z9 => (HLX.out z9).2.2.2.2.2.2.2.2.1
            have qa9 : ∀ z9 : Later wr, z9.wd.cell? ⟨b, off + i * 10 + 9, none⟩ = some (.int .i64 x.number) := fun z9 => (HLX.out z9).2.2.2.2.2.2.2.2.2
            have qb0 : ∀ z9 : Later wr, z9.wd.cell? ⟨b2, off2 + s * 10, none⟩ = some (.int .i64 y.job.id) := fun z9 => (HLY.out z9).1
            have qb1 : ∀ z9 : Later wr, z9.wd.cell? ⟨b2, off2 + s * 10 + 1, none⟩ = some (.int .i64 y.job.queue) := fun z9 => (HLY.out z9).2.1
            have qb2 : ∀ z9 : Later wr, z9.wd.cell? ⟨b2, off2 + s * 10 + 2, none⟩ = some (.int .i64 y.job.prio) := fun z9 => (HLY.out z9).2.2.1
            have qb3 : ∀ z9 : Later wr, z9.wd.cell? ⟨b2, off2 + s * 10 + 3, none⟩ = some (.int .i64 y.job.runtime) := fun z9 => (HLY.out z9).2.2.2.1
            have qb4 : ∀ z9 : Later wr, z9.wd.cell? ⟨b2, off2 + s * 10 + 4, none⟩ = some (.int .i64 y.job.shape.gpus) := fun z9 => (HLY.out z9).2.2.2.2.1
            have qb5 : ∀ z9 : Later wr, z9.wd.cell? ⟨b2, off2 + s * 10 + 5, none⟩ = some (.int .i64 y.job.shape.cpus) := fun z9 => (HLY.out z9).2.2.2.2.2.1
            have qb6 : ∀ z9 : Later wr, z9.wd.cell? ⟨b2, off2 + s * 10 + 6, none⟩ = some (.int .i64 y.job.shape.mn) := fun z9 => (HLY.out z9).2.2.2.2.2.2.1
            have qb7 : ∀ z9 : Later wr, z9.wd.cell? ⟨b2, off2 + s * 10 + 7, none⟩ = some (.int .i64 y.job.shape.mx) := fun z9 => (HLY.out z9).2.2.2.2.2.2.2.1
            have qb8 : ∀ z9 : Later wr, z9.wd.cell? ⟨b2, off2 + s * 10 + 8, none⟩ = some (.int .i64 y.since) := fun z9 => (HLY.out z9).2.2.2.2.2.2.2.2.1
            have qb9 : ∀ z9 : Later wr, z9.wd.cell? ⟨b2, off2 + s * 10 + 9, none⟩ = some (.int .i64 y.number) := fun z9 => (HLY.out z9).2.2.2.2.2.2.2.2.2
            have lX : b < wr.heap.size := Nat.lt_of_lt_of_le hb HB1.out.size
            have lY := hb2
            have d0 : decide ((0 : Int) < k) = true := by simp; omega
            have d0' : decide (0 < k) = true := by simp; omega
            have hw1 : IntKind.i64.wrap ((k : Int) - 1) = (s : Int) := by rw [IntKind.wrap_i64]; omega
            have hsi : s < i := by omega
            have HK0 := Lib.hid k0
            clear hso hy hsl hat2 hbo hry hs
            go_wp2_with fail
            refine wp_region_later (by kernel_rfl) (by kernel_rfl) ?_
            repeat (quiet_step (exact Calls.later (HA.out _)))
            refine wpQuiet_nil ?_
            rintro w1 ⟨⟨_, hb1⟩, rfl⟩
            have HB3 := Lib.hid (HB1.out.trans (hb1.mono HB1.out.size)); have HB4 := Lib.hid (HB2.out.trans (hb1.mono HB2.out.size))
            clear qa0 qb0 qa1 qb1 qa2 qb2 qa3 qb3 qa4 qb4 qa5 qb5 qa6 qb6 qa7 qb7 qa8 qb8 qa9 qb9 HA HLX HLY hb1
            cases bo with
            | true =>
              have HNL := Lib.hid (show ∀ j y', s ≤ j → out[j]? = some y' → lw now age x y' = true from fun j y' h1 h2 => by
                by_cases e : j = s
                · subst e; rw [HY.out] at h2; cases h2; exact HBO.out
                · exact HLO.out j y' (by have := HKS.out; omega) h2)
              have hs := HKS.out
              go_wp2_with fail
              exact ⟨⟨s, by omega, by go_num, Lib.hid HB3.out, Lib.hid HB4.out, Lib.hid HNL.out⟩, by simp [intOf]; omega⟩
            | false =>
              have HST := Lib.hid (show ∀ y', 0 < k → out[k - 1]? = some y' → lw now age x y' = false from fun y' _ h2 => by
                rw [show k - 1 = s by have := HKS.out; omega, HY.out] at h2
                cases h2; exact HBO.out)
              go_wp2_with fail
              go_meet
              exact ⟨k, _, rfl, hk, rfl, Lib.hid HB3.out, Lib.hid HB4.out, Lib.hid HLO.out, Lib.hid HST.out⟩
          · obtain rfl : k = 0 := by omega
            have d0 : decide ((0 : Int) < ((0 : Nat) : Int)) = false := by simp
            clear k0
            go_wp2_with fail
            go_quiet (fail)
            have hb1 : Below wr.heap.size wr (wr.drewN nq) := ⟨rfl, rfl, rfl, Nat.le_refl _, fun _ _ => rfl⟩
            have HB3 := Lib.hid (HB1.out.trans (hb1.mono HB1.out.size)); have HB4 := Lib.hid (HB2.out.trans (hb1.mono HB2.out.size))
            clear hb1
            go_wp2_with fail
            go_meet
            exact ⟨0, _, rfl, Nat.zero_le _, rfl, Lib.hid HB3.out, Lib.hid HB4.out, Lib.hid HLO.out, Lib.hid (fun y e => by omega)⟩
      case rest =>
        obtain ⟨k, wx, rfl, hk, rfl, HB1, HB2, HLO, HST⟩ := hcut
        obtain ⟨w2, rfl⟩ : ∃ w2, w2 = wx := ⟨wx, rfl⟩
        have HO2 := Lib.hid (ownsRow_below HO.out HB2.out)
        have hlo := HL.out.1
        have hi6 : i ≤ 1000000 := by have := HIN.out; omega
        have B0 : Below w2.heap.size w2 w2.drew := (Below.refl _ _).drew
        obtain ⟨f1, hf1⟩ : ∃ f, (out.take k).flatMap Wt.cells = f := ⟨_, rfl⟩
        obtain ⟨f2, hf2⟩ : ∃ f, (out.drop k).flatMap Wt.cells = f := ⟨_, rfl⟩
        have HONE1 := Lib.hid (hf1 ▸ flat_one (out.take k)); have HONE2 := Lib.hid (hf2 ▸ flat_one (out.drop k))
        have lt1 : (out.take k).length = k := by rw [List.length_take]; omega
        have lt2 : (out.drop k).length = i - k := by rw [List.length_drop]; omega
        have HFIN := Lib.hid (show ∀ (v9 : Value) (w9 : World), w9.ownsRow w2.heap.size 27 10 v9 (0 + k + 1 + (i - k)) ([] ++ f1 ++ Wt.cells x ++ f2) → Below w2.heap.size w2 w9 → w9.ownsRow w.heap.size 27 10 v9 (i + 1) ((insD (lw now age) x out k).flatMap Wt.cells) ∧ Below w.heap.size w w9 from fun v9 w9 ho hb => by
          refine ⟨?_, HB1.out.trans (hb.mono HB1.out.size)⟩
          have e1 : 0 + k + 1 + (i - k) = i + 1 := by omega
          have e2 : [] ++ f1 ++ Wt.cells x ++ f2 = (insD (lw now age) x out k).flatMap Wt.cells := by
            unfold insD
            rw [List.flatMap_append, List.flatMap_cons, hf1, hf2]; simp
          rw [e1, e2] at ho
          have hs := HB1.out.size
          exact ⟨ho.1, ho.2.imp (fun e => e) fun ⟨g, cap, cur, a1, a2, a3⟩ => ⟨g, cap, cur, a1, by omega, a3⟩⟩)
        have HNX := Lib.hid (show (insD (lw now age) x out k).length = i + 1 ∧ SE (lw now age) (xs.take (i + 1)) (insD (lw now age) x out k) ∧ Sorted (lw now age) (insD (lw now age) x out k) from by
          have hall : ∀ j y, k ≤ j → out[j]? = some y → lw now age x y = true := HLO.out
          refine ⟨by unfold insD; rw [List.length_append, List.length_cons, lt1, lt2]; omega, ?_, insD_sorted (lw_swo now age) (by omega) HL.out.2.2 hall (fun y h1 h2 => HST.out y h1 h2)⟩
          rw [HTK.out]
          refine SE.trans (fun z => ?_) (insD_se (lw_swo now age) hall)
          rw [List.filter_append, List.filter_append, HL.out.2.1 z])
        obtain ⟨qx0, qx1, qx2, qx3, qx4, qx5, qx6, qx7, qx8, qx9⟩ := HAT.out w2 HB1.out
        have lX : b < w2.heap.size := Nat.lt_of_lt_of_le hb HB1.out.size
        have qa0 : ∀ z9 : Later w2, z9.wd.cell? ⟨b, off + i * 10, none⟩ = some (.int .i64 x.job.id) := fun z9 => (z9.cell lX).trans qx0
        have qa1 : ∀ z9 : Later w2, z9.wd.cell? ⟨b, off + i * 10 + 1, none⟩ = some (.int .i64 x.job.queue) := fun z9 => (z9.cell lX).trans qx1
        have qa2 : ∀ z9 : Later w2, z9.wd.cell? ⟨b, off + i * 10 + 2, none⟩ = some (.int .i64 x.job.prio) := fun z9 => (z9.cell lX).trans qx2
        have qa3 : ∀ z9 : Later w2, z9.wd.cell? ⟨b, off + i * 10 + 3, none⟩ = some (.int .i64 x.job.runtime) := fun z9 => (z9.cell lX).trans qx3
        have qa4 : ∀ z9 : Later w2, z9.wd.cell? ⟨b, off + i * 10 + 4, none⟩ = some (.int .i64 x.job.shape.gpus) := fun z9 => (z9.cell lX).trans qx4
        have qa5 : ∀ z9 : Later w2, z9.wd.cell? ⟨b, off + i * 10 + 5, none⟩ = some (.int .i64 x.job.shape.cpus) := fun z9 => (z9.cell lX).trans qx5
        have qa6 : ∀ z9 : Later w2, z9.wd.cell? ⟨b, off + i * 10 + 6, none⟩ = some (.int .i64 x.job.shape.mn) := fun z9 => (z9.cell lX).trans qx6
        have qa7 : ∀ z9 : Later w2, z9.wd.cell? ⟨b, off + i * 10 + 7, none⟩ = some (.int .i64 x.job.shape.mx) := fun z9 => (z9.cell lX).trans qx7
        have qa8 : ∀ z9 : Later w2, z9.wd.cell? ⟨b, off + i * 10 + 8, none⟩ = some (.int .i64 x.since) := fun z9 => (z9.cell lX).trans qx8
        have qa9 : ∀ z9 : Later w2, z9.wd.cell? ⟨b, off + i * 10 + 9, none⟩ = some (.int .i64 x.number) := fun z9 => (z9.cell lX).trans qx9
        clear qx0 qx1 qx2 qx3 qx4 qx5 qx6 qx7 qx8 qx9
        rcases own_formW HO2.out with ⟨e, hi0e⟩ | ⟨g, cap, e, hic, hcm, hgl⟩
        · simp only [Value.slice.injEq] at e
          obtain ⟨rfl, -, rfl⟩ := e
          subst hi0e
          obtain rfl : k = 0 := by omega
          have ho0 : out = [] := List.length_eq_zero_iff.1 hlo
          subst ho0
          have hff1 : f1 = [] := by rw [← hf1]; rfl
          have hff2 : f2 = [] := by rw [← hf2]; rfl
          subst hff1 hff2
          have HS1 := Lib.hid (show Src w2 10 none 0 0 [] from .inl ⟨rfl, rfl, rfl, rfl⟩)
          have HS2 := HS1
          simp only [Nat.zero_mul, Nat.add_zero] at qa0 qa1 qa2 qa3 qa4 qa5 qa6 qa7 qa8 qa9
          clear hf1 hf2 lt1 lt2 hlo
          go_wp2_with fail
          refine Rg.wp_region_plan (by kernel_rfl) [1, 2, 3, 5, 6, 7, 8, 11, 12, 13] (.two 0 (.two 4 (.one 9 (.fin [10, 14, 15])) 9 (.one 4 (.fin [10, 14, 15]))) 9 (.one 0 (.one 4 (.fin [10, 14, 15])))) 15 (by kernel_rfl) (by kernel_rfl) (by kernel_rfl) (fun w' => ∃ y : Later w2, w' = y.wd) (fun c a a' w hd h => ⟨hd.symm.trans h.1, h.2⟩) ⟨⟨_, B0⟩, rfl⟩ ?_
          simp only [Rg.picks, List.getElem?_cons_succ, List.getElem?_cons_zero, Option.toList, List.cons_append, List.nil_append]
          repeat (quiet_step (fail))
          refine wpQuiet_nil ?_
          clear qa0 qa1 qa2 qa3 qa4 qa5 qa6 qa7 qa8 qa9
          try simp only [Rg.wpP, Rg.pickn, List.getElem?_cons_succ, List.getElem?_cons_zero, Option.toList, List.map_cons, List.map_nil, List.cons_append, List.nil_append]
          constructor
          · as_aux_lemma =>
              refine Rg.wp1_step (fun K hK => ?_) ⟨⟨_, B0⟩, rfl⟩
              refine step_build0W (by rfl) (by rfl) ?_
              have HE := made0 B0
              have BN := B0.alloc B0.size ((.cells #[] 27))
              refine hK _ _ (fun _ => ⟨⟨_, BN⟩, rfl⟩) ?_
              clear hK K
              obtain ⟨he, hhe⟩ : ∃ q, (w2.drew).heap.size = q := ⟨_, rfl⟩
              rw [hhe] at HE ⊢
              generalize w2.drew.alloc (.cells #[] 27) = wa1 at BN HE ⊢
              have B1 : Below w2.heap.size w2 wa1 := BN
              clear BN
              have HEL : he < wa1.heap.size := (HE.lt he rfl).2
              try simp only [Rg.wpP, Rg.pickn, List.getElem?_cons_succ, List.getElem?_cons_zero, Option.toList, List.map_cons, List.map_nil, List.cons_append, List.nil_append]
              constructor
              · refine Rg.wp1_step (fun K hK => ?_) ⟨⟨_, B1⟩, rfl⟩
                refine step_append_src _ (by rfl) _ _ _ (by rfl) w2.heap.size 27 i0 _ 10 80 Try.underlying43 hi0 hz0 hz1 hz2 rfl (by omega) (.slice (some ⟨he, 0, none⟩) 0 0) 0 [] (by rfl) HE none 0 0 [] (by rfl) (HS1.out.later B1) HONE1.out (by unfold maxLen; omega) (by omega) B1.size ?_
                intro v7 wa2 HOM hg7 hat7
                have B2 : Below w2.heap.size w2 wa2 := (Fr.of_below B1 (fun _ => False)).grown hg7 B1.size (fun q e => .inl ((HE.lt q e).1)) |>.below (Nat.le_refl _) (fun _ h => h.elim)
                refine hK _ _ (fun _ => ⟨⟨_, B2⟩, rfl⟩) ?_
                clear hK K hg7 hat7 HE HEL
                try simp only [Rg.wpP, Rg.pickn, List.getElem?_cons_succ, List.getElem?_cons_zero, Option.toList, List.map_cons, List.map_nil, List.cons_append, List.nil_append]
                refine Rg.wp1_step (fun K hK => ?_) ⟨⟨_, B2⟩, rfl⟩
                refine step_build1W (by rfl) _ (by rfl) x (by rfl) ?_
                have HX := World.alloc_heap_new (wa2) (.cells #[.int .i64 x.job.id, .int .i64 x.job.queue, .int .i64 x.job.prio, .int .i64 x.job.runtime, .int .i64 x.job.shape.gpus, .int .i64 x.job.shape.cpus, .int .i64 x.job.shape.mn, .int .i64 x.job.shape.mx, .int .i64 x.since, .int .i64 x.number] 27)
                have BN := B2.alloc B2.size ((.cells #[.int .i64 x.job.id, .int .i64 x.job.queue, .int .i64 x.job.prio, .int .i64 x.job.runtime, .int .i64 x.job.shape.gpus, .int .i64 x.job.shape.cpus, .int .i64 x.job.shape.mn, .int .i64 x.job.shape.mx, .int .i64 x.since, .int .i64 x.number] 27))
                have HOM := ownsRow_below HOM ((Below.refl (wa2).heap.size (wa2)).alloc (Nat.le_refl _) ((.cells #[.int .i64 x.job.id, .int .i64 x.job.queue, .int .i64 x.job.prio, .int .i64 x.job.runtime, .int .i64 x.job.shape.gpus, .int .i64 x.job.shape.cpus, .int .i64 x.job.shape.mn, .int .i64 x.job.shape.mx, .int .i64 x.since, .int .i64 x.number] 27)))
                refine hK _ _ (fun _ => ⟨⟨_, BN⟩, rfl⟩) ?_
                clear hK K
                obtain ⟨hx, hhx⟩ : ∃ q, (wa2).heap.size = q := ⟨_, rfl⟩
                rw [hhx] at HX ⊢
                generalize wa2.alloc (.cells #[.int .i64 x.job.id, .int .i64 x.job.queue, .int .i64 x.job.prio, .int .i64 x.job.runtime, .int .i64 x.job.shape.gpus, .int .i64 x.job.shape.cpus, .int .i64 x.job.shape.mn, .int .i64 x.job.shape.mx, .int .i64 x.since, .int .i64 x.number] 27) = wa3 at BN HOM HX ⊢
                have B3 : Below w2.heap.size w2 wa3 := BN
                clear BN
                have HXo := HX
                try simp only [Rg.wpP, Rg.pickn, List.getElem?_cons_succ, List.getElem?_cons_zero, Option.toList, List.map_cons, List.map_nil, List.cons_append, List.nil_append]
                have HX := HX
                refine Rg.wpN_step (fun K hK => ?_) ⟨⟨_, B3⟩, rfl⟩
                refine step_append_src _ (by rfl) _ _ _ (by rfl) w2.heap.size 27 i0 _ 10 80 Try.underlying43 hi0 hz0 hz1 hz2 rfl (by omega) v7 (0 + 0) ([] ++ []) (by rfl) HOM (some ⟨hx, 0, none⟩) 1 1 (Wt.cells x) (by rfl) (.inr ⟨_, rfl, rfl, World.news_of_block HX⟩) (by simp [Wt.cells, Value.oneCell']) (by unfold maxLen; omega) (by omega) B3.size ?_
                intro v8 w8 HO8 hg8 hat8
                have B8 : Below w2.heap.size w2 w8 := (Fr.of_below B3 (fun _ => False)).grown hg8 B3.size (fun q e => .inl ((HOM.lt q e).1)) |>.below (Nat.le_refl _) (fun _ h => h.elim)
                refine hK _ _ (fun _ => ⟨⟨_, B8⟩, rfl⟩) ?_
                clear hK K hg8 hat8 HX
                refine Rg.wpN_step (fun K hK => ?_) ⟨⟨_, B8⟩, rfl⟩
                refine step_append_src _ (by rfl) _ _ _ (by rfl) w2.heap.size 27 i0 _ 10 80 Try.underlying43 hi0 hz0 hz1 hz2 rfl (by omega) v8 (0 + 0 + 1) ([] ++ [] ++ Wt.cells x) (by rfl) HO8 none 0 0 [] (by rfl) (HS2.out.later B8) HONE2.out (by unfold maxLen; omega) (by omega) B8.size ?_
                intro v9 w9 HO9 hg9 hat9
                have B9 : Below w2.heap.size w2 w9 := (Fr.of_below B8 (fun _ => False)).grown hg9 B8.size (fun q e => .inl ((HO8.lt q e).1)) |>.below (Nat.le_refl _) (fun _ h => h.elim)
                refine hK _ _ (fun _ => ⟨⟨_, B9⟩, rfl⟩) ?_
                clear hK K hg9 hat9
                refine Rg.wpN_list (by decide) ?_
                simp only [List.map_cons, List.map_nil]
                have Q := Lib.hid (HFIN.out v9 w9 HO9 B9)
                clear HO9 B9 HO8 HOM
                go_wp2_with fail
                exact ⟨⟨0 + 1, v9, _, rfl, HIN.out, by go_num, Q.out.1, Q.out.2, Lib.hid HNX.out⟩, by have := HIN.out; simp [intOf]; omega⟩
              · refine Rg.wp1_step (fun K hK => ?_) ⟨⟨_, B1⟩, rfl⟩
                refine step_build1W (by rfl) _ (by rfl) x (by rfl) ?_
                have HX := World.alloc_heap_new (wa1) (.cells #[.int .i64 x.job.id, .int .i64 x.job.queue, .int .i64 x.job.prio, .int .i64 x.job.runtime, .int .i64 x.job.shape.gpus, .int .i64 x.job.shape.cpus, .int .i64 x.job.shape.mn, .int .i64 x.job.shape.mx, .int .i64 x.since, .int .i64 x.number] 27)
                have BN := B1.alloc B1.size ((.cells #[.int .i64 x.job.id, .int .i64 x.job.queue, .int .i64 x.job.prio, .int .i64 x.job.runtime, .int .i64 x.job.shape.gpus, .int .i64 x.job.shape.cpus, .int .i64 x.job.shape.mn, .int .i64 x.job.shape.mx, .int .i64 x.since, .int .i64 x.number] 27))
                have HE := ownsRow_below HE ((Below.refl (wa1).heap.size (wa1)).alloc (Nat.le_refl _) ((.cells #[.int .i64 x.job.id, .int .i64 x.job.queue, .int .i64 x.job.prio, .int .i64 x.job.runtime, .int .i64 x.job.shape.gpus, .int .i64 x.job.shape.cpus, .int .i64 x.job.shape.mn, .int .i64 x.job.shape.mx, .int .i64 x.since, .int .i64 x.number] 27)))
                refine hK _ _ (fun _ => ⟨⟨_, BN⟩, rfl⟩) ?_
                clear hK K
                obtain ⟨hx, hhx⟩ : ∃ q, (wa1).heap.size = q := ⟨_, rfl⟩
                rw [hhx] at HX ⊢
                have hxe : he < hx := by rw [← hhx]; exact HEL
                generalize wa1.alloc (.cells #[.int .i64 x.job.id, .int .i64 x.job.queue, .int .i64 x.job.prio, .int .i64 x.job.runtime, .int .i64 x.job.shape.gpus, .int .i64 x.job.shape.cpus, .int .i64 x.job.shape.mn, .int .i64 x.job.shape.mx, .int .i64 x.since, .int .i64 x.number] 27) = wa2 at BN HE HX ⊢
                have B2 : Below w2.heap.size w2 wa2 := BN
                clear BN
                have HXo := HX
                try simp only [Rg.wpP, Rg.pickn, List.getElem?_cons_succ, List.getElem?_cons_zero, Option.toList, List.map_cons, List.map_nil, List.cons_append, List.nil_append]
                refine Rg.wp1_step (fun K hK => ?_) ⟨⟨_, B2⟩, rfl⟩
                refine step_append_src _ (by rfl) _ _ _ (by rfl) w2.heap.size 27 i0 _ 10 80 Try.underlying43 hi0 hz0 hz1 hz2 rfl (by omega) (.slice (some ⟨he, 0, none⟩) 0 0) 0 [] (by rfl) HE none 0 0 [] (by rfl) (HS1.out.later B2) HONE1.out (by unfold maxLen; omega) (by omega) B2.size ?_
                intro v7 wa3 HOM hg7 hat7
                have B3 : Below w2.heap.size w2 wa3 := (Fr.of_below B2 (fun _ => False)).grown hg7 B2.size (fun q e => .inl ((HE.lt q e).1)) |>.below (Nat.le_refl _) (fun _ h => h.elim)
                have HX := (hg7.block hx (lt_of_block HX) (fun e => by simp only [Value.ownBlock, Option.some.injEq] at e; omega)).trans HX
                refine hK _ _ (fun _ => ⟨⟨_, B3⟩, rfl⟩) ?_
                clear hK K hg7 hat7 HE HEL
                try simp only [Rg.wpP, Rg.pickn, List.getElem?_cons_succ, List.getElem?_cons_zero, Option.toList, List.map_cons, List.map_nil, List.cons_append, List.nil_append]
                have HX := HX
                refine Rg.wpN_step (fun K hK => ?_) ⟨⟨_, B3⟩, rfl⟩
                refine step_append_src _ (by rfl) _ _ _ (by rfl) w2.heap.size 27 i0 _ 10 80 Try.underlying43 hi0 hz0 hz1 hz2 rfl (by omega) v7 (0 + 0) ([] ++ []) (by rfl) HOM (some ⟨hx, 0, none⟩) 1 1 (Wt.cells x) (by rfl) (.inr ⟨_, rfl, rfl, World.news_of_block HX⟩) (by simp [Wt.cells, Value.oneCell']) (by unfold maxLen; omega) (by omega) B3.size ?_
                intro v8 w8 HO8 hg8 hat8
                have B8 : Below w2.heap.size w2 w8 := (Fr.of_below B3 (fun _ => False)).grown hg8 B3.size (fun q e => .inl ((HOM.lt q e).1)) |>.below (Nat.le_refl _) (fun _ h => h.elim)
                refine hK _ _ (fun _ => ⟨⟨_, B8⟩, rfl⟩) ?_
                clear hK K hg8 hat8 HX
                refine Rg.wpN_step (fun K hK => ?_) ⟨⟨_, B8⟩, rfl⟩
                refine step_append_src _ (by rfl) _ _ _ (by rfl) w2.heap.size 27 i0 _ 10 80 Try.underlying43 hi0 hz0 hz1 hz2 rfl (by omega) v8 (0 + 0 + 1) ([] ++ [] ++ Wt.cells x) (by rfl) HO8 none 0 0 [] (by rfl) (HS2.out.later B8) HONE2.out (by unfold maxLen; omega) (by omega) B8.size ?_
                intro v9 w9 HO9 hg9 hat9
                have B9 : Below w2.heap.size w2 w9 := (Fr.of_below B8 (fun _ => False)).grown hg9 B8.size (fun q e => .inl ((HO8.lt q e).1)) |>.below (Nat.le_refl _) (fun _ h => h.elim)
                refine hK _ _ (fun _ => ⟨⟨_, B9⟩, rfl⟩) ?_
                clear hK K hg9 hat9
                refine Rg.wpN_list (by decide) ?_
                simp only [List.map_cons, List.map_nil]
                have Q := Lib.hid (HFIN.out v9 w9 HO9 B9)
                clear HO9 B9 HO8 HOM
                go_wp2_with fail
                exact ⟨⟨0 + 1, v9, _, rfl, HIN.out, by go_num, Q.out.1, Q.out.2, Lib.hid HNX.out⟩, by have := HIN.out; simp [intOf]; omega⟩
          · as_aux_lemma =>
              refine Rg.wp1_step (fun K hK => ?_) ⟨⟨_, B0⟩, rfl⟩
              refine step_build1W (by rfl) _ (by rfl) x (by rfl) ?_
              have HX := World.alloc_heap_new (w2.drew) (.cells #[.int .i64 x.job.id, .int .i64 x.job.queue, .int .i64 x.job.prio, .int .i64 x.job.runtime, .int .i64 x.job.shape.gpus, .int .i64 x.job.shape.cpus, .int .i64 x.job.shape.mn, .int .i64 x.job.shape.mx, .int .i64 x.since, .int .i64 x.number] 27)
              have BN := B0.alloc B0.size ((.cells #[.int .i64 x.job.id, .int .i64 x.job.queue, .int .i64 x.job.prio, .int .i64 x.job.runtime, .int .i64 x.job.shape.gpus, .int .i64 x.job.shape.cpus, .int .i64 x.job.shape.mn, .int .i64 x.job.shape.mx, .int .i64 x.since, .int .i64 x.number] 27))
              refine hK _ _ (fun _ => ⟨⟨_, BN⟩, rfl⟩) ?_
              clear hK K
              obtain ⟨hx, hhx⟩ : ∃ q, (w2.drew).heap.size = q := ⟨_, rfl⟩
              rw [hhx] at HX ⊢
              generalize w2.drew.alloc (.cells #[.int .i64 x.job.id, .int .i64 x.job.queue, .int .i64 x.job.prio, .int .i64 x.job.runtime, .int .i64 x.job.shape.gpus, .int .i64 x.job.shape.cpus, .int .i64 x.job.shape.mn, .int .i64 x.job.shape.mx, .int .i64 x.since, .int .i64 x.number] 27) = wa1 at BN HX ⊢
              have B1 : Below w2.heap.size w2 wa1 := BN
              clear BN
              have HXo := HX
              try simp only [Rg.wpP, Rg.pickn, List.getElem?_cons_succ, List.getElem?_cons_zero, Option.toList, List.map_cons, List.map_nil, List.cons_append, List.nil_append]
              refine Rg.wp1_step (fun K hK => ?_) ⟨⟨_, B1⟩, rfl⟩
              refine step_build0W (by rfl) (by rfl) ?_
              have HE := made0 B1
              have BN := B1.alloc B1.size ((.cells #[] 27))
              have HX := alloc_other (o' := .cells #[] 27) HX
              have hxe : hx < (wa1).heap.size := lt_of_block HXo
              refine hK _ _ (fun _ => ⟨⟨_, BN⟩, rfl⟩) ?_
              clear hK K
              obtain ⟨he, hhe⟩ : ∃ q, (wa1).heap.size = q := ⟨_, rfl⟩
              rw [hhe] at hxe
              rw [hhe] at HE ⊢
              generalize wa1.alloc (.cells #[] 27) = wa2 at BN HE HX ⊢
              have B2 : Below w2.heap.size w2 wa2 := BN
              clear BN
              have HEL : he < wa2.heap.size := (HE.lt he rfl).2
              have HXo := HX
              try simp only [Rg.wpP, Rg.pickn, List.getElem?_cons_succ, List.getElem?_cons_zero, Option.toList, List.map_cons, List.map_nil, List.cons_append, List.nil_append]
              refine Rg.wp1_step (fun K hK => ?_) ⟨⟨_, B2⟩, rfl⟩
              refine step_append_src _ (by rfl) _ _ _ (by rfl) w2.heap.size 27 i0 _ 10 80 Try.underlying43 hi0 hz0 hz1 hz2 rfl (by omega) (.slice (some ⟨he, 0, none⟩) 0 0) 0 [] (by rfl) HE none 0 0 [] (by rfl) (HS1.out.later B2) HONE1.out (by unfold maxLen; omega) (by omega) B2.size ?_
              intro v7 wa3 HOM hg7 hat7
              have B3 : Below w2.heap.size w2 wa3 := (Fr.of_below B2 (fun _ => False)).grown hg7 B2.size (fun q e => .inl ((HE.lt q e).1)) |>.below (Nat.le_refl _) (fun _ h => h.elim)
              have HX := (hg7.block hx (lt_of_block HX) (fun e => by simp only [Value.ownBlock, Option.some.injEq] at e; omega)).trans HX
              refine hK _ _ (fun _ => ⟨⟨_, B3⟩, rfl⟩) ?_
              clear hK K hg7 hat7 HE HEL
              try simp only [Rg.wpP, Rg.pickn, List.getElem?_cons_succ, List.getElem?_cons_zero, Option.toList, List.map_cons, List.map_nil, List.cons_append, List.nil_append]
              have HX := HX
              refine Rg.wpN_step (fun K hK => ?_) ⟨⟨_, B3⟩, rfl⟩
              refine step_append_src _ (by rfl) _ _ _ (by rfl) w2.heap.size 27 i0 _ 10 80 Try.underlying43 hi0 hz0 hz1 hz2 rfl (by omega) v7 (0 + 0) ([] ++ []) (by rfl) HOM (some ⟨hx, 0, none⟩) 1 1 (Wt.cells x) (by rfl) (.inr ⟨_, rfl, rfl, World.news_of_block HX⟩) (by simp [Wt.cells, Value.oneCell']) (by unfold maxLen; omega) (by omega) B3.size ?_
              intro v8 w8 HO8 hg8 hat8
              have B8 : Below w2.heap.size w2 w8 := (Fr.of_below B3 (fun _ => False)).grown hg8 B3.size (fun q e => .inl ((HOM.lt q e).1)) |>.below (Nat.le_refl _) (fun _ h => h.elim)
              refine hK _ _ (fun _ => ⟨⟨_, B8⟩, rfl⟩) ?_
              clear hK K hg8 hat8 HX
              refine Rg.wpN_step (fun K hK => ?_) ⟨⟨_, B8⟩, rfl⟩
              refine step_append_src _ (by rfl) _ _ _ (by rfl) w2.heap.size 27 i0 _ 10 80 Try.underlying43 hi0 hz0 hz1 hz2 rfl (by omega) v8 (0 + 0 + 1) ([] ++ [] ++ Wt.cells x) (by rfl) HO8 none 0 0 [] (by rfl) (HS2.out.later B8) HONE2.out (by unfold maxLen; omega) (by omega) B8.size ?_
              intro v9 w9 HO9 hg9 hat9
              have B9 : Below w2.heap.size w2 w9 := (Fr.of_below B8 (fun _ => False)).grown hg9 B8.size (fun q e => .inl ((HO8.lt q e).1)) |>.below (Nat.le_refl _) (fun _ h => h.elim)
              refine hK _ _ (fun _ => ⟨⟨_, B9⟩, rfl⟩) ?_
              clear hK K hg9 hat9
              refine Rg.wpN_list (by decide) ?_
              simp only [List.map_cons, List.map_nil]
              have Q := Lib.hid (HFIN.out v9 w9 HO9 B9)
              clear HO9 B9 HO8 HOM
              go_wp2_with fail
              exact ⟨⟨0 + 1, v9, _, rfl, HIN.out, by go_num, Q.out.1, Q.out.2, Lib.hid HNX.out⟩, by have := HIN.out; simp [intOf]; omega⟩
        · simp only [Value.slice.injEq] at e
          obtain ⟨rfl, -, rfl⟩ := e
          have hsl := slice_own (xs := out) (w := w2) (by rw [hlo]; exact HO2.out)
          obtain ⟨ad, hif⟩ : ∃ ad, (if capv = k then (some ⟨g, 0, none⟩ : Option Addr) else some ⟨g, 0 + k * 10, none⟩) = some ad := by split <;> exact ⟨_, rfl⟩
          have hif' : (if capv = k then (some ⟨g, 0, none⟩ : Option Addr) else some ⟨g, k * 10, none⟩) = some ad := by rw [← hif, Nat.zero_add]
          have hs1 := src_partW hsl 0 k (by omega) ⟨g, 0, none⟩ capv (fun _ => by simp)
          rw [List.drop_zero, lt1, hf1] at hs1
          have hs2 := src_partW hsl k i (by omega) ad (capv - k) (fun hlt => by
            rw [if_neg (by omega)] at hif; exact (Option.some.inj hif).symm)
          rw [show out.take i = out by rw [← hlo]; exact List.take_length, lt2, hf2] at hs2
          have HS1 := Lib.hid hs1; have HS2 := Lib.hid hs2
          have hkc : k ≤ capv := by omega
          clear hs1 hs2 hsl hf1 hf2 lt1 lt2 hlo hcm
          go_wp2_with fail
          refine Rg.wp_region_plan (by kernel_rfl) [1, 2, 3, 5, 6, 7, 8, 11, 12, 13] (.two 0 (.two 4 (.one 9 (.fin [10, 14, 15])) 9 (.one 4 (.fin [10, 14, 15]))) 9 (.one 0 (.one 4 (.fin [10, 14, 15])))) 15 (by kernel_rfl) (by kernel_rfl) (by kernel_rfl) (fun w' => ∃ y : Later w2, w' = y.wd) (fun c a a' w hd h => ⟨hd.symm.trans h.1, h.2⟩) ⟨⟨_, B0⟩, rfl⟩ ?_
          simp only [Rg.picks, List.getElem?_cons_succ, List.getElem?_cons_zero, Option.toList, List.cons_append, List.nil_append]
          repeat (quiet_step (fail))
          refine wpQuiet_nil ?_
          clear qa0 qa1 qa2 qa3 qa4 qa5 qa6 qa7 qa8 qa9
          try simp only [Rg.wpP, Rg.pickn, List.getElem?_cons_succ, List.getElem?_cons_zero, Option.toList, List.map_cons, List.map_nil, List.cons_append, List.nil_append]
          constructor
          · as_aux_lemma =>
              refine Rg.wp1_step (fun K hK => ?_) ⟨⟨_, B0⟩, rfl⟩
              refine step_build0W (by rfl) (by rfl) ?_
              have HE := made0 B0
              have BN := B0.alloc B0.size ((.cells #[] 27))
              refine hK _ _ (fun _ => ⟨⟨_, BN⟩, rfl⟩) ?_
              clear hK K
              obtain ⟨he, hhe⟩ : ∃ q, (w2.drew).heap.size = q := ⟨_, rfl⟩
              rw [hhe] at HE ⊢
              generalize w2.drew.alloc (.cells #[] 27) = wa1 at BN HE ⊢
              have B1 : Below w2.heap.size w2 wa1 := BN
              clear BN
              have HEL : he < wa1.heap.size := (HE.lt he rfl).2
              try simp only [Rg.wpP, Rg.pickn, List.getElem?_cons_succ, List.getElem?_cons_zero, Option.toList, List.map_cons, List.map_nil, List.cons_append, List.nil_append]
              constructor
              · refine Rg.wp1_step (fun K hK => ?_) ⟨⟨_, B1⟩, rfl⟩
                refine step_append_src _ (by rfl) _ _ _ (by rfl) w2.heap.size 27 i0 _ 10 80 Try.underlying43 hi0 hz0 hz1 hz2 rfl (by omega) (.slice (some ⟨he, 0, none⟩) 0 0) 0 [] (by rfl) HE (some ⟨g, 0, none⟩) k capv f1 (by rfl) (HS1.out.later B1) HONE1.out (by unfold maxLen; omega) (by omega) B1.size ?_
                intro v7 wa2 HOM hg7 hat7
                have B2 : Below w2.heap.size w2 wa2 := (Fr.of_below B1 (fun _ => False)).grown hg7 B1.size (fun q e => .inl ((HE.lt q e).1)) |>.below (Nat.le_refl _) (fun _ h => h.elim)
                refine hK _ _ (fun _ => ⟨⟨_, B2⟩, rfl⟩) ?_
                clear hK K hg7 hat7 HE HEL
                try simp only [Rg.wpP, Rg.pickn, List.getElem?_cons_succ, List.getElem?_cons_zero, Option.toList, List.map_cons, List.map_nil, List.cons_append, List.nil_append]
                refine Rg.wp1_step (fun K hK => ?_) ⟨⟨_, B2⟩, rfl⟩
                refine step_build1W (by rfl) _ (by rfl) x (by rfl) ?_
                have HX := World.alloc_heap_new (wa2) (.cells #[.int .i64 x.job.id, .int .i64 x.job.queue, .int .i64 x.job.prio, .int .i64 x.job.runtime, .int .i64 x.job.shape.gpus, .int .i64 x.job.shape.cpus, .int .i64 x.job.shape.mn, .int .i64 x.job.shape.mx, .int .i64 x.since, .int .i64 x.number] 27)
                have BN := B2.alloc B2.size ((.cells #[.int .i64 x.job.id, .int .i64 x.job.queue, .int .i64 x.job.prio, .int .i64 x.job.runtime, .int .i64 x.job.shape.gpus, .int .i64 x.job.shape.cpus, .int .i64 x.job.shape.mn, .int .i64 x.job.shape.mx, .int .i64 x.since, .int .i64 x.number] 27))
                have HOM := ownsRow_below HOM ((Below.refl (wa2).heap.size (wa2)).alloc (Nat.le_refl _) ((.cells #[.int .i64 x.job.id, .int .i64 x.job.queue, .int .i64 x.job.prio, .int .i64 x.job.runtime, .int .i64 x.job.shape.gpus, .int .i64 x.job.shape.cpus, .int .i64 x.job.shape.mn, .int .i64 x.job.shape.mx, .int .i64 x.since, .int .i64 x.number] 27)))
                refine hK _ _ (fun _ => ⟨⟨_, BN⟩, rfl⟩) ?_
                clear hK K
                obtain ⟨hx, hhx⟩ : ∃ q, (wa2).heap.size = q := ⟨_, rfl⟩
                rw [hhx] at HX ⊢
                generalize wa2.alloc (.cells #[.int .i64 x.job.id, .int .i64 x.job.queue, .int .i64 x.job.prio, .int .i64 x.job.runtime, .int .i64 x.job.shape.gpus, .int .i64 x.job.shape.cpus, .int .i64 x.job.shape.mn, .int .i64 x.job.shape.mx, .int .i64 x.since, .int .i64 x.number] 27) = wa3 at BN HOM HX ⊢
                have B3 : Below w2.heap.size w2 wa3 := BN
                clear BN
                have HXo := HX
                try simp only [Rg.wpP, Rg.pickn, List.getElem?_cons_succ, List.getElem?_cons_zero, Option.toList, List.map_cons, List.map_nil, List.cons_append, List.nil_append]
                have HX := HX
                refine Rg.wpN_step (fun K hK => ?_) ⟨⟨_, B3⟩, rfl⟩
                refine step_append_src _ (by rfl) _ _ _ (by rfl) w2.heap.size 27 i0 _ 10 80 Try.underlying43 hi0 hz0 hz1 hz2 rfl (by omega) v7 (0 + k) ([] ++ f1) (by rfl) HOM (some ⟨hx, 0, none⟩) 1 1 (Wt.cells x) (by rfl) (.inr ⟨_, rfl, rfl, World.news_of_block HX⟩) (by simp [Wt.cells, Value.oneCell']) (by unfold maxLen; omega) (by omega) B3.size ?_
                intro v8 w8 HO8 hg8 hat8
                have B8 : Below w2.heap.size w2 w8 := (Fr.of_below B3 (fun _ => False)).grown hg8 B3.size (fun q e => .inl ((HOM.lt q e).1)) |>.below (Nat.le_refl _) (fun _ h => h.elim)
                refine hK _ _ (fun _ => ⟨⟨_, B8⟩, rfl⟩) ?_
                clear hK K hg8 hat8 HX
                refine Rg.wpN_step (fun K hK => ?_) ⟨⟨_, B8⟩, rfl⟩
                refine step_append_src _ (by rfl) _ _ _ (by rfl) w2.heap.size 27 i0 _ 10 80 Try.underlying43 hi0 hz0 hz1 hz2 rfl (by omega) v8 (0 + k + 1) ([] ++ f1 ++ Wt.cells x) (by rfl) HO8 (some ad) (i - k) (capv - k) f2 (by rfl) (HS2.out.later B8) HONE2.out (by unfold maxLen; omega) (by omega) B8.size ?_
                intro v9 w9 HO9 hg9 hat9
                have B9 : Below w2.heap.size w2 w9 := (Fr.of_below B8 (fun _ => False)).grown hg9 B8.size (fun q e => .inl ((HO8.lt q e).1)) |>.below (Nat.le_refl _) (fun _ h => h.elim)
                refine hK _ _ (fun _ => ⟨⟨_, B9⟩, rfl⟩) ?_
                clear hK K hg9 hat9
                refine Rg.wpN_list (by decide) ?_
                simp only [List.map_cons, List.map_nil]
                have Q := Lib.hid (HFIN.out v9 w9 HO9 B9)
                clear HO9 B9 HO8 HOM
                go_wp2_with fail
                exact ⟨⟨i + 1, v9, _, rfl, HIN.out, by go_num, Q.out.1, Q.out.2, Lib.hid HNX.out⟩, by have := HIN.out; simp [intOf]; omega⟩
              · refine Rg.wp1_step (fun K hK => ?_) ⟨⟨_, B1⟩, rfl⟩
                refine step_build1W (by rfl) _ (by rfl) x (by rfl) ?_
                have HX := World.alloc_heap_new (wa1) (.cells #[.int .i64 x.job.id, .int .i64 x.job.queue, .int .i64 x.job.prio, .int .i64 x.job.runtime, .int .i64 x.job.shape.gpus, .int .i64 x.job.shape.cpus, .int .i64 x.job.shape.mn, .int .i64 x.job.shape.mx, .int .i64 x.since, .int .i64 x.number] 27)
                have BN := B1.alloc B1.size ((.cells #[.int .i64 x.job.id, .int .i64 x.job.queue, .int .i64 x.job.prio, .int .i64 x.job.runtime, .int .i64 x.job.shape.gpus, .int .i64 x.job.shape.cpus, .int .i64 x.job.shape.mn, .int .i64 x.job.shape.mx, .int .i64 x.since, .int .i64 x.number] 27))
                have HE := ownsRow_below HE ((Below.refl (wa1).heap.size (wa1)).alloc (Nat.le_refl _) ((.cells #[.int .i64 x.job.id, .int .i64 x.job.queue, .int .i64 x.job.prio, .int .i64 x.job.runtime, .int .i64 x.job.shape.gpus, .int .i64 x.job.shape.cpus, .int .i64 x.job.shape.mn, .int .i64 x.job.shape.mx, .int .i64 x.since, .int .i64 x.number] 27)))
                refine hK _ _ (fun _ => ⟨⟨_, BN⟩, rfl⟩) ?_
                clear hK K
                obtain ⟨hx, hhx⟩ : ∃ q, (wa1).heap.size = q := ⟨_, rfl⟩
                rw [hhx] at HX ⊢
                have hxe : he < hx := by rw [← hhx]; exact HEL
                generalize wa1.alloc (.cells #[.int .i64 x.job.id, .int .i64 x.job.queue, .int .i64 x.job.prio, .int .i64 x.job.runtime, .int .i64 x.job.shape.gpus, .int .i64 x.job.shape.cpus, .int .i64 x.job.shape.mn, .int .i64 x.job.shape.mx, .int .i64 x.since, .int .i64 x.number] 27) = wa2 at BN HE HX ⊢
                have B2 : Below w2.heap.size w2 wa2 := BN
                clear BN
                have HXo := HX
                try simp only [Rg.wpP, Rg.pickn, List.getElem?_cons_succ, List.getElem?_cons_zero, Option.toList, List.map_cons, List.map_nil, List.cons_append, List.nil_append]
                refine Rg.wp1_step (fun K hK => ?_) ⟨⟨_, B2⟩, rfl⟩
                refine step_append_src _ (by rfl) _ _ _ (by rfl) w2.heap.size 27 i0 _ 10 80 Try.underlying43 hi0 hz0 hz1 hz2 rfl (by omega) (.slice (some ⟨he, 0, none⟩) 0 0) 0 [] (by rfl) HE (some ⟨g, 0, none⟩) k capv f1 (by rfl) (HS1.out.later B2) HONE1.out (by unfold maxLen; omega) (by omega) B2.size ?_
                intro v7 wa3 HOM hg7 hat7
                have B3 : Below w2.heap.size w2 wa3 := (Fr.of_below B2 (fun _ => False)).grown hg7 B2.size (fun q e => .inl ((HE.lt q e).1)) |>.below (Nat.le_refl _) (fun _ h => h.elim)
                have HX := (hg7.block hx (lt_of_block HX) (fun e => by simp only [Value.ownBlock, Option.some.injEq] at e; omega)).trans HX
                refine hK _ _ (fun _ => ⟨⟨_, B3⟩, rfl⟩) ?_
                clear hK K hg7 hat7 HE HEL
                try simp only [Rg.wpP, Rg.pickn, List.getElem?_cons_succ, List.getElem?_cons_zero, Option.toList, List.map_cons, List.map_nil, List.cons_append, List.nil_append]
                have HX := HX
                refine Rg.wpN_step (fun K hK => ?_) ⟨⟨_, B3⟩, rfl⟩
                refine step_append_src _ (by rfl) _ _ _ (by rfl) w2.heap.size 27 i0 _ 10 80 Try.underlying43 hi0 hz0 hz1 hz2 rfl (by omega) v7 (0 + k) ([] ++ f1) (by rfl) HOM (some ⟨hx, 0, none⟩) 1 1 (Wt.cells x) (by rfl) (.inr ⟨_, rfl, rfl, World.news_of_block HX⟩) (by simp [Wt.cells, Value.oneCell']) (by unfold maxLen; omega) (by omega) B3.size ?_
                intro v8 w8 HO8 hg8 hat8
                have B8 : Below w2.heap.size w2 w8 := (Fr.of_below B3 (fun _ => False)).grown hg8 B3.size (fun q e => .inl ((HOM.lt q e).1)) |>.below (Nat.le_refl _) (fun _ h => h.elim)
                refine hK _ _ (fun _ => ⟨⟨_, B8⟩, rfl⟩) ?_
                clear hK K hg8 hat8 HX
                refine Rg.wpN_step (fun K hK => ?_) ⟨⟨_, B8⟩, rfl⟩
                refine step_append_src _ (by rfl) _ _ _ (by rfl) w2.heap.size 27 i0 _ 10 80 Try.underlying43 hi0 hz0 hz1 hz2 rfl (by omega) v8 (0 + k + 1) ([] ++ f1 ++ Wt.cells x) (by rfl) HO8 (some ad) (i - k) (capv - k) f2 (by rfl) (HS2.out.later B8) HONE2.out (by unfold maxLen; omega) (by omega) B8.size ?_
                intro v9 w9 HO9 hg9 hat9
                have B9 : Below w2.heap.size w2 w9 := (Fr.of_below B8 (fun _ => False)).grown hg9 B8.size (fun q e => .inl ((HO8.lt q e).1)) |>.below (Nat.le_refl _) (fun _ h => h.elim)
                refine hK _ _ (fun _ => ⟨⟨_, B9⟩, rfl⟩) ?_
                clear hK K hg9 hat9
                refine Rg.wpN_list (by decide) ?_
                simp only [List.map_cons, List.map_nil]
                have Q := Lib.hid (HFIN.out v9 w9 HO9 B9)
                clear HO9 B9 HO8 HOM
                go_wp2_with fail
                exact ⟨⟨i + 1, v9, _, rfl, HIN.out, by go_num, Q.out.1, Q.out.2, Lib.hid HNX.out⟩, by have := HIN.out; simp [intOf]; omega⟩
          · as_aux_lemma =>
              refine Rg.wp1_step (fun K hK => ?_) ⟨⟨_, B0⟩, rfl⟩
              refine step_build1W (by rfl) _ (by rfl) x (by rfl) ?_
              have HX := World.alloc_heap_new (w2.drew) (.cells #[.int .i64 x.job.id, .int .i64 x.job.queue, .int .i64 x.job.prio, .int .i64 x.job.runtime, .int .i64 x.job.shape.gpus, .int .i64 x.job.shape.cpus, .int .i64 x.job.shape.mn, .int .i64 x.job.shape.mx, .int .i64 x.since, .int .i64 x.number] 27)
              have BN := B0.alloc B0.size ((.cells #[.int .i64 x.job.id, .int .i64 x.job.queue, .int .i64 x.job.prio, .int .i64 x.job.runtime, .int .i64 x.job.shape.gpus, .int .i64 x.job.shape.cpus, .int .i64 x.job.shape.mn, .int .i64 x.job.shape.mx, .int .i64 x.since, .int .i64 x.number] 27))
              refine hK _ _ (fun _ => ⟨⟨_, BN⟩, rfl⟩) ?_
              clear hK K
              obtain ⟨hx, hhx⟩ : ∃ q, (w2.drew).heap.size = q := ⟨_, rfl⟩
              rw [hhx] at HX ⊢
              generalize w2.drew.alloc (.cells #[.int .i64 x.job.id, .int .i64 x.job.queue, .int .i64 x.job.prio, .int .i64 x.job.runtime, .int .i64 x.job.shape.gpus, .int .i64 x.job.shape.cpus, .int .i64 x.job.shape.mn, .int .i64 x.job.shape.mx, .int .i64 x.since, .int .i64 x.number] 27) = wa1 at BN HX ⊢
              have B1 : Below w2.heap.size w2 wa1 := BN
              clear BN
              have HXo := HX
              try simp only [Rg.wpP, Rg.pickn, List.getElem?_cons_succ, List.getElem?_cons_zero, Option.toList, List.map_cons, List.map_nil, List.cons_append, List.nil_append]
              refine Rg.wp1_step (fun K hK => ?_) ⟨⟨_, B1⟩, rfl⟩
              refine step_build0W (by rfl) (by rfl) ?_
              have HE := made0 B1
              have BN := B1.alloc B1.size ((.cells #[] 27))
              have HX := alloc_other (o' := .cells #[] 27) HX
              have hxe : hx < (wa1).heap.size := lt_of_block HXo
              refine hK _ _ (fun _ => ⟨⟨_, BN⟩, rfl⟩) ?_
              clear hK K
              obtain ⟨he, hhe⟩ : ∃ q, (wa1).heap.size = q := ⟨_, rfl⟩
              rw [hhe] at hxe
              rw [hhe] at HE ⊢
              generalize wa1.alloc (.cells #[] 27) = wa2 at BN HE HX ⊢
              have B2 : Below w2.heap.size w2 wa2 := BN
              clear BN
              have HEL : he < wa2.heap.size := (HE.lt he rfl).2
              have HXo := HX
              try simp only [Rg.wpP, Rg.pickn, List.getElem?_cons_succ, List.getElem?_cons_zero, Option.toList, List.map_cons, List.map_nil, List.cons_append, List.nil_append]
              refine Rg.wp1_step (fun K hK => ?_) ⟨⟨_, B2⟩, rfl⟩
              refine step_append_src _ (by rfl) _ _ _ (by rfl) w2.heap.size 27 i0 _ 10 80 Try.underlying43 hi0 hz0 hz1 hz2 rfl (by omega) (.slice (some ⟨he, 0, none⟩) 0 0) 0 [] (by rfl) HE (some ⟨g, 0, none⟩) k capv f1 (by rfl) (HS1.out.later B2) HONE1.out (by unfold maxLen; omega) (by omega) B2.size ?_
              intro v7 wa3 HOM hg7 hat7
              have B3 : Below w2.heap.size w2 wa3 := (Fr.of_below B2 (fun _ => False)).grown hg7 B2.size (fun q e => .inl ((HE.lt q e).1)) |>.below (Nat.le_refl _) (fun _ h => h.elim)
              have HX := (hg7.block hx (lt_of_block HX) (fun e => by simp only [Value.ownBlock, Option.some.injEq] at e; omega)).trans HX
              refine hK _ _ (fun _ => ⟨⟨_, B3⟩, rfl⟩) ?_
              clear hK K hg7 hat7 HE HEL
              try simp only [Rg.wpP, Rg.pickn, List.getElem?_cons_succ, List.getElem?_cons_zero, Option.toList, List.map_cons, List.map_nil, List.cons_append, List.nil_append]
              have HX := HX
              refine Rg.wpN_step (fun K hK => ?_) ⟨⟨_, B3⟩, rfl⟩
              refine step_append_src _ (by rfl) _ _ _ (by rfl) w2.heap.size 27 i0 _ 10 80 Try.underlying43 hi0 hz0 hz1 hz2 rfl (by omega) v7 (0 + k) ([] ++ f1) (by rfl) HOM (some ⟨hx, 0, none⟩) 1 1 (Wt.cells x) (by rfl) (.inr ⟨_, rfl, rfl, World.news_of_block HX⟩) (by simp [Wt.cells, Value.oneCell']) (by unfold maxLen; omega) (by omega) B3.size ?_
              intro v8 w8 HO8 hg8 hat8
              have B8 : Below w2.heap.size w2 w8 := (Fr.of_below B3 (fun _ => False)).grown hg8 B3.size (fun q e => .inl ((HOM.lt q e).1)) |>.below (Nat.le_refl _) (fun _ h => h.elim)
              refine hK _ _ (fun _ => ⟨⟨_, B8⟩, rfl⟩) ?_
              clear hK K hg8 hat8 HX
              refine Rg.wpN_step (fun K hK => ?_) ⟨⟨_, B8⟩, rfl⟩
              refine step_append_src _ (by rfl) _ _ _ (by rfl) w2.heap.size 27 i0 _ 10 80 Try.underlying43 hi0 hz0 hz1 hz2 rfl (by omega) v8 (0 + k + 1) ([] ++ f1 ++ Wt.cells x) (by rfl) HO8 (some ad) (i - k) (capv - k) f2 (by rfl) (HS2.out.later B8) HONE2.out (by unfold maxLen; omega) (by omega) B8.size ?_
              intro v9 w9 HO9 hg9 hat9
              have B9 : Below w2.heap.size w2 w9 := (Fr.of_below B8 (fun _ => False)).grown hg9 B8.size (fun q e => .inl ((HO8.lt q e).1)) |>.below (Nat.le_refl _) (fun _ h => h.elim)
              refine hK _ _ (fun _ => ⟨⟨_, B9⟩, rfl⟩) ?_
              clear hK K hg9 hat9
              refine Rg.wpN_list (by decide) ?_
              simp only [List.map_cons, List.map_nil]
              have Q := Lib.hid (HFIN.out v9 w9 HO9 B9)
              clear HO9 B9 HO8 HOM
              go_wp2_with fail
              exact ⟨⟨i + 1, v9, _, rfl, HIN.out, by go_num, Q.out.1, Q.out.2, Lib.hid HNX.out⟩, by have := HIN.out; simp [intOf]; omega⟩
    · obtain rfl : i = n := by omega
      have din : decide ((i : Int) < i) = false := by simp
      have HFIN := Lib.hid (show SortedRow xs now age w.heap.size v wo from ⟨out, by rw [HN.out]; exact HO.out, HL.out.1.trans HN.out.symm, by
        have := HL.out.2.1
        rwa [List.take_of_length_le (by rw [HN.out]; exact Nat.le_refl _)] at this, HL.out.2.2⟩)
      clear hin
      go_wp2_with fail
      go_ret
      exact ⟨_, rfl, HFIN.out, HB.out⟩
end Go.Proofs.Ytlbneinfejnaaaa.Ss
