/-
  The law OrderTurns.
-/
import Derived.Test.YtlbneinfejnaaaaRefSort
import Derived.Test.YtlbneinfejnaaaaSameWt
import Derived.Test.YtlbneinfejnaaaaRegions5
set_option linter.unusedVariables false
set_option linter.unusedSimpArgs false
namespace Go.Proofs.Ytlbneinfejnaaaa
open Go Go.RowKit Ss
theorem filter_one {α : Type} [DecidableEq α] {l l' : List α} (hp : l.Perm l') (f : α → Bool) (hn : l.Nodup) (h : ∀ x ∈ l, ∀ y ∈ l, f x = true → f y = true → x = y) : l.filter f = l'.filter f := by
  have hq := hp.filter f
  have hn1 : (l.filter f).Nodup := hn.sublist List.filter_sublist
  cases hc : l.filter f with
  | nil => rw [hc] at hq; rw [hq.symm.eq_nil]
  | cons a r =>
    have hr : r = [] := by
      cases r with
      | nil => rfl
      | cons b r =>
        exfalso
        have ha : a ∈ l.filter f := by rw [hc]; simp
        have hb : b ∈ l.filter f := by rw [hc]; simp
        have := h a (List.mem_filter.1 ha).1 b (List.mem_filter.1 hb).1 (List.mem_filter.1 ha).2 (List.mem_filter.1 hb).2
        rw [hc, this] at hn1
        simp at hn1
    subst hr
    rw [hc] at hq
    exact (List.perm_singleton.1 hq.symm).symm
theorem se_turn {xs : List Wt} {now age : Int} {k : Nat} (h : ∀ (i j : Nat) (hi : i < xs.length) (hj : j < i), xs[i].number ≠ xs[j].number) : SE (lw now age) xs (xs.drop k ++ xs.take k) := by
  have hinj : ∀ (i j : Nat) (hi : i < xs.length) (hj : j < xs.length), xs[i].number = xs[j].number → i = j := fun i j hi hj e => by
    rcases Nat.lt_trichotomy i j with h1 | h1 | h1
    · exact absurd e.symm (h j i hj h1)
    · exact h1
    · exact absurd e (h i j hi h1)
  have hnd : xs.Nodup := by
    rw [List.nodup_iff_pairwise_ne, List.pairwise_iff_getElem]
    intro i j hi hj hij e
    have := hinj i j hi hj (by rw [e])
    omega
  intro z
  refine filter_one ?_ _ hnd fun x hx y hy h1 h2 => ?_
  · conv => lhs; rw [← List.take_append_drop k xs]
    exact List.perm_append_comm
  · have e1 := eqv_iff.1 h1; have e2 := eqv_iff.1 h2
    have hno : ∀ a b : Wt, lw now age a b = false → lw now age b a = false → a.number = b.number := fun a b h1 h2 => by
      have k1 : ¬ _ := fun e => by have := (aheadF_iff (a := a) (b := b) (now := now) (age := age)).2 e; rw [show aheadF a b now age = false from h1] at this; cases this
      have k2 : ¬ _ := fun e => by have := (aheadF_iff (a := b) (b := a) (now := now) (age := age)).2 e; rw [show aheadF b a now age = false from h2] at this; cases this
      omega
    obtain ⟨i, hi, rfl⟩ := List.mem_iff_getElem.1 hx
    obtain ⟨j, hj, rfl⟩ := List.mem_iff_getElem.1 hy
    have := hinj i j hi hj ((hno z _ e1.1 e1.2).symm.trans (hno z _ e2.1 e2.2))
    subst this
    rfl
set_option maxRecDepth 100000 in
set_option maxHeartbeats 8000000 in
theorem orderTurns_walk (v : Value) (xs : List Wt) (W : World) (hs : Rd.SliceOf W v 10 Wt.cells xs) (wr0 : ∀ x ∈ xs, Wt.wf x) (now : Int) (w1 : (Lit.int .i64 now).wf = true) (age : Int) (w2 : (Lit.int .i64 age).wf = true) (turn : Int) (w3 : (Lit.int .i64 turn).wf = true) :
    Calls Try.prog 9 #[v, .int .i64 now, .int .i64 age, .int .i64 turn] W fun e w' => e = .returned (.bool true) ∧ Below W.heap.size W w' := by
  clear wr0 w1 w2 w3
  obtain ⟨i0, hi0, hz0, hz1, hz2⟩ := info_partsW infoW
  obtain ⟨a, cap, rfl⟩ := hs.form
  obtain ⟨n, hn⟩ : ∃ n, xs.length = n := ⟨_, rfl⟩
  have HS := Lib.hid hs; have HN := Lib.hid hn
  rw [hn]
  have hnm : n ≤ maxLen := by
    rcases id hs with ⟨h1, rfl⟩ | ⟨a, cap, h1, h2, h3, _⟩
    · rw [← hn]; exact Nat.zero_le _
    · omega
  have hn63 : n ≤ 9223372036854775807 := hnm
  clear hs hn hnm
  go_enter Try.func9, Try.ntmps9
  go_wp2_with fail
  refine (awake_any _).mono ?_
  rintro e w1 ⟨rfl, hb1⟩
  have HB1 := Lib.hid hb1
  clear hb1
  by_cases h60 : 60 < n
  · have d0 : decide ((60 : Int) < n) = true := by simp; omega
    go_wp2_with fail
    go_ret
    exact ⟨rfl, HB1.out⟩
  have d0 : decide ((60 : Int) < n) = false := by simp; omega
  by_cases ht0 : turn < 0
  · have d1 : decide (turn < 0) = true := by simp; omega
    go_wp2_with fail
    go_ret
    exact ⟨rfl, HB1.out⟩
  have d1 : decide (turn < 0) = false := by simp; omega
  by_cases htn : (n : Int) < turn
  · have d2 : decide ((n : Int) < turn) = true := by simp; omega
    go_wp2_with fail
    go_ret
    exact ⟨rfl, HB1.out⟩
  have d2 : decide ((n : Int) < turn) = false := by simp; omega
  obtain ⟨tu, rfl⟩ : ∃ tu : Nat, turn = tu := ⟨turn.toNat, by omega⟩
  have htu : tu ≤ n := by omega
  have hn60 : n ≤ 60 := by omega
  have HOS := Lib.hid (ordSort_any _ xs now age w1 (HS.out.later HB1.out) (by have := HN.out; omega))
  rw [HN.out] at HOS
  go_wp2_with fail
  refine HOS.out.mono ?_
  rintro e w2 ⟨hb2, hc⟩
  clear h60 ht0 htn
  have HB2 := Lib.hid (HB1.out.trans (hb2.mono HB1.out.size))
  obtain ⟨bo, hbo⟩ : ∃ bo, (xs.all Wt.right && timeB now age) = bo := ⟨_, rfl⟩
  rw [hbo] at hc
  have HBO := Lib.hid hbo
  clear hbo hb2 HOS
  cases bo with
  | false =>
    rw [if_neg (by simp)] at hc
    subst hc
    go_wp2_with fail
    go_ret
    exact ⟨rfl, HB2.out⟩
  | true =>
  rw [if_pos rfl] at hc
  obtain ⟨u, rfl, dd, q1, q2, q3, q4⟩ := hc
  rw [HN.out] at q1 q2
  obtain ⟨au, cu, rfl⟩ : ∃ au cu, u = .slice au n cu := by
    rcases own_formW q1 with ⟨e, h0⟩ | ⟨g, cap, e, _⟩
    · exact ⟨none, 0, by rw [e, h0]⟩
    · exact ⟨_, cap, e⟩
  have HO := Lib.hid q1; have HDL := Lib.hid q2; have HSE := Lib.hid q3; have HST := Lib.hid q4
  have HOK := Lib.hid (show ∀ x ∈ xs, x.right = true ∧ timeB now age = true from fun x hx => by
    have := HBO.out
    rw [Bool.and_eq_true, List.all_eq_true] at this
    exact ⟨this.1 x hx, this.2⟩)
  clear q1 q2 q3 q4
  go_wp2_with fail
  go_loopw [11] (fun iv wr => ∃ (i : Nat), (i ≤ n) ∧ iv = .int .i64 i ∧ Hid (Below W.heap.size W wr) ∧ Hid (Below w2.heap.size w2 wr)) (fun iv _ => n - (intOf iv).toNat)
  case atStart => exact ⟨0, Nat.zero_le _, rfl, Lib.hid HB2.out, Lib.hid (Below.refl _ _)⟩
  case round =>
    obtain ⟨i, hi, rfl, HB, HB3⟩ := hrel
    by_cases hin : i + 1 < n
    · as_aux_lemma =>
      have din : decide ((i : Int) + 1 < n) = true := by simp; omega
      obtain ⟨s, hs⟩ : ∃ s, i + 1 = s := ⟨_, rfl⟩
      have hs1 : s < dd.length := by rw [HDL.out]; omega
      have hi1 : i < dd.length := by omega
      obtain ⟨x, hx⟩ : ∃ x, dd[s] = x := ⟨_, rfl⟩
      obtain ⟨y, hy⟩ : ∃ y, dd[i] = y := ⟨_, rfl⟩
      have hsl := slice_own (xs := dd) (w := wr) (v := .slice au n cu) (base := w1.heap.size) (by rw [HDL.out]; exact ownsRow_below HO.out HB3.out)
      obtain ⟨b, off, cp, hv, _, _, hb, hat⟩ := Wt.at hsl hs1 hx
      obtain ⟨b2, off2, cp2, hv2, _, _, hb2, hat2⟩ := Wt.at hsl hi1 hy
      rw [HDL.out] at hv hv2
      simp only [Value.slice.injEq] at hv hv2
      obtain ⟨rfl, -, rfl⟩ := hv
      obtain ⟨e44, -, -⟩ := hv2
      simp only [Option.some.injEq, Addr.mk.injEq] at e44
      obtain ⟨rfl, rfl, -⟩ := e44
      have hno : lw now age x y = false := by
        have := List.pairwise_iff_getElem.1 HST.out i s hi1 hs1 (by omega)
        rw [hx, hy] at this
        exact this
      have hmx := HOK.out x (HSE.out.symm.mem (lw_swo now age) (hx ▸ List.getElem_mem hs1))
      have hmy := HOK.out y (HSE.out.symm.mem (lw_swo now age) (hy ▸ List.getElem_mem hi1))
      have HA := Lib.hid (fun w' => (show Calls Try.prog 11 #[(.agg #[.int .i64 (Jb.id (Wt.job x)), .int .i64 (Jb.queue (Wt.job x)), .int .i64 (Jb.prio (Wt.job x)), .int .i64 (Jb.runtime (Wt.job x)), .int .i64 (Sh.gpus (Jb.shape (Wt.job x))), .int .i64 (Sh.cpus (Jb.shape (Wt.job x))), .int .i64 (Sh.mn (Jb.shape (Wt.job x))), .int .i64 (Sh.mx (Jb.shape (Wt.job x))), .int .i64 (Wt.since x), .int .i64 (Wt.number x)]), (.agg #[.int .i64 (Jb.id (Wt.job y)), .int .i64 (Jb.queue (Wt.job y)), .int .i64 (Jb.prio (Wt.job y)), .int .i64 (Jb.runtime (Wt.job y)), .int .i64 (Sh.gpus (Jb.shape (Wt.job y))), .int .i64 (Sh.cpus (Jb.shape (Wt.job y))), .int .i64 (Sh.mn (Jb.shape (Wt.job y))), .int .i64 (Sh.mx (Jb.shape (Wt.job y))), .int .i64 (Wt.since y), .int .i64 (Wt.number y)]), .int .i64 now, .int .i64 age] w' fun e w'' => e = .returned (.tuple #[.bool false, .int .i64 0]) ∧ Below w'.heap.size w' w'' from by
        have h9 := Ahead_any x y now age w'
        unfold AheadPost at h9
        have hok : okB x y now age = true := by unfold okB; rw [hmx.1, hmy.1, hmx.2]; rfl
        rw [hok, show aheadF x y now age = false from hno] at h9
        exact h9))
      have HLX := Lib.hid (fun (z9 : Later wr) => hat z9.wd z9.bel)
      have HLY := Lib.hid (fun (z9 : Later wr) => hat2 z9.wd z9.bel)
      have qa0 : ∀ z9 : Later wr, z9.wd.cell? ⟨b, off + s * 10, none⟩ = some (.int .i64 x.job.id) := fun z9 => (HLX.out z9).1
      have qa1 : ∀ z9 : Later wr, z9.wd.cell? ⟨b, off + s * 10 + 1, none⟩ = some (.int .i64 x.job.queue) := fun z9 => (HLX.out z9).2.1
      have qa2 : ∀ z9 : Later wr, z9.wd.cell? ⟨b, off + s * 10 + 2, none⟩ = some (.int .i64 x.job.prio) := fun z9 => (HLX.out z9).2.2.1
      have qa3 : ∀ z9 : Later wr, z9.wd.cell? ⟨b, off + s * 10 + 3, none⟩ = some (.int .i64 x.job.runtime) := fun z9 => (HLX.out z9).2.2.2.1
      have qa4 : ∀ z9 : Later wr, z9.wd.cell? ⟨b, off + s * 10 + 4, none⟩ = some (.int .i64 x.job.shape.gpus) := fun z9 => (HLX.out z9).2.2.2.2.1
      have qa5 : ∀ z9 : Later wr, z9.wd.cell? ⟨b, off + s * 10 + 5, none⟩ = some (.int .i64 x.job.shape.cpus) := fun z9 => (HLX.out z9).2.2.2.2.2.1
      have qa6 : ∀ z9 : Later wr, z9.wd.cell? ⟨b, off + s * 10 + 6, none⟩ = some (.int .i64 x.job.shape.mn) := fun z9 => (HLX.out z9).2.2.2.2.2.2.1
      have qa7 : ∀ z9 : Later wr, z9.wd.cell? ⟨b, off + s * 10 + 7, none⟩ = some (.int .i64 x.job.shape.mx) := fun z9 => (HLX.out z9).2.2.2.2.2.2.2.1
      have qa8 : ∀ z9 : Later wr, z9.wd.cell? ⟨b, off + s * 10 + 8, none⟩ = some (.int .i64 x.since) := fun z9 => (HLX.out z9).2.2.2.2.2.2.2.2.1
      have qa9 : ∀ z9 : Later wr, z9.wd.cell? ⟨b, off + s * 10 + 9, none⟩ = some (.int .i64 x.number) := fun z9 => (HLX.out z9).2.2.2.2.2.2.2.2.2
      have qb0 : ∀ z9 : Later wr, z9.wd.cell? ⟨b, off + i * 10, none⟩ = some (.int .i64 y.job.id) := fun z9 => (HLY.out z9).1
      have qb1 : ∀ z9 : Later wr, z9.wd.cell? ⟨b, off + i * 10 + 1, none⟩ = some (.int .i64 y.job.queue) := fun z9 => (HLY.out z9).2.1
      have qb2 : ∀ z9 : Later wr, z9.wd.cell? ⟨b, off + i * 10 + 2, none⟩ = some (.int .i64 y.job.prio) := fun z9 => (HLY.out z9).2.2.1
      have qb3 : ∀ z9 : Later wr, z9.wd.cell? ⟨b, off + i * 10 + 3, none⟩ = some (.int .i64 y.job.runtime) := fun z9 => (HLY.out z9).2.2.2.1
      have qb4 : ∀ z9 : Later wr, z9.wd.cell? ⟨b, off + i * 10 + 4, none⟩ = some (.int .i64 y.job.shape.gpus) := fun z9 => (HLY.out z9).2.2.2.2.1
      have qb5 : ∀ z9 : Later wr, z9.wd.cell? ⟨b, off + i * 10 + 5, none⟩ = some (.int .i64 y.job.shape.cpus) := fun z9 => (HLY.out z9).2.2.2.2.2.1
      have qb6 : ∀ z9 : Later wr, z9.wd.cell? ⟨b, off + i * 10 + 6, none⟩ = some (.int .i64 y.job.shape.mn) := fun z9 => (HLY.out z9).2.2.2.2.2.2.1
      have qb7 : ∀ z9 : Later wr, z9.wd.cell? ⟨b, off + i * 10 + 7, none⟩ = some (.int .i64 y.job.shape.mx) := fun z9 => (HLY.out z9).2.2.2.2.2.2.2.1
      have qb8 : ∀ z9 : Later wr, z9.wd.cell? ⟨b, off + i * 10 + 8, none⟩ = some (.int .i64 y.since) := fun z9 => (HLY.out z9).2.2.2.2.2.2.2.2.1
      have qb9 : ∀ z9 : Later wr, z9.wd.cell? ⟨b, off + i * 10 + 9, none⟩ = some (.int .i64 y.number) := fun z9 => (HLY.out z9).2.2.2.2.2.2.2.2.2
      have hw1 : IntKind.i64.wrap ((i : Int) + 1) = (s : Int) := by rw [IntKind.wrap_i64]; omega
      have hsn : s < n := by omega
      have hin2 : i < n := by omega
      have HIN := Lib.hid hin; have HIS := Lib.hid hs
      clear hs1 hi1 hx hy hsl hat hat2 hno hmx hmy hs
      go_wp2_with fail
      refine wp_region_later (by kernel_rfl) (by kernel_rfl) ?_
      repeat (quiet_step (exact Calls.later (HA.out _)))
      refine wpQuiet_nil ?_
      rintro w4 ⟨⟨_, hb4⟩, rfl⟩
      have HB4 := Lib.hid (HB.out.trans (hb4.mono HB.out.size)); have HB5 := Lib.hid (HB3.out.trans (hb4.mono HB3.out.size))
      clear qa0 qb0 qa1 qb1 qa2 qb2 qa3 qb3 qa4 qb4 qa5 qb5 qa6 qb6 qa7 qb7 qa8 qb8 qa9 qb9 HA HLX HLY hb4
      have hfin : i + 1 ≤ n := by have := HIN.out; omega
      have HFI := Lib.hid hfin
      go_wp2_with fail
      exact ⟨⟨s, by omega, rfl, Lib.hid HB4.out, Lib.hid HB5.out⟩, by have := HIS.out; have := HIN.out; simp [intOf]; omega⟩
    · as_aux_lemma =>
      have din : decide ((i : Int) + 1 < n) = false := by simp; omega
      go_wp2_with fail
      go_loopw [14] (fun iv wy => ∃ (j : Nat), j ≤ n ∧ iv = .int .i64 j ∧ Hid (Below W.heap.size W wy) ∧ Hid (Below w2.heap.size w2 wy) ∧ Hid (∀ (p q : Nat) (hp : p < xs.length) (hq : q < p), p < j → xs[p].number ≠ xs[q].number)) (fun iv _ => n - (intOf iv).toNat)
      case atStart => exact ⟨0, Nat.zero_le _, rfl, Lib.hid HB.out, Lib.hid HB3.out, Lib.hid (fun p q _ _ h => by omega)⟩
      case round =>
        clear HB HB3
        obtain ⟨j, hj, rfl, HB, HB3, HD⟩ := hrel
        by_cases hjn : j < n
        · have djn : decide ((j : Int) < n) = true := by simp; omega
          have HJN := Lib.hid hjn
          go_wp2_with fail
          go_loopw [15] (fun kv wy => ∃ (k : Nat), k ≤ j ∧ kv = .int .i64 k ∧ Hid (Below W.heap.size W wy) ∧ Hid (Below w2.heap.size w2 wy) ∧ Hid (∀ (q : Nat) (hp : j < xs.length) (hq : q < k) (hqj : q < j), xs[j].number ≠ xs[q].number)) (fun kv _ => j - (intOf kv).toNat)
          case atStart => exact ⟨0, Nat.zero_le _, rfl, Lib.hid HB.out, Lib.hid HB3.out, Lib.hid (fun q _ h _ => by omega)⟩
          case round =>
            clear HB HB3
            obtain ⟨k, hk, rfl, HB, HB3, HE⟩ := hrel
            have hjl : j < xs.length := by rw [HN.out]; exact hjn
            by_cases hkj : k < j
            · have dkj : decide ((k : Int) < j) = true := by simp; omega
              have dkj2 : decide (k < j) = true := by simp; omega
              have hkl : k < xs.length := by omega
              obtain ⟨x, hx⟩ : ∃ x, xs[j] = x := ⟨_, rfl⟩
              obtain ⟨y, hy⟩ : ∃ y, xs[k] = y := ⟨_, rfl⟩
              obtain ⟨b, off, cp, hv, _, _, hb, hat⟩ := Wt.at HS.out hjl hx
              obtain ⟨b2, off2, cp2, hv2, _, _, hb2, hat2⟩ := Wt.at HS.out hkl hy
              rw [HN.out] at hv hv2
              simp only [Value.slice.injEq] at hv hv2
              obtain ⟨rfl, -, rfl⟩ := hv
              obtain ⟨e44, -, -⟩ := hv2
              simp only [Option.some.injEq, Addr.mk.injEq] at e44
              obtain ⟨rfl, rfl, -⟩ := e44
              obtain ⟨c0, c1, c2, c3, c4, c5, c6, c7, c8, c9⟩ := hat wr HB.out
              obtain ⟨f0, f1, f2, f3, f4, f5, f6, f7, f8, f9⟩ := hat2 wr HB.out
              have lb : b < wr.heap.size := Nat.lt_of_lt_of_le hb HB.out.size
              obtain ⟨nx, hnx⟩ : ∃ q, x.number = q := ⟨_, rfl⟩
              obtain ⟨ny, hny⟩ : ∃ q, y.number = q := ⟨_, rfl⟩
              rw [hnx] at c9
              rw [hny] at f9
              have hkn : k < n := by omega
              by_cases he : nx = ny
              · have de : (nx == ny) = true := by simpa using he
                subst he
                clear hx hy hat hat2 hnx hny c0 c1 c2 c3 c4 c5 c6 c7 c8 f0 f1 f2 f3 f4 f5 f6 f7 f8
                go_wp2_with fail
                go_quiet (fail)
                have hbq : Below wr.heap.size wr (wr.drewN nq) := ⟨rfl, rfl, rfl, Nat.le_refl _, fun _ _ => rfl⟩
                have HBQ := Lib.hid (HB.out.trans (hbq.mono HB.out.size))
                clear hbq
                go_wp2_with fail
                go_ret
                exact ⟨rfl, HBQ.out⟩
              · have de : (nx == ny) = false := by simpa using he
                have HNX := Lib.hid (show ∀ (q : Nat) (hp : j < xs.length) (hq : q < k + 1) (hqj : q < j), xs[j].number ≠ xs[q].number from fun q hp hq hqj => by
                  by_cases e : q = k
                  · subst e; rw [hx, hy, hnx, hny]; exact he
                  · exact HE.out q hp (by omega) hqj)
                clear hx hy hat hat2 hnx hny c0 c1 c2 c3 c4 c5 c6 c7 c8 f0 f1 f2 f3 f4 f5 f6 f7 f8
                go_wp2_with fail
                go_quiet (fail)
                have hbq : Below wr.heap.size wr (wr.drewN nq) := ⟨rfl, rfl, rfl, Nat.le_refl _, fun _ _ => rfl⟩
                have HBQ := Lib.hid (HB.out.trans (hbq.mono HB.out.size)); have HBQ3 := Lib.hid (HB3.out.trans (hbq.mono HB3.out.size))
                clear hbq
                go_wp2_with fail
                exact ⟨⟨k + 1, by omega, by go_num, Lib.hid HBQ.out, Lib.hid HBQ3.out, Lib.hid HNX.out⟩, by simp [intOf]; omega⟩
            · obtain rfl : k = j := by omega
              have dkj : decide ((k : Int) < k) = false := by simp
              have HNX := Lib.hid (show ∀ (p q : Nat) (hp : p < xs.length) (hq : q < p), p < k + 1 → xs[p].number ≠ xs[q].number from fun p q hp hq h9 => by
                by_cases e : p = k
                · subst e; exact HE.out q hp hq hq
                · exact HD.out p q hp hq (by omega))
              go_wp2_with fail
              exact ⟨⟨k + 1, by omega, by go_num, Lib.hid HB.out, Lib.hid HB3.out, Lib.hid HNX.out⟩, by simp [intOf]; omega⟩
        · have djn : decide ((j : Int) < n) = false := by simp; omega
          have HSE2 := Lib.hid (se_turn (now := now) (age := age) (k := tu) (fun p q hp hq => HD.out p q hp hq (by rw [HN.out] at hp; omega)))
          have HXW := Lib.hid (HS.out.later HB.out)
          obtain ⟨ts, hts⟩ : ∃ ts, xs.drop tu ++ xs.take tu = ts := ⟨_, rfl⟩
          obtain ⟨f1, hf1⟩ : ∃ f, (xs.drop tu).flatMap Wt.cells = f := ⟨_, rfl⟩
          obtain ⟨f2, hf2⟩ : ∃ f, (xs.take tu).flatMap Wt.cells = f := ⟨_, rfl⟩
          have HONE1 := Lib.hid (hf1 ▸ flat_one (xs.drop tu)); have HONE2 := Lib.hid (hf2 ▸ flat_one (xs.take tu))
          have lt1 : (xs.drop tu).length = n - tu := by rw [List.length_drop, HN.out]
          have lt2 : (xs.take tu).length = tu := by rw [List.length_take, HN.out]; omega
          have htl : ts.length = n := by rw [← hts, List.length_append, lt1, lt2]; omega
          have HTL := Lib.hid htl
          have HSET := Lib.hid (show SE (lw now age) xs ts from hts ▸ HSE2.out)
          have HOKT := Lib.hid (show (ts.all Wt.right && timeB now age) = true from by
            have h9 := HBO.out
            rw [Bool.and_eq_true, List.all_eq_true] at h9 ⊢
            refine ⟨fun x hx => h9.1 x ?_, h9.2⟩
            rw [← hts, List.mem_append] at hx
            exact hx.elim (fun h => List.mem_of_mem_drop h) (fun h => List.mem_of_mem_take h))
          have HTS := Lib.hid (show ∀ (v8 : Value) (w8 : World), w8.ownsRow wr.heap.size 27 10 v8 (0 + (n - tu) + tu) ([] ++ f1 ++ f2) → Rd.SliceOf w8 v8 10 Wt.cells ts from fun v8 w8 ho => by
            refine slice_own (base := wr.heap.size) ?_
            rw [htl, ← hts, List.flatMap_append, hf1, hf2]
            have e1 : 0 + (n - tu) + tu = n := by omega
            rw [e1, List.nil_append] at ho
            exact ho)
          have B0 : Below wr.heap.size wr wr.drew := (Below.refl _ _).drew
          have hdt : decide (tu ≤ n) = true := by simp; omega
          clear hdt
          by_cases hn0 : 0 < n
          · have hxl : 0 < xs.length := by rw [HN.out]; exact hn0
            obtain ⟨b, off, cp, hv, hnc, hcm, hb, hat⟩ := HXW.out.plain (by intro e; rw [e] at hxl; simp at hxl) (by intro x _; simp [Wt.cells])
            rw [HN.out] at hv
            simp only [Value.slice.injEq] at hv
            obtain ⟨rfl, -, rfl⟩ := hv
            obtain ⟨ad, hif⟩ : ∃ ad, (if cap = tu then (some ⟨b, off, none⟩ : Option Addr) else some ⟨b, off + tu * 10, none⟩) = some ad := by split <;> exact ⟨_, rfl⟩
            have hx9 : Rd.SliceOf wr (.slice (some ⟨b, off, none⟩) n cap) 10 Wt.cells xs := by have h8 := HXW.out; rw [HN.out] at h8; exact h8
            have hcn : n ≤ cap := by
              rcases HS.out with ⟨h1, h2⟩ | ⟨a9, c9, h1, h2, h3, _⟩
              · rw [h2] at hxl; simp at hxl
              · simp only [Value.slice.injEq] at h1
                obtain ⟨-, -, rfl⟩ := h1
                rw [← HN.out]; exact h2
            have hs1 := src_partW hx9 tu n (by rw [HN.out]; exact Nat.le_refl _) ad (cap - tu) (fun hlt => by
              rw [if_neg (by omega)] at hif; exact (Option.some.inj hif).symm)
            rw [show xs.take n = xs by rw [← HN.out]; exact List.take_length, lt1, hf1] at hs1
            have hs2 := src_partW hx9 0 tu (by rw [HN.out]; exact htu) ⟨b, off, none⟩ cap (fun _ => by simp)
            rw [List.drop_zero, lt2, hf2] at hs2
            have HS1 := Lib.hid hs1; have HS2 := Lib.hid hs2
            have htc : tu ≤ cap := by omega
            clear hs1 hs2 hx9 hf1 hf2 lt1 lt2 hts htl hcm hat hxl
            go_wp2_with fail
            refine Rg.wp_region_tree (by kernel_rfl) [1, 2, 3, 5, 6, 7, 9, 10] (.one 0 (.one 4 (.one 8 (.one 11 (.pick 12 (.pick 13 (.pick 14 (.fin [15, 16])))))))) 16 (by kernel_rfl) (by kernel_rfl) (by kernel_rfl) (by kernel_rfl) (fun w' => ∃ y : Later wr, w' = y.wd) (fun c a a' w hd h => ⟨hd.symm.trans h.1, h.2⟩) ⟨⟨_, B0⟩, rfl⟩ ?_
            simp only [Rg.picks, List.getElem?_cons_succ, List.getElem?_cons_zero, Option.toList, List.cons_append, List.nil_append]
            repeat (quiet_step (fail))
            refine wpQuiet_nil ?_
            try simp only [Rg.wpQ, Rg.pickn, List.getElem?_cons_succ, List.getElem?_cons_zero, Option.toList, List.map_cons, List.map_nil, List.cons_append, List.nil_append]
            refine Rg.wp1_step (fun K hK => ?_) ⟨⟨_, B0⟩, rfl⟩
            refine step_build0W (by rfl) (by rfl) ?_
            have HE := made0 B0
            have BN := B0.alloc B0.size ((.cells #[] 27))
            refine hK _ _ (fun _ => ⟨⟨_, BN⟩, rfl⟩) ?_
            clear hK K
            obtain ⟨he, hhe⟩ : ∃ q, (wr.drew).heap.size = q := ⟨_, rfl⟩
            rw [hhe] at HE ⊢
            generalize wr.drew.alloc (.cells #[] 27) = wa1 at BN HE ⊢
            have B1 : Below wr.heap.size wr wa1 := BN
            clear BN
            have HEL : he < wa1.heap.size := (HE.lt he rfl).2
            try simp only [Rg.wpQ, Rg.pickn, List.getElem?_cons_succ, List.getElem?_cons_zero, Option.toList, List.map_cons, List.map_nil, List.cons_append, List.nil_append]
            refine Rg.wp1_step (fun K hK => ?_) ⟨⟨_, B1⟩, rfl⟩
            refine step_append_src _ (by rfl) _ _ _ (by rfl) wr.heap.size 27 i0 _ 10 80 Try.underlying43 hi0 hz0 hz1 hz2 rfl (by omega) (.slice (some ⟨he, 0, none⟩) 0 0) 0 [] (by rfl) HE (some ad) (n - tu) (cap - tu) f1 (by rfl) (HS1.out.later B1) HONE1.out (by unfold maxLen; omega) (by omega) B1.size ?_
            intro v7 wa2 HOM hg7 hat7
            have B2 : Below wr.heap.size wr wa2 := (Fr.of_below B1 (fun _ => False)).grown hg7 B1.size (fun q e => .inl ((HE.lt q e).1)) |>.below (Nat.le_refl _) (fun _ h => h.elim)
            refine hK _ _ (fun _ => ⟨⟨_, B2⟩, rfl⟩) ?_
            clear hK K hg7 hat7 HE HEL
            try simp only [Rg.wpQ, Rg.pickn, List.getElem?_cons_succ, List.getElem?_cons_zero, Option.toList, List.map_cons, List.map_nil, List.cons_append, List.nil_append]
            refine Rg.wp1_step (fun K hK => ?_) ⟨⟨_, B2⟩, rfl⟩
            refine step_append_src _ (by rfl) _ _ _ (by rfl) wr.heap.size 27 i0 _ 10 80 Try.underlying43 hi0 hz0 hz1 hz2 rfl (by omega) v7 (0 + (n - tu)) ([] ++ f1) (by rfl) HOM (some ⟨b, off, none⟩) tu cap f2 (by rfl) (HS2.out.later B2) HONE2.out (by unfold maxLen; omega) (by omega) B2.size ?_
            intro v8 w8 HO8 hg8 hat8
            have B8 : Below wr.heap.size wr w8 := (Fr.of_below B2 (fun _ => False)).grown hg8 B2.size (fun q e => .inl ((HOM.lt q e).1)) |>.below (Nat.le_refl _) (fun _ h => h.elim)
            refine hK _ _ (fun _ => ⟨⟨_, B8⟩, rfl⟩) ?_
            have SL := HTS.out v8 w8 HO8
            clear hK K hg8 hat8 HO8 HOM
            try simp only [Rg.wpQ, Rg.pickn, List.getElem?_cons_succ, List.getElem?_cons_zero, Option.toList, List.map_cons, List.map_nil, List.cons_append, List.nil_append]
            refine Rg.wp1_step (fun K hK => ?_) ⟨⟨_, B8⟩, rfl⟩
            go_simp
            refine (ordSort_any _ ts now age _ SL (by have := HTL.out; omega)).mono ?_
            rintro e w9 ⟨hb9, hc⟩
            rw [if_pos HOKT.out] at hc
            obtain ⟨u2, rfl, dd2, q1, q2, q3, q4⟩ := hc
            have B9 : Below wr.heap.size wr w9 := B8.trans (hb9.mono B8.size)
            refine hK _ _ (fun _ => ⟨⟨_, B9⟩, rfl⟩) ?_
            clear hK K
            try simp only [Rg.wpQ, Rg.pickn, List.getElem?_cons_succ, List.getElem?_cons_zero, Option.toList, List.map_cons, List.map_nil, List.cons_append, List.nil_append]
            refine ⟨⟨⟨_, B9⟩, rfl⟩, ?_⟩
            quiet_step (fail)
            refine wpQuiet_nil ?_
            try simp only [Rg.wpQ, Rg.pickn, List.getElem?_cons_succ, List.getElem?_cons_zero, Option.toList, List.map_cons, List.map_nil, List.cons_append, List.nil_append]
            refine ⟨⟨⟨_, B9⟩, rfl⟩, ?_⟩
            quiet_step (fail)
            refine wpQuiet_nil ?_
            try simp only [Rg.wpQ, Rg.pickn, List.getElem?_cons_succ, List.getElem?_cons_zero, Option.toList, List.map_cons, List.map_nil, List.cons_append, List.nil_append]
            refine ⟨⟨⟨_, B9⟩, rfl⟩, ?_⟩
            quiet_step (fail)
            refine wpQuiet_nil ?_
            try simp only [Rg.wpQ, Rg.pickn, List.getElem?_cons_succ, List.getElem?_cons_zero, Option.toList, List.map_cons, List.map_nil, List.cons_append, List.nil_append]
            refine Rg.wpN_step (fun K hK => ?_) ⟨⟨_, B9⟩, rfl⟩
            go_simp
            refine hK _ _ (fun _ => ⟨⟨_, B9⟩, rfl⟩) ?_
            clear hK K
            refine Rg.wpN_list (by decide) ?_
            simp only [List.map_cons, List.map_nil]
            have hdd : dd = dd2 := SE.uniq (lw_swo now age) HST.out q4 (HSE.out.symm.trans (HSET.out.trans q3))
            have s1 : Rd.SliceOf w9 (.slice au n cu) 10 Wt.cells dd := slice_own (by rw [HDL.out]; exact ownsRow_below (ownsRow_below HO.out HB3.out) B9)
            have s2 : Rd.SliceOf w9 u2 10 Wt.cells dd2 := slice_own (by rw [q2]; exact q1)
            have HSM := Lib.hid (wtSame_any (.slice au n cu) u2 dd dd2 w9 s1 s2 (by have := HDL.out; omega) true (by simpa using hdd))
            have HB9 := Lib.hid (HB.out.trans (B9.mono HB.out.size))
            clear hdd s1 s2 q1 q2 q3 q4 hb9 B9 B8 SL
            go_wp2_with fail
            refine HSM.out.mono ?_
            rintro e wz ⟨rfl, hbz⟩
            have HBZ := Lib.hid (HB9.out.trans (hbz.mono HB9.out.size))
            clear hbz HSM
            go_wp2_with fail
            go_ret
            exact ⟨rfl, HBZ.out⟩
          · obtain rfl : n = 0 := by omega
            obtain rfl : tu = 0 := by omega
            have hx0 : xs = [] := List.length_eq_zero_iff.1 HN.out
            have hf10 : f1 = [] := by rw [← hf1, hx0]; rfl
            have hf20 : f2 = [] := by rw [← hf2, hx0]; rfl
            subst hf10 hf20
            cases a with
            | none =>
              have hcap : cap = 0 := by
                rcases HS.out with ⟨h1, _⟩ | ⟨a9, c9, h1, _⟩
                · simp only [Value.slice.injEq] at h1; exact h1.2.2
                · simp only [Value.slice.injEq] at h1; cases h1.1
              subst hcap
              have HS1 := Lib.hid (show Src wr 10 none 0 0 [] from .inl ⟨rfl, rfl, rfl, rfl⟩)
              clear hf1 hf2 lt1 lt2 hts htl hx0 hn0
              go_wp2_with fail
              refine Rg.wp_region_tree (by kernel_rfl) [1, 2, 3, 5, 6, 7, 9, 10] (.one 0 (.one 4 (.one 8 (.one 11 (.pick 12 (.pick 13 (.pick 14 (.fin [15, 16])))))))) 16 (by kernel_rfl) (by kernel_rfl) (by kernel_rfl) (by kernel_rfl) (fun w' => ∃ y : Later wr, w' = y.wd) (fun c a a' w hd h => ⟨hd.symm.trans h.1, h.2⟩) ⟨⟨_, B0⟩, rfl⟩ ?_
              simp only [Rg.picks, List.getElem?_cons_succ, List.getElem?_cons_zero, Option.toList, List.cons_append, List.nil_append]
              repeat (quiet_step (fail))
              refine wpQuiet_nil ?_
              try simp only [Rg.wpQ, Rg.pickn, List.getElem?_cons_succ, List.getElem?_cons_zero, Option.toList, List.map_cons, List.map_nil, List.cons_append, List.nil_append]
              refine Rg.wp1_step (fun K hK => ?_) ⟨⟨_, B0⟩, rfl⟩
              refine step_build0W (by rfl) (by rfl) ?_
              have HE := made0 B0
              have BN := B0.alloc B0.size ((.cells #[] 27))
              refine hK _ _ (fun _ => ⟨⟨_, BN⟩, rfl⟩) ?_
              clear hK K
              obtain ⟨he, hhe⟩ : ∃ q, (wr.drew).heap.size = q := ⟨_, rfl⟩
              rw [hhe] at HE ⊢
              generalize wr.drew.alloc (.cells #[] 27) = wa1 at BN HE ⊢
              have B1 : Below wr.heap.size wr wa1 := BN
              clear BN
              have HEL : he < wa1.heap.size := (HE.lt he rfl).2
              try simp only [Rg.wpQ, Rg.pickn, List.getElem?_cons_succ, List.getElem?_cons_zero, Option.toList, List.map_cons, List.map_nil, List.cons_append, List.nil_append]
              refine Rg.wp1_step (fun K hK => ?_) ⟨⟨_, B1⟩, rfl⟩
              refine step_append_src _ (by rfl) _ _ _ (by rfl) wr.heap.size 27 i0 _ 10 80 Try.underlying43 hi0 hz0 hz1 hz2 rfl (by omega) (.slice (some ⟨he, 0, none⟩) 0 0) 0 [] (by rfl) HE none 0 0 [] (by rfl) (HS1.out.later B1) HONE1.out (by unfold maxLen; omega) (by omega) B1.size ?_
              intro v7 wa2 HOM hg7 hat7
              have B2 : Below wr.heap.size wr wa2 := (Fr.of_below B1 (fun _ => False)).grown hg7 B1.size (fun q e => .inl ((HE.lt q e).1)) |>.below (Nat.le_refl _) (fun _ h => h.elim)
              refine hK _ _ (fun _ => ⟨⟨_, B2⟩, rfl⟩) ?_
              clear hK K hg7 hat7 HE HEL
              try simp only [Rg.wpQ, Rg.pickn, List.getElem?_cons_succ, List.getElem?_cons_zero, Option.toList, List.map_cons, List.map_nil, List.cons_append, List.nil_append]
              refine Rg.wp1_step (fun K hK => ?_) ⟨⟨_, B2⟩, rfl⟩
              refine step_append_src _ (by rfl) _ _ _ (by rfl) wr.heap.size 27 i0 _ 10 80 Try.underlying43 hi0 hz0 hz1 hz2 rfl (by omega) v7 (0 + 0) ([] ++ []) (by rfl) HOM none 0 0 [] (by rfl) (HS1.out.later B2) HONE2.out (by unfold maxLen; omega) (by omega) B2.size ?_
              intro v8 w8 HO8 hg8 hat8
              have B8 : Below wr.heap.size wr w8 := (Fr.of_below B2 (fun _ => False)).grown hg8 B2.size (fun q e => .inl ((HOM.lt q e).1)) |>.below (Nat.le_refl _) (fun _ h => h.elim)
              refine hK _ _ (fun _ => ⟨⟨_, B8⟩, rfl⟩) ?_
              have SL := HTS.out v8 w8 HO8
              clear hK K hg8 hat8 HO8 HOM
              try simp only [Rg.wpQ, Rg.pickn, List.getElem?_cons_succ, List.getElem?_cons_zero, Option.toList, List.map_cons, List.map_nil, List.cons_append, List.nil_append]
              refine Rg.wp1_step (fun K hK => ?_) ⟨⟨_, B8⟩, rfl⟩
              go_simp
              refine (ordSort_any _ ts now age _ SL (by have := HTL.out; omega)).mono ?_
              rintro e w9 ⟨hb9, hc⟩
              rw [if_pos HOKT.out] at hc
              obtain ⟨u2, rfl, dd2, q1, q2, q3, q4⟩ := hc
              have B9 : Below wr.heap.size wr w9 := B8.trans (hb9.mono B8.size)
              refine hK _ _ (fun _ => ⟨⟨_, B9⟩, rfl⟩) ?_
              clear hK K
              try simp only [Rg.wpQ, Rg.pickn, List.getElem?_cons_succ, List.getElem?_cons_zero, Option.toList, List.map_cons, List.map_nil, List.cons_append, List.nil_append]
              refine ⟨⟨⟨_, B9⟩, rfl⟩, ?_⟩
              quiet_step (fail)
              refine wpQuiet_nil ?_
              try simp only [Rg.wpQ, Rg.pickn, List.getElem?_cons_succ, List.getElem?_cons_zero, Option.toList, List.map_cons, List.map_nil, List.cons_append, List.nil_append]
              refine ⟨⟨⟨_, B9⟩, rfl⟩, ?_⟩
              quiet_step (fail)
              refine wpQuiet_nil ?_
              try simp only [Rg.wpQ, Rg.pickn, List.getElem?_cons_succ, List.getElem?_cons_zero, Option.toList, List.map_cons, List.map_nil, List.cons_append, List.nil_append]
              refine ⟨⟨⟨_, B9⟩, rfl⟩, ?_⟩
              quiet_step (fail)
              refine wpQuiet_nil ?_
              try simp only [Rg.wpQ, Rg.pickn, List.getElem?_cons_succ, List.getElem?_cons_zero, Option.toList, List.map_cons, List.map_nil, List.cons_append, List.nil_append]
              refine Rg.wpN_step (fun K hK => ?_) ⟨⟨_, B9⟩, rfl⟩
              go_simp
              refine hK _ _ (fun _ => ⟨⟨_, B9⟩, rfl⟩) ?_
              clear hK K
              refine Rg.wpN_list (by decide) ?_
              simp only [List.map_cons, List.map_nil]
              have hdd : dd = dd2 := SE.uniq (lw_swo now age) HST.out q4 (HSE.out.symm.trans (HSET.out.trans q3))
              have s1 : Rd.SliceOf w9 (.slice au 0 cu) 10 Wt.cells dd := slice_own (by rw [HDL.out]; exact ownsRow_below (ownsRow_below HO.out HB3.out) B9)
              have s2 : Rd.SliceOf w9 u2 10 Wt.cells dd2 := slice_own (by rw [q2]; exact q1)
              have HSM := Lib.hid (wtSame_any (.slice au 0 cu) u2 dd dd2 w9 s1 s2 (by have := HDL.out; omega) true (by simpa using hdd))
              have HB9 := Lib.hid (HB.out.trans (B9.mono HB.out.size))
              clear hdd s1 s2 q1 q2 q3 q4 hb9 B9 B8 SL
              go_wp2_with fail
              refine HSM.out.mono ?_
              rintro e wz ⟨rfl, hbz⟩
              have HBZ := Lib.hid (HB9.out.trans (hbz.mono HB9.out.size))
              clear hbz HSM
              go_wp2_with fail
              go_ret
              exact ⟨rfl, HBZ.out⟩
            | some ad =>
              have HS1 := Lib.hid (show ∀ (A : Addr) (c : Nat) (w : World), Src w 10 (some A) 0 c [] from fun A c w => .inr ⟨A, rfl, rfl, fun j u hu => by simp at hu⟩)
              clear hf1 hf2 lt1 lt2 hts htl hx0 hn0
              go_wp2_with fail
              refine Rg.wp_region_tree (by kernel_rfl) [1, 2, 3, 5, 6, 7, 9, 10] (.one 0 (.one 4 (.one 8 (.one 11 (.pick 12 (.pick 13 (.pick 14 (.fin [15, 16])))))))) 16 (by kernel_rfl) (by kernel_rfl) (by kernel_rfl) (by kernel_rfl) (fun w' => ∃ y : Later wr, w' = y.wd) (fun c a a' w hd h => ⟨hd.symm.trans h.1, h.2⟩) ⟨⟨_, B0⟩, rfl⟩ ?_
              simp only [Rg.picks, List.getElem?_cons_succ, List.getElem?_cons_zero, Option.toList, List.cons_append, List.nil_append]
              repeat (quiet_step (fail))
              refine wpQuiet_nil ?_
              try simp only [Rg.wpQ, Rg.pickn, List.getElem?_cons_succ, List.getElem?_cons_zero, Option.toList, List.map_cons, List.map_nil, List.cons_append, List.nil_append]
              refine Rg.wp1_step (fun K hK => ?_) ⟨⟨_, B0⟩, rfl⟩
              refine step_build0W (by rfl) (by rfl) ?_
              have HE := made0 B0
              have BN := B0.alloc B0.size ((.cells #[] 27))
              refine hK _ _ (fun _ => ⟨⟨_, BN⟩, rfl⟩) ?_
              clear hK K
              obtain ⟨he, hhe⟩ : ∃ q, (wr.drew).heap.size = q := ⟨_, rfl⟩
              rw [hhe] at HE ⊢
              generalize wr.drew.alloc (.cells #[] 27) = wa1 at BN HE ⊢
              have B1 : Below wr.heap.size wr wa1 := BN
              clear BN
              have HEL : he < wa1.heap.size := (HE.lt he rfl).2
              try simp only [Rg.wpQ, Rg.pickn, List.getElem?_cons_succ, List.getElem?_cons_zero, Option.toList, List.map_cons, List.map_nil, List.cons_append, List.nil_append]
              refine Rg.wp1_step (fun K hK => ?_) ⟨⟨_, B1⟩, rfl⟩
              refine step_append_src _ (by rfl) _ _ _ (by rfl) wr.heap.size 27 i0 _ 10 80 Try.underlying43 hi0 hz0 hz1 hz2 rfl (by omega) (.slice (some ⟨he, 0, none⟩) 0 0) 0 [] (by rfl) HE _ 0 _ [] (by rfl) (HS1.out _ _ _) HONE1.out (by unfold maxLen; omega) (by omega) B1.size ?_
              intro v7 wa2 HOM hg7 hat7
              have B2 : Below wr.heap.size wr wa2 := (Fr.of_below B1 (fun _ => False)).grown hg7 B1.size (fun q e => .inl ((HE.lt q e).1)) |>.below (Nat.le_refl _) (fun _ h => h.elim)
              refine hK _ _ (fun _ => ⟨⟨_, B2⟩, rfl⟩) ?_
              clear hK K hg7 hat7 HE HEL
              try simp only [Rg.wpQ, Rg.pickn, List.getElem?_cons_succ, List.getElem?_cons_zero, Option.toList, List.map_cons, List.map_nil, List.cons_append, List.nil_append]
              refine Rg.wp1_step (fun K hK => ?_) ⟨⟨_, B2⟩, rfl⟩
              refine step_append_src _ (by rfl) _ _ _ (by rfl) wr.heap.size 27 i0 _ 10 80 Try.underlying43 hi0 hz0 hz1 hz2 rfl (by omega) v7 (0 + 0) ([] ++ []) (by rfl) HOM _ 0 _ [] (by rfl) (HS1.out _ _ _) HONE2.out (by unfold maxLen; omega) (by omega) B2.size ?_
              intro v8 w8 HO8 hg8 hat8
              have B8 : Below wr.heap.size wr w8 := (Fr.of_below B2 (fun _ => False)).grown hg8 B2.size (fun q e => .inl ((HOM.lt q e).1)) |>.below (Nat.le_refl _) (fun _ h => h.elim)
              refine hK _ _ (fun _ => ⟨⟨_, B8⟩, rfl⟩) ?_
              have SL := HTS.out v8 w8 HO8
              clear hK K hg8 hat8 HO8 HOM
              try simp only [Rg.wpQ, Rg.pickn, List.getElem?_cons_succ, List.getElem?_cons_zero, Option.toList, List.map_cons, List.map_nil, List.cons_append, List.nil_append]
              refine Rg.wp1_step (fun K hK => ?_) ⟨⟨_, B8⟩, rfl⟩
              go_simp
              refine (ordSort_any _ ts now age _ SL (by have := HTL.out; omega)).mono ?_
              rintro e w9 ⟨hb9, hc⟩
              rw [if_pos HOKT.out] at hc
              obtain ⟨u2, rfl, dd2, q1, q2, q3, q4⟩ := hc
              have B9 : Below wr.heap.size wr w9 := B8.trans (hb9.mono B8.size)
              refine hK _ _ (fun _ => ⟨⟨_, B9⟩, rfl⟩) ?_
              clear hK K
              try simp only [Rg.wpQ, Rg.pickn, List.getElem?_cons_succ, List.getElem?_cons_zero, Option.toList, List.map_cons, List.map_nil, List.cons_append, List.nil_append]
              refine ⟨⟨⟨_, B9⟩, rfl⟩, ?_⟩
              quiet_step (fail)
              refine wpQuiet_nil ?_
              try simp only [Rg.wpQ, Rg.pickn, List.getElem?_cons_succ, List.getElem?_cons_zero, Option.toList, List.map_cons, List.map_nil, List.cons_append, List.nil_append]
              refine ⟨⟨⟨_, B9⟩, rfl⟩, ?_⟩
              quiet_step (fail)
              refine wpQuiet_nil ?_
              try simp only [Rg.wpQ, Rg.pickn, List.getElem?_cons_succ, List.getElem?_cons_zero, Option.toList, List.map_cons, List.map_nil, List.cons_append, List.nil_append]
              refine ⟨⟨⟨_, B9⟩, rfl⟩, ?_⟩
              quiet_step (fail)
              refine wpQuiet_nil ?_
              try simp only [Rg.wpQ, Rg.pickn, List.getElem?_cons_succ, List.getElem?_cons_zero, Option.toList, List.map_cons, List.map_nil, List.cons_append, List.nil_append]
              refine Rg.wpN_step (fun K hK => ?_) ⟨⟨_, B9⟩, rfl⟩
              go_simp
              refine hK _ _ (fun _ => ⟨⟨_, B9⟩, rfl⟩) ?_
              clear hK K
              refine Rg.wpN_list (by decide) ?_
              simp only [List.map_cons, List.map_nil]
              have hdd : dd = dd2 := SE.uniq (lw_swo now age) HST.out q4 (HSE.out.symm.trans (HSET.out.trans q3))
              have s1 : Rd.SliceOf w9 (.slice au 0 cu) 10 Wt.cells dd := slice_own (by rw [HDL.out]; exact ownsRow_below (ownsRow_below HO.out HB3.out) B9)
              have s2 : Rd.SliceOf w9 u2 10 Wt.cells dd2 := slice_own (by rw [q2]; exact q1)
              have HSM := Lib.hid (wtSame_any (.slice au 0 cu) u2 dd dd2 w9 s1 s2 (by have := HDL.out; omega) true (by simpa using hdd))
              have HB9 := Lib.hid (HB.out.trans (B9.mono HB.out.size))
              clear hdd s1 s2 q1 q2 q3 q4 hb9 B9 B8 SL
              go_wp2_with fail
              refine HSM.out.mono ?_
              rintro e wz ⟨rfl, hbz⟩
              have HBZ := Lib.hid (HB9.out.trans (hbz.mono HB9.out.size))
              clear hbz HSM
              go_wp2_with fail
              go_ret
              exact ⟨rfl, HBZ.out⟩
end Go.Proofs.Ytlbneinfejnaaaa
