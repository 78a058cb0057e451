/-
  The law PoolOne.
-/
import Derived.Test.YtdmbjjladkdphaaPool9
import Derived.Test.YtdmbjjladkdphaaPoolTwo
import Derived.Deep.Cut
set_option linter.unusedVariables false
set_option linter.unusedSimpArgs false
namespace Go.Proofs.Ytdmbjjladkdphaa
open Go.RowKit Go.Maps

set_option maxRecDepth 100000 in
set_option maxHeartbeats 8000000 in
theorem poolOne_walk (W : World) (v : Value) (ns : List (List Dm)) (s : NodesOf W v ns) (_ : ∀ n ∈ ns, ∀ y ∈ n, y.wf) (lv : Value) (xs : List Ac3) (sl : ActsOf W lv xs) (hwf : ∀ x ∈ xs, x.wf) (sv : Value) (ys : List Sl) (sl2 : Rd.SliceOf W sv 4 Sl.cells ys) (hwf2 : ∀ x ∈ ys, x.wf) :
    Calls Try.prog 3 #[.agg #[v], lv, sv] W fun e w' => e = .returned (.bool true) ∧ Below W.heap.size W w' := by
  obtain ⟨a, cap, hv⟩ := s.form
  obtain ⟨cn, hcn⟩ : ∃ cn, ns.length = cn := ⟨_, rfl⟩
  obtain ⟨ok, hok⟩ : ∃ ok, nodesOk ns = ok := ⟨_, rfl⟩
  have HS := Lib.hid s; have HCN := Lib.hid hcn; have HOK := Lib.hid hok
  rw [hcn] at hv
  subst hv
  clear s hcn hok
  obtain ⟨a1, cap1, hlv, hlm⟩ := sl.form
  obtain ⟨n, hn⟩ : ∃ n, xs.length = n := ⟨_, rfl⟩
  obtain ⟨rf, hrf⟩ : ∃ rf, fewA xs = rf := ⟨_, rfl⟩
  have HSL := Lib.hid sl; have HN := Lib.hid hn; have HWF := Lib.hid hwf; have HRF := Lib.hid hrf
  rw [hn] at hlv hlm
  subst hlv
  have hbig : n ≤ 9223372036854775807 := by unfold maxLen at hlm; omega
  clear sl hn hwf hrf hlm
  obtain ⟨a2, cap2, hsv⟩ := sl2.form
  obtain ⟨m, hm⟩ : ∃ m, ys.length = m := ⟨_, rfl⟩
  have HS2 := Lib.hid sl2; have HM := Lib.hid hm; have HOKS := Lib.hid (show ∀ s ∈ ys, SlOk s from fun s hs => Sl.ok (hwf2 s hs))
  have hmm : ys.length ≤ maxLen := by
    obtain ⟨_, _, _, h, _⟩ := SlRow.of sl2
    exact h
  rw [hm] at hsv hmm
  subst hsv
  have hbig2 : m ≤ 9223372036854775807 := by unfold maxLen at hmm; omega
  clear sl2 hm hwf2 hmm
  have K0 := Lib.hid ((Kept.start W).new #[.slice a cn cap] 24)
  go_enter Try.func3, Try.ntmps3
  go_wp2_with fail
  refine (awake_any _).mono ?_
  rintro e w1 ⟨rfl, hb1⟩
  have K1 := Lib.hid (K0.out.later hb1)
  have q := K1.out.cells 0 rfl; have ql := K1.out.lt 0 rfl
  clear hb1
  go_wp2_with fail
  refine (rright_any _ ns _ (HS.out.later K1.out.below) ok HOK.out).mono ?_
  rintro e w2 ⟨rfl, hb2⟩
  have K2 := Lib.hid (K1.out.later hb2)
  clear q ql hb2
  have q := K2.out.cells 0 rfl; have ql := K2.out.lt 0 rfl
  cases ok with
  | false =>
    go_wp2
    go_ret
    exact ⟨rfl, K2.out.below⟩
  | true =>
  have HA := Lib.hid (allG_facts HOK.out 0)
  go_wp2_with fail
  refine (fewA_any _ xs _ (HSL.out.later K2.out.below) rf HRF.out).mono ?_
  rintro e w3 ⟨rfl, hb3⟩
  have K3 := Lib.hid (K2.out.later hb3)
  clear q ql hb3
  have q := K3.out.cells 0 rfl; have ql := K3.out.lt 0 rfl
  cases rf with
  | false =>
    go_wp2
    go_ret
    exact ⟨rfl, K3.out.below⟩
  | true =>
  have hn60 : n ≤ 60 := by have := (fewA_parts HRF.out).1; rw [HN.out] at this; exact this
  by_cases hm40 : (40 : Int) < m
  · go_wp2
    go_ret
    exact ⟨rfl, K3.out.below⟩
  have hm41 : decide ((40 : Int) < m) = false := by simpa using hm40
  go_wp2_with fail
  refine (pnew_any _ ns _ (HS.out.later K3.out.below) K3.out (by have := HA.out.2; omega)).mono ?_
  rintro e w4 hp
  unfold PNew at hp
  obtain ⟨hno, _⟩ | ⟨_, p, rfl, P4⟩ := hp
  · rw [HOK.out] at hno; cases hno
  rw [HCN.out] at P4
  obtain ⟨A, hA⟩ : ∃ A, allG 0 ns = A := ⟨_, rfl⟩
  rw [hA] at HA P4
  have HAA := Lib.hid hA
  have HP4 := Lib.hid P4
  have HI0 := Lib.hid (PInv.refl HA.out.1)
  clear q ql P4 hA
  have q := HP4.out.kept.cells 0 rfl; have ql := HP4.out.kept.lt 0 rfl
  go_wp2_with fail
  refine (pnew_any _ ns _ (HS.out.later HP4.out.below) (L := []) (Kept.start w4) (by rw [HAA.out]; have := HA.out.2; omega)).mono ?_
  rintro e w5 hp
  unfold PNew at hp
  obtain ⟨hno, _⟩ | ⟨_, p2, rfl, P5⟩ := hp
  · rw [HOK.out] at hno; cases hno
  rw [HCN.out, HAA.out] at P5
  have HP5 := Lib.hid (P2.start HP4.out P5)
  clear P5 q ql
  go_wp2_with fail
  go_loopw [11] (fun i wr => ∃ (k : Nat) (fr : List Fe) (dr : List Int), k ≤ n ∧ i = .int .i64 k ∧ Hid (P2 W wr p p2 cn A fr fr dr dr [(W.heap.size, #[.slice a cn cap], 24)] ∧ PInv A fr)) (fun i _ => n - (intOf i).toNat)
  case atStart => exact ⟨0, A, [], Nat.zero_le _, rfl, Lib.hid ⟨HP5.out, HI0.out⟩⟩
  case round =>
    obtain ⟨k, fr, dr, hk, rfl, HI⟩ := hrel
    by_cases hlt : k < n
    · have hlq : k < xs.length := by rw [HN.out]; exact hlt
      obtain ⟨x, hx⟩ : ∃ x, xs[k] = x := ⟨_, rfl⟩
      have HXW := Lib.hid (HWF.out x (hx ▸ List.getElem_mem hlq))
      obtain ⟨b, off, cap3, u, hv, _, _, hb, hsl, hcell⟩ := HSL.out.at hlq hx
      simp only [Value.slice.injEq] at hv
      obtain ⟨rfl, -, rfl⟩ := hv
      have HCELL := Lib.hid hcell; have HSX := Lib.hid hsl; have HLB := Lib.hid hb
      clear hcell hsl hb hx
      have hbel := HI.out.1.below
      obtain ⟨c0, c1, c2⟩ := HCELL.out wr hbel
      have lb := Nat.lt_of_lt_of_le HLB.out hbel.size
      clear hbel
      go_wp2_with fail
      refine (HI.out.1.do x HXW.out u HSX.out (by have := HA.out.2; omega)).mono ?_
      rintro e w8 ⟨rfl, P8⟩
      have HI8 := Lib.hid (HI.out.2.do HA.out.1 cn (dr := dr) HXW.out)
      have HP8 := Lib.hid P8
      clear c0 c1 c2 lb P8
      have hbel := HP8.out.below
      obtain ⟨c0, c1, c2⟩ := HCELL.out w8 hbel
      have lb := Nat.lt_of_lt_of_le HLB.out hbel.size
      clear hbel
      go_wp2_with fail
      refine (HP8.out.swap.do x HXW.out u HSX.out (by have := HA.out.2; omega)).mono ?_
      rintro e w9 ⟨rfl, P9⟩
      have HP9 := Lib.hid P9.swap
      clear c0 c1 c2 lb P9
      go_wp2_with fail
      exact ⟨⟨k + 1, _, _, by omega, by go_num, Lib.hid ⟨HP9.out, HI8.out⟩⟩, by simp [intOf]; omega⟩
    · obtain rfl : k = n := by omega
      have HTAKE := Lib.hid (HI.out.1.take (SlRow.of (HS2.out.later HI.out.1.below)) (slots_own HS2.out) HOKS.out (by have := HA.out.2; omega))
      obtain ⟨⟨ea, fra⟩, h8⟩ : ∃ z, eachF (opT dr) A fr ys = z := ⟨_, rfl⟩
      have H8 := Lib.hid h8
      rw [h8] at HTAKE
      clear h8 hlt hk
      go_wp2_with fail
      refine HTAKE.out.mono ?_
      rintro e w8 ⟨rfl, P8⟩
      have HP8 := Lib.hid P8
      clear P8
      go_wp2_with fail
      go_loopw [13] (fun i wz => ∃ (k : Nat) (cur : List Fe), k ≤ m ∧ i = .int .i64 k ∧ Hid (P2 W wz p2 p cn A cur fra dr dr [(W.heap.size, #[.slice a cn cap], 24)] ∧ PInv A cur ∧ eachGo (opT dr) A fr ys = eachGo (opT dr) A cur (ys.drop k))) (fun i _ => m - (intOf i).toNat)
      case atStart => exact ⟨0, fr, Nat.zero_le _, rfl, Lib.hid ⟨HP8.out.swap, HI.out.2, by simp⟩⟩
      case round =>
        obtain ⟨k, cur, hk, rfl, HJ⟩ := hrel
        by_cases hlt : k < m
        · have hlq : k < ys.length := by rw [HM.out]; exact hlt
          obtain ⟨s, hsx⟩ : ∃ s, ys[k] = s := ⟨_, rfl⟩
          have HSOK := Lib.hid (HOKS.out s (hsx ▸ List.getElem_mem hlq))
          have HDROP := Lib.hid (show ys.drop k = s :: ys.drop (k + 1) by rw [List.drop_eq_getElem_cons hlq, hsx])
          obtain ⟨av, capv, hav, _, hc⟩ := SlRow.of HS2.out
          rw [HM.out] at hav
          simp only [Value.slice.injEq] at hav
          obtain ⟨rfl, -, rfl⟩ := hav
          obtain ⟨b, o, rfl, hb, hcs⟩ := hc k hlq
          rw [hsx] at hcs
          have HSC := Lib.hid (show ∀ wz : World, Below W.heap.size W wz → b < wz.heap.size ∧ wz.cell? ⟨b, o + k * 4, none⟩ = some (.int .i64 s.spot.node) ∧ wz.cell? ⟨b, o + k * 4 + 1, none⟩ = some (.int .i64 s.spot.domain) ∧ wz.cell? ⟨b, o + k * 4 + 2, none⟩ = some (.int .u64 s.mask) ∧ wz.cell? ⟨b, o + k * 4 + 3, none⟩ = some (.int .i64 s.cpus) from fun wz hbz => by
            have hz : ∀ j, j < 4 → wz.cell? ⟨b, o + k * 4 + j, none⟩ = (Sl.cells s)[j]? := fun j hj => by
              rw [Nat.add_assoc]
              exact (hbz.cell (p := ⟨b, o + (k * 4 + j), none⟩) hb).trans (hcs j hj)
            exact ⟨Nat.lt_of_lt_of_le hb hbz.size, hz 0 (by omega), hz 1 (by omega), hz 2 (by omega), hz 3 (by omega)⟩)
          clear hc hcs hsx hb
          obtain ⟨⟨g, nx0⟩, hg⟩ : ∃ z, oneF (opT dr) A cur s = z := ⟨_, rfl⟩
          have HG := Lib.hid hg
          clear hg
          go_wp2_with fail
          refine (HJ.out.1.free (by have := HA.out.2; omega)).mono ?_
          rintro e w10 ⟨rfl, P10, _⟩
          obtain ⟨B1, hB1⟩ : ∃ B, wr.heap.size = B := ⟨_, rfl⟩
          rw [hB1] at P10 ⊢
          have HP10 := Lib.hid P10
          have HLEN := Lib.hid P10.len
          clear P10 hB1
          obtain ⟨lb, s0, s1, s2, s3⟩ := HSC.out w10 HP10.out.below
          have HT := Lib.hid ((HP10.out.new #[.int .i64 s.spot.node, .int .i64 s.spot.domain, .int .u64 s.mask, .int .i64 s.cpus] 44).takeOne s HSOK.out (List.mem_cons_self ..) (by have := HA.out.2; omega))
          by_cases hg0 : g = 0
          case neg =>
            have hea : ea = g := by
              have h1 := H8.out
              unfold eachF at h1
              rw [HJ.out.2.2, HDROP.out, eachGo_stop HG.out hg0] at h1
              simp [hg0] at h1
              exact h1.1.symm
            subst hea
            rw [eachF_stop HG.out hg0] at HT
            have hg1 : (ea != 0) = true := by simpa using hg0
            clear hg0
            go_wp2_with fail
            refine HT.out.mono ?_
            rintro e w11 ⟨rfl, P11⟩
            have HB11 := Lib.hid P11.below
            clear P11 s0 s1 s2 s3 lb
            go_wp2
            go_ret
            exact ⟨rfl, HB11.out⟩
          subst hg0
          have HNX := Lib.hid (show eachF (opT dr) A cur [s] = (0, nx0) from eachF_of (by rw [eachGo_of HG.out]; rfl))
          have HINX := Lib.hid (HJ.out.2.1.one HA.out.1 HSOK.out HG.out)
          have HGO := Lib.hid (show eachGo (opT dr) A fr ys = eachGo (opT dr) A nx0 (ys.drop (k + 1)) by rw [HJ.out.2.2, HDROP.out, eachGo_of HG.out])
          rw [HNX.out] at HT
          go_wp2_with fail
          refine HT.out.mono ?_
          rintro e w11 ⟨rfl, P11⟩
          have HP11 := Lib.hid (P11.sub (L' := [(B1, (cur.flatMap Fe.cells).toArray, 45), (W.heap.size, #[.slice a cn cap], 24)]) (fun x hx => List.mem_cons_of_mem _ hx))
          clear P11 s0 s1 s2 s3 lb
          go_wp2_with fail
          refine (HP11.out.free (by have := HA.out.2; omega)).mono ?_
          rintro e w12 ⟨rfl, P12, _⟩
          obtain ⟨B2, hB2⟩ : ∃ B, w11.heap.size = B := ⟨_, rfl⟩
          rw [hB2] at P12 ⊢
          have HP12 := Lib.hid P12
          obtain ⟨la, hla⟩ : ∃ la, A.length = la := ⟨_, rfl⟩
          have HLA := Lib.hid hla
          have hla64 : la ≤ 64 := by have := HA.out.2; omega
          rw [hla]
          clear P12 hB2 hla
          go_wp2_with fail
          go_loopw [17] (fun i wy => ∃ j : Nat, j ≤ la ∧ i = .int .i64 j ∧ Below w12.heap.size w12 wy) (fun i _ => la - (intOf i).toNat)
          case atStart => exact ⟨0, Nat.zero_le _, rfl, Below.refl _ _⟩
          case round =>
            obtain ⟨j, hj, rfl, hBj⟩ := hrel
            by_cases hjl : j < la
            · have PJ := HP12.out.later hBj
              have hj1 : j < nx0.length := by rw [PJ.len, HLA.out]; exact hjl
              have hj2 : j < cur.length := by rw [HLEN.out, HLA.out]; exact hjl
              obtain ⟨x1, hx1⟩ : ∃ x, nx0[j] = x := ⟨_, rfl⟩
              obtain ⟨x2, hx2⟩ : ∃ x, cur[j] = x := ⟨_, rfl⟩
              have kb1 := PJ.kept.blk (B2, (nx0.flatMap Fe.cells).toArray, 45) (List.mem_cons_self ..)
              have kb2 := PJ.kept.blk (B1, (cur.flatMap Fe.cells).toArray, 45) (by simp)
              have l1 := lt_of_block kb1; have l2 := lt_of_block kb2
              have e1 : ∀ i, i < 4 → wr.cell? ⟨B2, j * 4 + i, none⟩ = (Fe.cells x1)[i]? := fun i hi => by
                rw [cell_of_block kb1, List.getElem?_toArray, flatMap_get (sz := 4) (cells := Fe.cells) (fun x => rfl) nx0 j i hj1 hi, hx1]
              have e2 : ∀ i, i < 4 → wr.cell? ⟨B1, j * 4 + i, none⟩ = (Fe.cells x2)[i]? := fun i hi => by
                rw [cell_of_block kb2, List.getElem?_toArray, flatMap_get (sz := 4) (cells := Fe.cells) (fun x => rfl) cur j i hj2 hi, hx2]
              have f0 := e1 0 (by omega); have f1 := e1 1 (by omega); have f2 := e1 2 (by omega); have f3 := e1 3 (by omega)
              have g0 := e2 0 (by omega); have g1 := e2 1 (by omega); have g2 := e2 2 (by omega); have g3 := e2 3 (by omega)
              simp only [Fe.cells, List.getElem?_cons_zero, List.getElem?_cons_succ, Nat.add_zero] at f0 f1 f2 f3 g0 g1 g2 g3
              obtain ⟨lb, s0, s1, s2, s3⟩ := HSC.out wr PJ.below
              have hor := one_spot HJ.out.2.1 HG.out (List.getElem?_eq_getElem hj2) (List.getElem?_eq_getElem hj1)
              rw [hx1, hx2] at hor
              have HBJ := Lib.hid hBj
              clear PJ kb1 kb2 e1 e2 hx1 hx2 hj1 hj2 hBj
              obtain ⟨⟨n1, d1⟩, m1, u1⟩ := x1
              by_cases hsp : (⟨n1, d1⟩ : Sp) = s.spot
              · have hs1 : n1 = s.spot.node := by rw [← hsp]
                have hs2 : d1 = s.spot.domain := by rw [← hsp]
                subst hs1 hs2
                clear hor hsp
                go_wp2_with fail
                go_quiet (fail)
                have hb1 : Below wr.heap.size wr (wr.drewN nq) := ⟨rfl, rfl, rfl, Nat.le_refl _, fun _ _ => rfl⟩
                have HB1 := Lib.hid (HBJ.out.trans (hb1.mono HBJ.out.size))
                clear f0 f1 f2 f3 g0 g1 g2 g3 s0 s1 s2 s3 lb l1 l2 hb1
                generalize wr.drewN nq = wq at HB1 ⊢
                go_wp2_with fail
                exact ⟨⟨j + 1, by omega, by go_num, HB1.out⟩, by simp [intOf]; omega⟩
              · have he := hor.resolve_left hsp
                subst he
                by_cases hn1 : n1 = s.spot.node
                · have hcmp : (d1 == s.spot.domain) = false := by
                    have : d1 ≠ s.spot.domain := fun e => hsp (by rw [hn1, e])
                    simpa using this
                  subst hn1
                  clear hor hsp
                  go_wp2_with fail
                  go_quiet (fail)
                  have hb1 : Below wr.heap.size wr (wr.drewN nq) := ⟨rfl, rfl, rfl, Nat.le_refl _, fun _ _ => rfl⟩
                  have HB1 := Lib.hid (HBJ.out.trans (hb1.mono HBJ.out.size))
                  clear f0 f1 f2 f3 g0 g1 g2 g3 s0 s1 s2 s3 lb l1 l2 hb1
                  generalize wr.drewN nq = wq at HB1 ⊢
                  go_wp2_with fail
                  exact ⟨⟨j + 1, by omega, by go_num, HB1.out⟩, by simp [intOf]; omega⟩
                · have hcmp : (n1 == s.spot.node) = false := by simpa using hn1
                  clear hor hsp hn1
                  go_wp2_with fail
                  go_quiet (fail)
                  have hb1 : Below wr.heap.size wr (wr.drewN nq) := ⟨rfl, rfl, rfl, Nat.le_refl _, fun _ _ => rfl⟩
                  have HB1 := Lib.hid (HBJ.out.trans (hb1.mono HBJ.out.size))
                  clear f0 f1 f2 f3 g0 g1 g2 g3 s0 s1 s2 s3 lb l1 l2 hb1
                  generalize wr.drewN nq = wq at HB1 ⊢
                  go_wp2_with fail
                  exact ⟨⟨j + 1, by omega, by go_num, HB1.out⟩, by simp [intOf]; omega⟩
            · obtain rfl : j = la := by omega
              have HPF := Lib.hid ((HP12.out.later hBj).sub (L' := [(W.heap.size, #[.slice a cn cap], 24)]) (by intro x hx; simp at hx ⊢; simp [hx]))
              clear hjl hj hBj
              go_wp2_with fail
              exact ⟨⟨k + 1, nx0, by omega, by go_num, Lib.hid ⟨HPF.out, HINX.out, HGO.out⟩⟩, by simp [intOf]; omega⟩
        · obtain rfl : k = m := by omega
          have h9 : ea = 0 ∧ fra = cur := by
            have h1 := H8.out
            have h2 := HJ.out.2.2
            rw [List.drop_eq_nil_of_le (by rw [HM.out]; exact Nat.le_refl _)] at h2
            rw [eachF_of (show eachGo (opT dr) A fr ys = (0, cur) from h2)] at h1
            exact ⟨(Prod.mk.inj h1).1.symm, (Prod.mk.inj h1).2.symm⟩
          obtain ⟨rfl, h9'⟩ := h9
          subst h9'
          have HQ := Lib.hid HJ.out.1.swap
          clear hlt hk
          go_wp2_with fail
          refine (HQ.out.free (by have := HA.out.2; omega)).mono ?_
          rintro e z1 ⟨rfl, Q1, _⟩
          obtain ⟨B1, hB1⟩ : ∃ B, wr.heap.size = B := ⟨_, rfl⟩
          rw [hB1] at Q1 ⊢
          have HQ1 := Lib.hid Q1
          clear Q1 hB1
          go_wp2_with fail
          refine (HQ1.out.swap.free (by have := HA.out.2; omega)).mono ?_
          rintro e z2 ⟨rfl, Q2, _⟩
          have HSAME := Lib.hid (feSame_any _ _ fra fra z2 (freeSl (b := B1) HQ.out.len.symm (Q2.kept.blk (B1, (fra.flatMap Fe.cells).toArray, 45) (by simp)) (by have := HQ.out.len; have := HA.out.2; unfold maxLen; omega)) (freeSl HQ.out.len.symm (Q2.kept.blk _ (List.mem_cons_self ..)) (by have := HQ.out.len; have := HA.out.2; unfold maxLen; omega)) (by have := HQ.out.len; have := HA.out.2; omega) true (by simp))
          have HQ2 := Lib.hid Q2
          clear Q2
          go_wp2_with fail
          refine HSAME.out.mono ?_
          rintro e z3 ⟨rfl, hb3⟩
          have HB3 := Lib.hid (HQ2.out.later hb3).below
          clear hb3
          go_wp2
          go_ret
          exact ⟨rfl, HB3.out⟩
end Go.Proofs.Ytdmbjjladkdphaa
