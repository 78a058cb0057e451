/-
  The law PoolAll.
-/
import Derived.Test.YtdmbjjladkdphaaPool9
import Derived.Test.YtdmbjjladkdphaaPoolLaw2
import Derived.Deep.Cut
set_option linter.unusedVariables false
set_option linter.unusedSimpArgs false
namespace Go.Proofs.Ytdmbjjladkdphaa
open Go.RowKit Go.Maps

theorem slOk0 {sp : Sp} {c : Int} (h : SpOk sp) (h1 : 0 ≤ c) (h2 : c ≤ 1000) : SlOk ⟨sp, 0, c⟩ := ⟨h, ⟨Int.le_refl _, by simp only; omega⟩, okInt_small (by simp only; omega) (by simp only; omega)⟩
theorem infoSlot : (Try.prog.info? 44).map (fun i => (i.zero, i.size, i.bytes)) = some (some (.agg #[.int .i64 0, .int .i64 0, .int .u64 0, .int .i64 0]), 4, 32) := by kernel_rfl

set_option maxRecDepth 100000 in
set_option maxHeartbeats 8000000 in
theorem poolAll_walk (W : World) (v : Value) (ns : List (List Dm)) (s : NodesOf W v ns) (_ : ∀ n ∈ ns, ∀ y ∈ n, y.wf) (turned : Bool) :
    Calls Try.prog 5 #[.agg #[v], .bool turned] W fun e w' => e = .returned (.bool true) ∧ Below W.heap.size W w' := by
  obtain ⟨a, cap, hv⟩ := s.form
  obtain ⟨cn, hcn⟩ : ∃ cn, ns.length = cn := ⟨_, rfl⟩
  obtain ⟨ok, hok⟩ : ∃ ok, nodesOk ns = ok := ⟨_, rfl⟩
  have HS := Lib.hid s; have HCN := Lib.hid hcn; have HOK := Lib.hid hok
  rw [hcn] at hv
  subst hv
  clear s hcn hok
  have K0 := Lib.hid ((Kept.start W).new #[.slice a cn cap] 24)
  go_enter Try.func5, Try.ntmps5
  go_wp2_with fail
  refine (awake_any _).mono ?_
  rintro e w1 ⟨rfl, hb1⟩
  have K1 := Lib.hid (K0.out.later hb1)
  have q := K1.out.cells 0 rfl; have ql := K1.out.lt 0 rfl
  clear hb1
  go_wp2_with fail
  refine (rright_any _ ns _ (HS.out.later K1.out.below) ok HOK.out).mono ?_
  rintro e w2 ⟨rfl, hb2⟩
  have K2 := Lib.hid (K1.out.later hb2)
  clear q ql hb2
  have q := K2.out.cells 0 rfl; have ql := K2.out.lt 0 rfl
  cases ok with
  | false =>
    go_wp2
    go_ret
    exact ⟨rfl, K2.out.below⟩
  | true =>
  have HA := Lib.hid (allG_facts HOK.out 0)
  have K3 := K2
  go_wp2_with fail
  refine (pnew_any _ ns _ (HS.out.later K3.out.below) K3.out (by have := HA.out.2; omega)).mono ?_
  rintro e w4 hp
  unfold PNew at hp
  obtain ⟨hno, _⟩ | ⟨_, p, rfl, P4⟩ := hp
  · rw [HOK.out] at hno; cases hno
  rw [HCN.out] at P4
  obtain ⟨A, hA⟩ : ∃ A, allG 0 ns = A := ⟨_, rfl⟩
  rw [hA] at HA P4
  have HAA := Lib.hid hA
  have HP4 := Lib.hid P4
  have HI0 := Lib.hid (PInv.refl HA.out.1)
  clear q ql P4 hA
  have q := HP4.out.kept.cells 0 rfl; have ql := HP4.out.kept.lt 0 rfl
  have HNA := Lib.hid (show (A.map (·.spot)).Nodup by rw [← HAA.out]; exact allG_nodup ns 0)
  obtain ⟨i0, hi0, hz0, hz1, hz2⟩ := info_parts infoSlot
  obtain ⟨n, hn⟩ : ∃ n, A.length = n := ⟨_, rfl⟩
  have HN := Lib.hid hn
  have hn64 : n ≤ 64 := by have := HA.out.2; omega
  have hbig : n ≤ 9223372036854775807 := by omega
  clear hn
  go_wp2_with fail
  refine (HP4.out.free (by have := HA.out.2; omega)).mono ?_
  rintro e w5 ⟨rfl, P5, hb5⟩
  obtain ⟨B7, hB7⟩ : ∃ B, w4.heap.size = B := ⟨_, rfl⟩
  rw [hB7] at P5 ⊢
  rw [HN.out]
  have HP5 := Lib.hid P5
  have HK7 := Lib.hid (P5.kept.blk (B7, (A.flatMap Fe.cells).toArray, 45) (by simp))
  clear P5 hb5 hB7 q ql
  obtain ⟨TS, hTS⟩ : ∃ TS : List Fe, (if turned then A.reverse else A) = TS := ⟨_, rfl⟩
  have HTS := Lib.hid hTS
  have HPM := Lib.hid (show TS.Perm A by rw [← hTS]; cases turned; exact List.Perm.refl _; exact List.reverse_perm A)
  have HTL := Lib.hid (show TS.length = n by rw [HPM.out.length_eq, HN.out])
  clear hTS
  go_wp2_with fail
  go_loopw [8, 9] (fun v' i wr => ∃ (k : Nat) (v : Value), v = v' ∧ k ≤ n ∧ i = .int .i64 k ∧ Hid (wr.ownsRow w5.heap.size 44 4 v k (((TS.map slotF).take k).flatMap Sl.cells)) ∧ Below w5.heap.size w5 wr) (fun _ i _ => n - (intOf i).toNat)
  case atStart => exact ⟨0, _, rfl, Nat.zero_le _, rfl, Lib.hid (World.ownsRow_nil _ _ _ _), Below.refl _ _⟩
  case round =>
    obtain ⟨k, v, rfl, hk, rfl, hown, hB⟩ := hrel
    obtain ⟨wo, hwo⟩ : ∃ wo, wo = wr := ⟨_, rfl⟩
    obtain ⟨av, capv, rfl⟩ := own_form hown.out
    by_cases hlt : k < n
    · have hkA : k < A.length := by rw [HN.out]; exact hlt
      have hkT : k < TS.length := by rw [HTL.out]; exact hlt
      obtain ⟨f, hf⟩ : ∃ f, A[k] = f := ⟨_, rfl⟩
      have hsz := hB.size
      have kb := (hB.block _ (lt_of_block HK7.out)).trans HK7.out
      have lb := lt_of_block kb
      have cells : ∀ (i : Nat) (hi : i < A.length) (j : Nat), j < 4 → wr.cell? ⟨B7, i * 4 + j, none⟩ = (Fe.cells A[i])[j]? := fun i hi j hj => by
        rw [cell_of_block kb, List.getElem?_toArray, flatMap_get (sz := 4) (cells := Fe.cells) (fun x => rfl) A i j hi hj]
      have f0 := cells k hkA 0 (by omega); have f1 := cells k hkA 1 (by omega); have f2 := cells k hkA 2 (by omega); have f3 := cells k hkA 3 (by omega)
      rw [hf] at f0 f1 f2 f3
      simp only [Fe.cells, List.getElem?_cons_zero, List.getElem?_cons_succ, Nat.add_zero] at f0 f1 f2 f3
      cases turned with
      | false =>
        have HTF := Lib.hid (show ((TS.map slotF).take (k + 1)).flatMap Sl.cells = ((TS.map slotF).take k).flatMap Sl.cells ++ [.int .i64 f.spot.node, .int .i64 f.spot.domain, .int .u64 f.mask, .int .i64 f.cpus] by
          rw [List.take_succ_eq_append_getElem (by simpa using hkT), List.flatMap_append]
          have e : TS[k] = f := by have h1 := HTS.out; simp only [Bool.false_eq_true, if_false] at h1; subst h1; exact hf
          simp [Sl.cells, slotF, e])
        clear cells kb hf hwo
        go_wp2_with (at_builtin; refine wpList_append_lies _ rfl _ _ _ rfl w5.heap.size 44 i0 _ 4 32 Try.underlying26 hi0 hz0 hz1 hz2 rfl (by omega) (.slice av k capv) k _ rfl ((hown.out.alloc _).alloc _) ⟨wr.heap.size + 1, 0, none⟩ 1 1 [.int .i64 f.spot.node, .int .i64 f.spot.domain, .int .u64 f.mask, .int .i64 f.cpus] rfl rfl (World.news_of_block (cs := #[.int .i64 f.spot.node, .int .i64 f.spot.domain, .int .u64 f.mask, .int .i64 f.cpus]) (t := 44) (fr := (0, 0)) (alloc2_new _ _ _)) (by simp [Value.oneCell']) (by omega) (by unfold maxLen; omega) (by omega) (by simp; omega) (wr.heap.size + 2) (by simp) ?_)
        intro gg cap' w2 hown2 hgrow hat hlt2
        have hv := hown.out.lt
        rw [← HTF.out] at hown2
        have HO := Lib.hid hown2
        clear hown2
        go_wp2
        refine ⟨⟨k + 1, _, rfl, by omega, by go_num, HO, ((hB.alloc hsz _).alloc (by simp; omega) _).grown hgrow (by simp; omega) (fun j e => (hv j e).1)⟩, by simp [intOf]; omega⟩
      | true =>
        have hj : n - 1 - k < A.length := by rw [HN.out]; omega
        obtain ⟨g, hg⟩ : ∃ g, A[n - 1 - k] = g := ⟨_, rfl⟩
        have g0 := cells _ hj 0 (by omega); have g1 := cells _ hj 1 (by omega); have g2 := cells _ hj 2 (by omega); have g3 := cells _ hj 3 (by omega)
        rw [hg] at g0 g1 g2 g3
        simp only [Fe.cells, List.getElem?_cons_zero, List.getElem?_cons_succ, Nat.add_zero] at g0 g1 g2 g3
        have HTF := Lib.hid (show ((TS.map slotF).take (k + 1)).flatMap Sl.cells = ((TS.map slotF).take k).flatMap Sl.cells ++ [.int .i64 g.spot.node, .int .i64 g.spot.domain, .int .u64 g.mask, .int .i64 g.cpus] by
          rw [List.take_succ_eq_append_getElem (by simpa using hkT), List.flatMap_append]
          have e : TS[k] = g := by
            have h1 := HTS.out
            simp only [if_true] at h1
            subst h1
            rw [List.getElem_reverse, ← hg]
            congr 1
            rw [HN.out]
          simp [Sl.cells, slotF, e])
        obtain ⟨j, hjj⟩ : ∃ j, n - 1 - k = j := ⟨_, rfl⟩
        rw [hjj] at g0 g1 g2 g3 hj
        have hjn : ((n : Int) - 1 - k) = j := by omega
        have hjn2 : j < n := by omega
        clear cells kb hf hg hwo hjj hj
        go_wp2_with (at_builtin; refine wpList_append_lies _ rfl _ _ _ rfl w5.heap.size 44 i0 _ 4 32 Try.underlying26 hi0 hz0 hz1 hz2 rfl (by omega) (.slice av k capv) k _ rfl ((hown.out.alloc _).alloc _) ⟨wr.heap.size + 1, 0, none⟩ 1 1 [.int .i64 g.spot.node, .int .i64 g.spot.domain, .int .u64 g.mask, .int .i64 g.cpus] rfl rfl (World.news_of_block (cs := #[.int .i64 g.spot.node, .int .i64 g.spot.domain, .int .u64 g.mask, .int .i64 g.cpus]) (t := 44) (fr := (0, 0)) (alloc2_new _ _ _)) (by simp [Value.oneCell']) (by omega) (by unfold maxLen; omega) (by omega) (by simp; omega) (wr.heap.size + 2) (by simp) ?_)
        intro gg cap' w2 hown2 hgrow hat hlt2
        have hv := hown.out.lt
        rw [← HTF.out] at hown2
        have HO := Lib.hid hown2
        clear hown2
        go_wp2
        refine ⟨⟨k + 1, _, rfl, by omega, by go_num, HO, ((hB.alloc hsz _).alloc (by simp; omega) _).grown hgrow (by simp; omega) (fun j e => (hv j e).1)⟩, by simp [intOf]; omega⟩
    · obtain rfl : k = n := by omega
      have hm5 : Made w5 wr (.slice av k capv) 4 Sl.cells (TS.map slotF) := by
        have h1 := hown.out
        rw [List.take_of_length_le (by rw [List.length_map, HTL.out]; exact Nat.le_refl _)] at h1
        exact made_own (fun x => rfl) (by omega) (by rw [List.length_map, HTL.out]; exact h1)
      obtain ⟨X, hX, P6, hkeep, hownX⟩ := HP5.out.made hm5 hB
      have HP6 := Lib.hid P6; have HX := Lib.hid hX; have HKEEP := Lib.hid hkeep; have HOX := Lib.hid hownX
      have HSOK := Lib.hid (show ∀ s ∈ TS.map slotF, SlOk s from fun s hs => by
        obtain ⟨f, hf, rfl⟩ := List.mem_map.1 hs
        have hfA := HPM.out.mem_iff.1 hf
        exact ⟨spA_ok HOK.out HAA.out f hfA, (HA.out.1 f hfA).u, okInt_small (by have := (HA.out.1 f hfA).2.2.1; show -1000000 ≤ f.cpus; omega) (by have := (HA.out.1 f hfA).2.2.2; show f.cpus ≤ 1000000; omega)⟩)
      have HGO := Lib.hid (take_every HA.out.1 HNA.out HPM.out)
      have HBACK := Lib.hid (take_back HA.out.1 (TS.map slotF) A (A.map emptyF) HSOK.out HI0.out HGO.out)
      have HIE := Lib.hid (PInv.eachT HA.out.1 (TS.map slotF) A (A.map emptyF) HSOK.out HI0.out HGO.out)
      have HFE := Lib.hid (HIE.out.ok HA.out.1)
      have HTK := Lib.hid (P6.take (SlRow.of hm5.1) (fun q hq _ => .inr (by obtain ⟨x, hx, e⟩ := hownX q hq; exact ⟨x, List.mem_append_left _ hx, e⟩)) HSOK.out (by have := HA.out.2; omega))
      rw [eachF_of HGO.out] at HTK
      clear hlt hk hm5 hX P6 hkeep hownX hwo hown
      go_wp2_with fail
      refine HTK.out.mono ?_
      rintro e w6 ⟨rfl, P7⟩
      have HP7 := Lib.hid P7
      clear P7
      go_wp2_with fail
      refine (HP7.out.out (by have := HA.out.2; omega) HA.out.1 HFE.out).mono ?_
      rintro e w7 ⟨rfl, hb7⟩
      have HP8 := Lib.hid (HP7.out.later hb7)
      have HSLX := Lib.hid (freeSl (b := B7) (n := k) (fr := A) HN.out.symm ((HP7.out.later hb7).kept.blk (B7, (A.flatMap Fe.cells).toArray, 45) (by simp)) (by have := HA.out.2; unfold maxLen; omega))
      clear hb7
      go_wp2_with fail
      refine (rcount_any _ A w7 HSLX.out (by have := HA.out.2; omega) HA.out.1).mono ?_
      rintro e w8 ⟨rfl, hb8⟩
      have HP9 := Lib.hid (HP8.out.later hb8)
      rw [(sums_empty A).1, (sums_empty A).2, Int.sub_zero, Int.sub_zero]
      obtain ⟨ga, hga⟩ : ∃ ga, gsum A = ga := ⟨_, rfl⟩
      obtain ⟨ca, hca⟩ : ∃ ca, csum A = ca := ⟨_, rfl⟩
      rw [hga, hca]
      clear hb8 hga hca
      go_wp2_with fail
      refine (HP9.out.free (by have := HA.out.2; omega)).mono ?_
      rintro e w9 ⟨rfl, P10, _⟩
      obtain ⟨B9, hB9⟩ : ∃ B, w8.heap.size = B := ⟨_, rfl⟩
      rw [hB9] at P10 ⊢
      rw [HN.out]
      have HP10 := Lib.hid P10
      clear P10 hB9
      go_wp2_with fail
      go_loopw [12] (fun i wz => ∃ j : Nat, j ≤ k ∧ i = .int .i64 j ∧ Hid (PK W wz p cn A (A.map emptyF) [] ((B9, ((A.map emptyF).flatMap Fe.cells).toArray, 45) :: (X ++ [(B7, (A.flatMap Fe.cells).toArray, 45), (W.heap.size, #[.slice a cn cap], 24)])))) (fun i _ => k - (intOf i).toNat)
      case atStart => exact ⟨0, Nat.zero_le _, rfl, HP10⟩
      case round =>
        obtain ⟨j, hj, rfl, HPJ⟩ := hrel
        by_cases hlt : j < k
        · have hjA : j < A.length := by rw [HN.out]; exact hlt
          obtain ⟨sp, hsp⟩ : ∃ sp, A[j].spot = sp := ⟨_, rfl⟩
          have hjk : (j : Int) ≤ 64 := by omega
          have kb := HPJ.out.kept.blk (B9, ((A.map emptyF).flatMap Fe.cells).toArray, 45) (List.mem_cons_self ..)
          have lb := lt_of_block kb
          have cells : ∀ i, i < 4 → wr.cell? ⟨B9, j * 4 + i, none⟩ = (Fe.cells (emptyF A[j]))[i]? := fun i hi => by
            have h1 := flatMap_get (sz := 4) (cells := Fe.cells) (fun x => rfl) (A.map emptyF) j i (by simpa using hjA) hi
            rw [List.getElem_map] at h1
            rw [cell_of_block kb, List.getElem?_toArray, h1]
          have f0 := cells 0 (by omega); have f1 := cells 1 (by omega); have f2 := cells 2 (by omega); have f3 := cells 3 (by omega)
          simp only [Fe.cells, emptyF, hsp, List.getElem?_cons_zero, List.getElem?_cons_succ, Nat.add_zero] at f0 f1 f2 f3
          have HSP := Lib.hid (show SpOk sp from hsp ▸ spA_ok HOK.out HAA.out _ (List.getElem_mem hjA))
          have HE0 := Lib.hid (show eachF (opT []) A (A.map emptyF) [⟨sp, 0, 0⟩] = (0, A.map emptyF) by have := empty_take HNA.out hjA 0 (Int.le_refl _); rw [hsp] at this; exact this)
          have HE1 := Lib.hid (show eachF (opT []) A (A.map emptyF) [⟨sp, 0, 1⟩] = (5, A.map emptyF) by have := empty_take HNA.out hjA 1 (by decide); rw [hsp] at this; exact this)
          clear cells kb hsp
          go_upto_region 24 with fail
          have PA := HPJ.out.new #[.int .i64 sp.node, .int .i64 sp.domain, .int .u64 0, .int .i64 0] 44
          obtain ⟨B10, hB10⟩ : ∃ B, wr.heap.size = B := ⟨_, rfl⟩
          rw [hB10] at PA ⊢
          have HB10 := Lib.hid (show B9 < B10 ∧ (∀ x ∈ X ++ [(B7, (A.flatMap Fe.cells).toArray, 45), (W.heap.size, #[.slice a cn cap], 24)], x.1 < B10) from ⟨by rw [← hB10]; exact lb, fun x hx => by rw [← hB10]; exact lt_of_block (HPJ.out.kept.blk x (List.mem_cons_of_mem _ hx))⟩)
          have HWB := Lib.hid (show W.heap.size ≤ B10 by rw [← hB10]; exact HPJ.out.below.size)
          generalize wr.alloc (.cells #[.int .i64 sp.node, .int .i64 sp.domain, .int .u64 0, .int .i64 0] 44) = w10 at PA ⊢
          have HPA := Lib.hid PA
          clear f0 f1 f2 f3 lb hB10 PA
          have q0 := HPA.out.kept.cells 0 rfl; have ql := HPA.out.kept.lt 0 rfl
          have kb := HPA.out.kept.blk (B9, ((A.map emptyF).flatMap Fe.cells).toArray, 45) (by simp)
          have lb := lt_of_block kb
          have cells : ∀ i, i < 4 → w10.cell? ⟨B9, j * 4 + i, none⟩ = (Fe.cells (emptyF A[j]))[i]? := fun i hi => by
            have h1 := flatMap_get (sz := 4) (cells := Fe.cells) (fun x => rfl) (A.map emptyF) j i (by simpa using hjA) hi
            rw [List.getElem_map] at h1
            rw [cell_of_block kb, List.getElem?_toArray, h1]
          have f2 := cells 2 (by omega); have f3 := cells 3 (by omega); have f0 := cells 0 (by omega)
          simp only [Fe.cells, emptyF, List.getElem?_cons_zero, List.getElem?_cons_succ, Nat.add_zero] at f0 f2 f3
          have HT1 := Lib.hid ((HPA.out.new #[.int .i64 sp.node, .int .i64 sp.domain, .int .u64 0, .int .i64 0] 44).takeOne ⟨sp, 0, 0⟩ (slOk0 HSP.out (by decide) (by decide)) (List.mem_cons_self ..) (by have := HA.out.2; omega))
          rw [HE0.out] at HT1
          clear cells kb
          go_wp2_with fail
          refine HT1.out.mono ?_
          rintro e w11 ⟨rfl, P11⟩
          have HP11 := Lib.hid (P11.sub (L' := (B10, #[.int .i64 sp.node, .int .i64 sp.domain, .int .u64 0, .int .i64 0], 44) :: ((B9, ((A.map emptyF).flatMap Fe.cells).toArray, 45) :: (X ++ [(B7, (A.flatMap Fe.cells).toArray, 45), (W.heap.size, #[.slice a cn cap], 24)]))) (fun x hx => List.mem_cons_of_mem _ hx))
          clear P11 q0 ql f0 f2 f3 lb
          have kz := HP11.out.kept.blk _ (List.mem_cons_self ..)
          have z0 := cell_of_block kz 2
          have z1 := frozen_of_block kz 3
          have z2 := cell_of_block kz 3
          have z3 := cell_of_block kz 0
          have zl := lt_of_block kz
          clear kz
          go_upto_region 27 with fail
          have kz := HP11.out.kept.blk _ (List.mem_cons_self ..)
          have kz2 := setCell_block kz 3 (.int .i64 1)
          have hfz := (Fr.refl w11.heap.size (fun q => q = B10) w11).setCell (p := ⟨B10, 3, none⟩) (.inr rfl) (.int .i64 1)
          have P12 := HP11.out.over hfz kz2 HWB.out (fun x hx => by
            rcases List.mem_cons.1 hx with rfl | hx
            · have := HB10.out.1; simp only; omega
            · have := HB10.out.2 x hx; omega)
          generalize w11.setCell ⟨B10, 3, none⟩ (.int .i64 1) = w12 at P12 ⊢
          have P12' : PK W w12 p cn A (A.map emptyF) [] ((B10, #[.int .i64 sp.node, .int .i64 sp.domain, .int .u64 0, .int .i64 1], 44) :: ((B9, ((A.map emptyF).flatMap Fe.cells).toArray, 45) :: (X ++ [(B7, (A.flatMap Fe.cells).toArray, 45), (W.heap.size, #[.slice a cn cap], 24)]))) := P12
          have HP12 := Lib.hid P12'
          have HT2 := Lib.hid ((P12'.new #[.int .i64 sp.node, .int .i64 sp.domain, .int .u64 0, .int .i64 1] 44).takeOne ⟨sp, 0, 1⟩ (slOk0 HSP.out (by decide) (by decide)) (List.mem_cons_self ..) (by have := HA.out.2; omega))
          rw [HE1.out] at HT2
          clear P12 P12' kz kz2 hfz z0 z1 z2 z3 zl
          have q0 := HP12.out.kept.cells 0 rfl; have ql := HP12.out.kept.lt 0 rfl
          go_wp2_with fail
          refine HT2.out.mono ?_
          rintro e w13 ⟨rfl, P13⟩
          have HP13 := Lib.hid (P13.sub (L' := (B9, ((A.map emptyF).flatMap Fe.cells).toArray, 45) :: (X ++ [(B7, (A.flatMap Fe.cells).toArray, 45), (W.heap.size, #[.slice a cn cap], 24)])) (fun x hx => List.mem_cons_of_mem _ (List.mem_cons_of_mem _ hx)))
          clear P13 q0 ql
          go_wp2_with fail
          exact ⟨⟨j + 1, by omega, by go_num, HP13⟩, by simp [intOf]; omega⟩
        · obtain rfl : j = k := by omega
          have HGV := Lib.hid (HPJ.out.give (SlRow.of (HKEEP.out wr (fun x hx => HPJ.out.kept.blk x (List.mem_cons_of_mem _ (List.mem_append_left _ hx))))) (fun q hq _ => .inr (by obtain ⟨x, hx, e⟩ := HOX.out q hq; exact ⟨x, List.mem_cons_of_mem _ (List.mem_append_left _ hx), e⟩)) HSOK.out (by have := HA.out.2; omega))
          rw [eachF_of HBACK.out] at HGV
          have HSUB : Hid (∀ x ∈ [(B7, (A.flatMap Fe.cells).toArray, 45)], x ∈ (B9, ((A.map emptyF).flatMap Fe.cells).toArray, 45) :: (X ++ [(B7, (A.flatMap Fe.cells).toArray, 45), (W.heap.size, #[.slice a cn cap], 24)])) := Lib.hid (by simp)
          clear hlt hj
          go_wp2_with fail
          refine HGV.out.mono ?_
          rintro e z1 ⟨rfl, Q1⟩
          have HQ1 := Lib.hid (Q1.sub HSUB.out)
          clear Q1
          go_wp2_with fail
          refine (HQ1.out.free (by have := HA.out.2; omega)).mono ?_
          rintro e z2 ⟨rfl, Q2, _⟩
          rw [HN.out]
          have HSAME := Lib.hid (feSame_any _ _ A A z2 (freeSl HN.out.symm (Q2.kept.blk _ (List.mem_cons_self ..)) (by have := HA.out.2; unfold maxLen; omega)) (freeSl (b := B7) HN.out.symm (Q2.kept.blk (B7, (A.flatMap Fe.cells).toArray, 45) (by simp)) (by have := HA.out.2; unfold maxLen; omega)) (by have := HA.out.2; omega) true (by simp))
          have HQ2 := Lib.hid Q2
          clear Q2
          go_wp2_with fail
          refine HSAME.out.mono ?_
          rintro e z3 ⟨rfl, hb3⟩
          have HQ3 := Lib.hid (HQ2.out.later hb3)
          clear hb3
          go_wp2_with fail
          refine (HQ3.out.out (by have := HA.out.2; omega) HA.out.1 HA.out.1).mono ?_
          rintro e z4 ⟨rfl, hb4⟩
          rw [Int.sub_self, Int.sub_self]
          have HQ4 := Lib.hid (HQ3.out.later hb4)
          clear hb4
          go_wp2
          go_ret
          exact ⟨rfl, HQ4.out.below⟩
end Go.Proofs.Ytdmbjjladkdphaa
