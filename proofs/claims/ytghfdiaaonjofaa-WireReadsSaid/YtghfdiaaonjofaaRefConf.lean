/-
  wire: the document's Config.
-/
import Derived.Test.YtghfdiaaonjofaaRefRead
import Derived.Test.YtghfdiaaonjofaaWireConf
set_option linter.unusedVariables false
set_option linter.unusedSimpArgs false
namespace Go.Proofs.Ytghfdiaaonjofaa
open Go.RowKit
theorem many_none {α : Type} {s : ByteArray} {one : Nat → Option (α × Nat)} {a k b : Nat} {xs : List α} (hk : manyK one k (a + 1) = some (xs, b)) (hlt : k < (byteF s a).toNat) (h1 : one b = none) : manyR s one a = none := by
  unfold manyR
  split
  · have h4 := manyK_snoc one k (a + 1) xs b hk
    rw [h1] at h4
    exact manyK_none_le h4 hlt
  · rfl
theorem many_some {α : Type} {s : ByteArray} {one : Nat → Option (α × Nat)} {a b : Nat} {xs : List α} (ha : a + 1 ≤ s.size) (hk : manyK one (byteF s a).toNat (a + 1) = some (xs, b)) : manyR s one a = some (xs, b) := by
  unfold manyR
  rw [if_pos ha, hk]
theorem many_short {α : Type} {s : ByteArray} {one : Nat → Option (α × Nat)} {a : Nat} (ha : s.size < a + 1) : manyR s one a = none := by
  unfold manyR
  rw [if_neg (by omega)]
theorem cfg_none1 {s : ByteArray} (h : manyR s (nodeR s) 0 = none) : cfgR s = none := by unfold cfgR; rw [h]
theorem cfg_none2 {s : ByteArray} {ns : List (List Dm)} {a : Nat} (h : manyR s (nodeR s) 0 = some (ns, a)) (h2 : manyR s (quR s) a = none) : cfgR s = none := by unfold cfgR; rw [h]; simp only; rw [h2]
theorem dom_split (s : ByteArray) (c : Nat) : numF s c 3 / 65536 = numF s c 1 ∧ numF s c 3 % 65536 = numF s (c + 1) 2 := by
  have h := numF_add s c 1 2
  have b1 := numF_bound s c 1; have b2 := numF_bound s (c + 1) 2
  simp only [Nat.reduceAdd, Int.reducePow] at h b1 b2
  omega
theorem qu_split (s : ByteArray) (c : Nat) : numF s c 7 / 4294967296 = numF s c 3 ∧ numF s c 7 / 256 % 16777216 = numF s (c + 3) 3 ∧ numF s c 7 % 256 = numF s (c + 6) 1 := by
  have h := numF_add s c 3 4
  have h2 := numF_add s (c + 3) 3 1
  have b1 := numF_bound s c 3; have b2 := numF_bound s (c + 3) 3; have b3 := numF_bound s (c + 3 + 3) 1
  simp only [Nat.reduceAdd, Int.reducePow, Nat.add_assoc] at h h2 b1 b2 b3 ⊢
  omega
theorem tail_split (s : ByteArray) (c : Nat) : numF s c 6 / 1099511627776 = numF s c 1 ∧ numF s c 6 / 4294967296 % 256 = numF s (c + 1) 1 ∧ numF s c 6 / 65536 % 65536 = numF s (c + 2) 2 ∧ numF s c 6 % 65536 = numF s (c + 4) 2 := by
  have h := numF_add s c 1 5
  have h2 := numF_add s (c + 1) 1 4
  have h3 := numF_add s (c + 1 + 1) 2 2
  have b1 := numF_bound s c 1; have b2 := numF_bound s (c + 1) 1; have b3 := numF_bound s (c + 1 + 1) 2; have b4 := numF_bound s (c + 1 + 1 + 2) 2
  simp only [Nat.reduceAdd, Int.reducePow, Nat.add_assoc] at h h2 h3 b1 b2 b3 b4 ⊢
  omega
set_option maxRecDepth 100000 in
set_option maxHeartbeats 8000000 in
theorem rconfig_any (s : ByteArray) (W : World) (hs : s.size ≤ 100000) : Calls Try.prog 18 #[.string s] W (ConfP s W) := by
  obtain ⟨res, hres⟩ : ∃ res, cfgR s = res := ⟨_, rfl⟩
  have HRES := Lib.hid hres
  unfold ConfP
  rw [hres]
  clear hres
  have hs0 : s = s.extract 0 s.size := by
    have hsz : s.size = s.data.size := by cases s; rfl
    apply ByteArray.ext
    rw [ByteArray.data_extract, hsz]
    exact (Array.extract_size ..).symm
  have hc1 : ∀ w, Calls Try.prog 37 #[.string s, .int .i64 1] w (CutP s 0 1 w) := fun w => by
    have := cutA s 0 1 w hs (Nat.zero_le _) (by decide)
    rw [← hs0] at this
    exact this
  have HC1 := Lib.hid hc1
  clear hs0 hc1
  go_enter Try.func18, Try.ntmps18
  go_wp2_with fail
  have hb1 : Below W.heap.size W ((W.alloc (.cells #[.slice none 0 0, .slice none 0 0, .int .i64 0, .int .i64 0, .int .i64 0, .int .i64 0] 43)).alloc (.cells #[.slice none 0 0, .slice none 0 0, .int .i64 0, .int .i64 0, .int .i64 0, .int .i64 0] 43)) := ((Below.refl W.heap.size W).alloc (Nat.le_refl _) _).alloc (by simp) _
  have kP : ((W.alloc (.cells #[.slice none 0 0, .slice none 0 0, .int .i64 0, .int .i64 0, .int .i64 0, .int .i64 0] 43)).alloc (.cells #[.slice none 0 0, .slice none 0 0, .int .i64 0, .int .i64 0, .int .i64 0, .int .i64 0] 43)).heap[W.heap.size]? = some (.cells #[.slice none 0 0, .slice none 0 0, .int .i64 0, .int .i64 0, .int .i64 0, .int .i64 0] 43 (0, 0)) := alloc_other (World.alloc_heap_new _ _)
  have kC : ((W.alloc (.cells #[.slice none 0 0, .slice none 0 0, .int .i64 0, .int .i64 0, .int .i64 0, .int .i64 0] 43)).alloc (.cells #[.slice none 0 0, .slice none 0 0, .int .i64 0, .int .i64 0, .int .i64 0, .int .i64 0] 43)).heap[W.heap.size + 1]? = some (.cells #[.slice none 0 0, .slice none 0 0, .int .i64 0, .int .i64 0, .int .i64 0, .int .i64 0] 43 (0, 0)) := alloc2_new _ _ _
  generalize (W.alloc (.cells #[.slice none 0 0, .slice none 0 0, .int .i64 0, .int .i64 0, .int .i64 0, .int .i64 0] 43)).alloc (.cells #[.slice none 0 0, .slice none 0 0, .int .i64 0, .int .i64 0, .int .i64 0, .int .i64 0] 43) = w1 at hb1 kP kC ⊢
  obtain ⟨Pb, hPb⟩ : ∃ Pb, W.heap.size = Pb := ⟨_, rfl⟩
  have HPB := Lib.hid hPb
  rw [hPb] at kP kC ⊢
  obtain ⟨C, hC⟩ : ∃ C, Pb + 1 = C := ⟨_, rfl⟩
  rw [hC] at kC ⊢
  have hPC : Pb < C := by omega
  have HB1 := Lib.hid hb1; have HP1 := Lib.hid kP; have HK1 := Lib.hid kC
  clear hPb hC hb1 kP kC
  refine (HC1.out _).mono ?_
  rintro e w2 ⟨n, a, rfl, hb2, ha, hn⟩
  have hP2 := (hb2.block _ (lt_of_block HP1.out)).trans HP1.out
  have hC2 := (hb2.block _ (lt_of_block HK1.out)).trans HK1.out
  have HB2 := Lib.hid (HB1.out.trans (hb2.mono HB1.out.size)); have HP2 := Lib.hid hP2; have HC2 := Lib.hid hC2; have HN := Lib.hid hn
  clear hb2 hP2 hC2 hn
  have hnb : (n = -1 ∧ a = s.size ∧ s.size < 1) ∨ (1 ≤ s.size ∧ a = 1 ∧ n = byteF s 0 ∧ 0 ≤ n ∧ n ≤ 255) := by
    rcases HN.out with ⟨h1, h2, h3⟩ | ⟨h1, h2, h3⟩
    · have := byteF_bound s 0
      rw [numF_one] at h2
      exact .inr ⟨by omega, by omega, h2, by omega, by omega⟩
    · exact .inl ⟨h2, h3, by omega⟩
  have HNB := Lib.hid hnb
  have hn255 : -1 ≤ n ∧ n ≤ 255 := by omega
  clear hnb HN
  go_wp2_with fail
  go_loopw [7, 8] (fun sv iv wr => ∃ (k b : Nat) (av : Option Addr) (cv : Nat) (vs : List Value) (dss : List (List Dm)), sv = .string (s.extract b s.size) ∧ iv = .int .i64 k ∧ k ≤ n.toNat ∧ b ≤ s.size ∧ Hid (wr.heap[Pb]? = some (.cells #[.slice none 0 0, .slice none 0 0, .int .i64 0, .int .i64 0, .int .i64 0, .int .i64 0] 43 (0, 0)) ∧
      wr.heap[C]? = some (.cells #[.slice av k cv, .slice none 0 0, .int .i64 0, .int .i64 0, .int .i64 0, .int .i64 0] 43 (0, 0)) ∧ Below W.heap.size W wr ∧ dss.length = k ∧ wr.ownsRow (C + 1) 79 1 (.slice av k cv) k vs ∧ NRow wr (C + 1) (.slice av k cv) vs dss ∧ (0 ≤ n → manyK (nodeR s) k 1 = some (dss, b)) ∧ (n = -1 → b = s.size))) (fun _ iv _ => n.toNat - (intOf iv).toNat)
  case atStart =>
    refine ⟨0, a, none, 0, [], [], rfl, rfl, Nat.zero_le _, ha, Lib.hid ⟨HP2.out, HC2.out, HB2.out, rfl, World.ownsRow_nil _ _ _ _, NRow.nil _ _ _, fun h => ?_, fun h => ?_⟩⟩
    · rcases HNB.out with ⟨h1, _⟩ | ⟨_, rfl, _⟩
      · omega
      · rfl
    · rcases HNB.out with ⟨_, h1, _⟩ | ⟨_, _, _, h1, _⟩
      · exact h1
      · omega
  case round =>
    obtain ⟨k, b, av, cv, vs, dss, rfl, rfl, hk, hb, hI⟩ := hrel
    by_cases hlt : (k : Int) < n
    · have hn0 : 1 ≤ s.size ∧ n = byteF s 0 := by rcases HNB.out with ⟨h1, _⟩ | ⟨h1, _, h2, _⟩ <;> omega
      have hkb : k < (byteF s 0).toNat := by omega
      have hmk := hI.out.2.2.2.2.2.2.1 (by omega)
      have HMK := Lib.hid hmk; have HKB := Lib.hid hkb; have HN0 := Lib.hid hn0
      clear hmk hkb hn0
      go_wp2_with fail
      refine (cutA s b 1 _ hs hb (by decide)).mono ?_
      rintro e w3 ⟨m, b1, rfl, hb3, hb1, hm⟩
      have hP3 := (hb3.block _ (lt_of_block hI.out.1)).trans hI.out.1
      have HP3 := Lib.hid hP3
      have HF3 := Lib.hid (hI.out.2.2.1.trans (hb3.mono hI.out.2.2.1.size))
      rcases hm with ⟨hm1, hm2, hm3⟩ | ⟨hm1, rfl, hm3⟩
      case inr =>
        have hr : res = none := by
          rw [← HRES.out]
          exact cfg_none1 (many_none HMK.out HKB.out (many_short hm1))
        subst hr
        have p0 := cell_of_block HP3.out 0; have p1 := cell_of_block HP3.out 1; have p2 := cell_of_block HP3.out 2; have p3 := cell_of_block HP3.out 3; have p4 := cell_of_block HP3.out 4; have p5 := cell_of_block HP3.out 5; have pz := frozen_of_block HP3.out; have lP := lt_of_block HP3.out
        clear hP3
        go_wp2_with fail
        have hst : (((((((w3.setCell ⟨Pb, 0, none⟩ (.slice none 0 0)).setCell ⟨Pb, 1, none⟩ (.slice none 0 0)).setCell ⟨Pb, 2, none⟩ (.int .i64 0)).setCell ⟨Pb, 3, none⟩ (.int .i64 0)).setCell ⟨Pb, 4, none⟩ (.int .i64 0)).setCell ⟨Pb, 5, none⟩ (.int .i64 0))).heap[Pb]? = some (.cells #[.slice none 0 0, .slice none 0 0, .int .i64 0, .int .i64 0, .int .i64 0, .int .i64 0] 43 (0, 0)) := setCells_block [.slice none 0 0, .slice none 0 0, .int .i64 0, .int .i64 0, .int .i64 0, .int .i64 0] 0 w3 [.slice none 0 0, .slice none 0 0, .int .i64 0, .int .i64 0, .int .i64 0, .int .i64 0] HP3.out
        have hfs : Fr w3.heap.size (fun q => q = Pb) w3 (((((((w3.setCell ⟨Pb, 0, none⟩ (.slice none 0 0)).setCell ⟨Pb, 1, none⟩ (.slice none 0 0)).setCell ⟨Pb, 2, none⟩ (.int .i64 0)).setCell ⟨Pb, 3, none⟩ (.int .i64 0)).setCell ⟨Pb, 4, none⟩ (.int .i64 0)).setCell ⟨Pb, 5, none⟩ (.int .i64 0))) := setCells_fr (b := Pb) (F := fun q => q = Pb) rfl [.slice none 0 0, .slice none 0 0, .int .i64 0, .int .i64 0, .int .i64 0, .int .i64 0] 0 w3 (Fr.refl _ _ _)
        refine bodyPost_ret (results_ctt rfl _ _ Pb _ _ (0, 0) _ Try.underlying43 rfl rfl hst (by kernel_rfl)) rfl ?_
        exact ⟨((Fr.of_below HF3.out (fun q => W.heap.size ≤ q)).trans (hfs.mono HF3.out.size fun q _ e => by have := HPB.out; omega)).below (Nat.le_refl _) fun q h => h, rfl⟩
      have hm255 : 0 ≤ m ∧ m ≤ 255 := by rw [hm2, numF_one]; have := byteF_bound s b; omega
      have HM := Lib.hid (show m = byteF s b by rw [hm2, numF_one])
      have HB3 := Lib.hid hb3
      subst hm3
      clear hm2 hP3 hb3
      go_wp2_with fail
      have hb4 := (Below.refl w3.heap.size w3).alloc (Nat.le_refl _) (.cells #[.slice none 0 0] 79)
      have kD := World.alloc_heap_new w3 (.cells #[.slice none 0 0] 79)
      generalize w3.alloc (.cells #[.slice none 0 0] 79) = w4 at hb4 kD ⊢
      obtain ⟨D, hD⟩ : ∃ D, w3.heap.size = D := ⟨_, rfl⟩
      have HDE := Lib.hid hD
      rw [hD] at kD ⊢
      have HB4 := Lib.hid hb4; have HKD := Lib.hid kD
      have lDC : C < D := by have := lt_of_block hI.out.2.1; have := HB3.out.size; omega
      have lDP : Pb < D := by omega
      clear hb4 kD hD
      go_loopw [10, 12] (fun lv jv wx => ∃ (j c : Nat) (dv : Option Addr) (dc : Nat) (xs : List Dm), lv = .string (s.extract c s.size) ∧ jv = .int .i64 j ∧ j ≤ m.toNat ∧ c ≤ s.size ∧ Hid (wx.heap[D]? = some (.cells #[.slice dv j dc] 79 (0, 0)) ∧ Below w3.heap.size w3 wx ∧ xs.length = j ∧
        wx.ownsRow (D + 1) 87 2 (.slice dv j dc) j (xs.flatMap Dm.cells) ∧ manyK (domR s) j (b + 1) = some (xs, c))) (fun _ jv _ => m.toNat - (intOf jv).toNat)
      case atStart => exact ⟨0, b + 1, none, 0, [], rfl, rfl, Nat.zero_le _, hb1, Lib.hid ⟨HKD.out, HB4.out, rfl, World.ownsRow_nil _ _ _ _, rfl⟩⟩
      case round =>
        obtain ⟨j, c, dv, dc, xs, rfl, rfl, hj, hc, hJ⟩ := hrel
        by_cases hjt : (j : Int) < m
        · have hjb : j < (byteF s b).toNat := by rw [← HM.out]; omega
          have HJB := Lib.hid hjb
          clear hjb
          go_wp2_with fail
          refine (cutA s c 3 _ hs hc (by decide)).mono ?_
          rintro e w5 ⟨v, c1, rfl, hb5, hc1, hv⟩
          have hb35 := hJ.out.2.1.trans (hb5.mono hJ.out.2.1.size)
          have hP5 := (hb35.block _ (lt_of_block HP3.out)).trans HP3.out
          have HP5 := Lib.hid hP5
          have HF5 := Lib.hid (HF3.out.trans (hb35.mono HF3.out.size))
          have HB35 := Lib.hid hb35
          rcases hv with ⟨hv1, hv2, hv3⟩ | ⟨hv1, rfl, hv3⟩
          case inr =>
            have hr : res = none := by
              rw [← HRES.out]
              exact cfg_none1 (many_none HMK.out HKB.out (many_none hJ.out.2.2.2.2 HJB.out (by unfold domR; rw [if_neg (by omega)])))
            subst hr
            have p0 := cell_of_block HP5.out 0; have p1 := cell_of_block HP5.out 1; have p2 := cell_of_block HP5.out 2; have p3 := cell_of_block HP5.out 3; have p4 := cell_of_block HP5.out 4; have p5 := cell_of_block HP5.out 5; have pz := frozen_of_block HP5.out; have lP := lt_of_block HP5.out
            clear hP5 hb35 hb5
            go_wp2_with fail
            have hst : (((((((w5.setCell ⟨Pb, 0, none⟩ (.slice none 0 0)).setCell ⟨Pb, 1, none⟩ (.slice none 0 0)).setCell ⟨Pb, 2, none⟩ (.int .i64 0)).setCell ⟨Pb, 3, none⟩ (.int .i64 0)).setCell ⟨Pb, 4, none⟩ (.int .i64 0)).setCell ⟨Pb, 5, none⟩ (.int .i64 0))).heap[Pb]? = some (.cells #[.slice none 0 0, .slice none 0 0, .int .i64 0, .int .i64 0, .int .i64 0, .int .i64 0] 43 (0, 0)) := setCells_block [.slice none 0 0, .slice none 0 0, .int .i64 0, .int .i64 0, .int .i64 0, .int .i64 0] 0 w5 [.slice none 0 0, .slice none 0 0, .int .i64 0, .int .i64 0, .int .i64 0, .int .i64 0] HP5.out
            have hfs : Fr w5.heap.size (fun q => q = Pb) w5 (((((((w5.setCell ⟨Pb, 0, none⟩ (.slice none 0 0)).setCell ⟨Pb, 1, none⟩ (.slice none 0 0)).setCell ⟨Pb, 2, none⟩ (.int .i64 0)).setCell ⟨Pb, 3, none⟩ (.int .i64 0)).setCell ⟨Pb, 4, none⟩ (.int .i64 0)).setCell ⟨Pb, 5, none⟩ (.int .i64 0))) := setCells_fr (b := Pb) (F := fun q => q = Pb) rfl [.slice none 0 0, .slice none 0 0, .int .i64 0, .int .i64 0, .int .i64 0, .int .i64 0] 0 w5 (Fr.refl _ _ _)
            refine bodyPost_ret (results_ctt rfl _ _ Pb _ _ (0, 0) _ Try.underlying43 rfl rfl hst (by kernel_rfl)) rfl ?_
            exact ⟨((Fr.of_below HF5.out (fun q => W.heap.size ≤ q)).trans (hfs.mono HF5.out.size fun q _ e => by have := HPB.out; omega)).below (Nat.le_refl _) fun q h => h, rfl⟩
          have hdom : domR s c = some (⟨numF s c 1, numF s (c + 1) 2⟩, c + 3) := by unfold domR; rw [if_pos hv1]
          have hsp := dom_split s c
          have hvb := numF_bound s c 3
          simp only [Int.reducePow] at hvb
          rw [← hv2] at hsp hvb
          clear hv2
          subst hv3
          obtain ⟨x1, hx1⟩ : ∃ x, numF s c 1 = x := ⟨_, rfl⟩
          obtain ⟨x2, hx2⟩ : ∃ x, numF s (c + 1) 2 = x := ⟨_, rfl⟩
          rw [hx1, hx2] at hdom
          rw [hx1, hx2] at hsp
          clear hx1 hx2
          obtain ⟨sp1, sp2⟩ := hsp
          have HSP1 := Lib.hid sp1; have HSP2 := Lib.hid sp2; have HDOM := Lib.hid hdom
          have hD5 := (hb5.block _ (lt_of_block hJ.out.1)).trans hJ.out.1
          have hown5 := ownsRow_below hJ.out.2.2.2.1 hb5
          have hlv := hown5.lt
          have d0 := cell_of_block hD5 0; have lD := lt_of_block hD5
          obtain ⟨i0, hi0, hz0, hz1, hz2⟩ := info_parts infoDm
          have HD5 := Lib.hid hD5; have HO5 := Lib.hid hown5; have HLV := Lib.hid hlv
          have hm255' : j ≤ 255 := by omega
          clear sp1 sp2 hdom hD5 hown5 hlv hb5 hb35 hP5
          go_wp2_with (at_builtin; refine wpList_append_lies _ rfl _ _ _ rfl (D + 1) 87 i0 _ 2 16 Try.underlying77 hi0 hz0 hz1 hz2 rfl (by omega) (.slice dv j dc) j _ rfl (HO5.out.alloc _) ⟨w5.heap.size, 0, none⟩ 1 1 [.int .i64 (v / 65536), .int .i64 (v % 65536)] rfl rfl (World.news_of_block (cs := #[.int .i64 (v / 65536), .int .i64 (v % 65536)]) (t := 87) (fr := (0, 0)) (World.alloc_heap_new w5 _)) (by simp [Value.oneCell']) (by omega) (by unfold maxLen; omega) (by omega) (by simp; omega) (w5.heap.size + 1) (by simp) ?_)
          intro gg cap' w6 hown6 hgrow hat hlt6
          have hf6 : Fr w5.heap.size (fun q => (Value.slice dv j dc).ownBlock = some q) w5 w6 := Fr.grown ((Fr.refl _ _ _).alloc (Nat.le_refl _) _) hgrow (by simp) (fun q e => .inr e)
          have hD6 := (hf6.block D (lt_of_block HD5.out) (fun e => by have := (HLV.out _ e).1; omega)).trans HD5.out
          have hb36 : Below w3.heap.size w3 w6 := HB35.out.trans (hf6.below HB35.out.size fun q e => by have := (HLV.out q e).1; have := HDE.out; omega)
          have hggD : gg ≠ D := fun e => by
            subst e
            rcases hat with h | h
            · have := (HLV.out _ h).1; omega
            · have := lt_of_block HD5.out; omega
          have d1 := cell_of_block hD6 0; have dz := frozen_of_block hD6 0; have lD6 := lt_of_block hD6
          have hD7 := setCell_block hD6 0 (.slice (some ⟨gg, 0, none⟩) (j + 1) cap')
          have hD7' : (w6.setCell ⟨D, 0, none⟩ (.slice (some ⟨gg, 0, none⟩) (j + 1) cap')).heap[D]? = some (.cells #[.slice (some ⟨gg, 0, none⟩) (j + 1) cap'] 79 (0, 0)) := hD7
          have hfD : Fr w6.heap.size (fun q => q = D) w6 (w6.setCell ⟨D, 0, none⟩ (.slice (some ⟨gg, 0, none⟩) (j + 1) cap')) := Fr.setCell (F := fun q => q = D) (p := ⟨D, 0, none⟩) (Fr.refl _ _ _) (.inr rfl) _
          have hb37 : Below w3.heap.size w3 (w6.setCell ⟨D, 0, none⟩ (.slice (some ⟨gg, 0, none⟩) (j + 1) cap')) := hb36.trans (hfD.below hb36.size fun q e => by have := HDE.out; omega)
          have hown7 := ownsRow_fr hown6 hfD (fun g hg => ⟨(hown6.lt g hg).2, fun e => by simp only [Value.ownBlock, Option.some.injEq] at hg; omega⟩)
          have hmk7 : manyK (domR s) (j + 1) (b + 1) = some (xs ++ [(⟨x1, x2⟩ : Dm)], c + 3) := by
            have h4 := manyK_snoc (domR s) j (b + 1) xs c hJ.out.2.2.2.2
            rw [HDOM.out] at h4
            exact h4
          have hfl : xs.flatMap Dm.cells ++ [.int .i64 (v / 65536), .int .i64 (v % 65536)] = (xs ++ [(⟨x1, x2⟩ : Dm)]).flatMap Dm.cells := by
            rw [List.flatMap_append, HSP1.out, HSP2.out]; rfl
          rw [hfl] at hown7
          have HFIN := Lib.hid (And.intro hD7' (And.intro hb37 (And.intro hown7 hmk7)))
          clear hown6 hgrow hat hlt6 hf6 hD6 hb36 hggD hD7 hD7' hfD hb37 hown7 hmk7 hfl d0 lD
          go_wp2_with fail
          exact ⟨⟨j + 1, c + 3, _, _, xs ++ [⟨x1, x2⟩], rfl, by go_num, by omega, hc1, Lib.hid ⟨HFIN.out.1, HFIN.out.2.1, by simp [hJ.out.2.2.1], HFIN.out.2.2.1, HFIN.out.2.2.2⟩⟩, by simp [intOf]; omega⟩
        · obtain rfl : m = (j : Int) := by omega
          have hnode : nodeR s b = some (xs, c) := many_some (by omega) (by rw [← HM.out]; exact hJ.out.2.2.2.2)
          have HNODE := Lib.hid hnode
          clear hnode
          have hbx := HB3.out.trans (hJ.out.2.1.mono HB3.out.size)
          have hP8 := (hbx.block _ (lt_of_block hI.out.1)).trans hI.out.1
          have hC8 := (hbx.block _ (lt_of_block hI.out.2.1)).trans hI.out.2.1
          have hown8 := ownsRow_below hI.out.2.2.2.2.1 hbx
          have hnr8 := hI.out.2.2.2.2.2.1.fr (Fr.of_below hbx (fun _ => False)) (fun g _ e => e.elim)
          have hlv : ∀ g, (Value.slice av k cv).ownBlock = some g → C + 1 ≤ g ∧ g < D := fun g hg => by
            have h1 := hI.out.2.2.2.2.1.lt g hg
            have := HB3.out.size; have := HDE.out
            exact ⟨h1.1, by omega⟩
          have hin8 := hJ.out.2.2.2.1
          have hxl := hJ.out.2.2.1
          have HP8 := Lib.hid hP8; have HC8 := Lib.hid hC8; have HO8 := Lib.hid hown8; have HNR8 := Lib.hid hnr8; have HLV := Lib.hid hlv; have HIN := Lib.hid hin8; have HXL := Lib.hid hxl
          have HBX := Lib.hid (hI.out.2.2.1.trans (hbx.mono hI.out.2.2.1.size)); have HD8 := Lib.hid hJ.out.1
          have HDL := Lib.hid hI.out.2.2.2.1
          have d0 := cell_of_block HD8.out 0; have lD := lt_of_block HD8.out
          have c0 := cell_of_block hC8 0; have lC := lt_of_block hC8
          obtain ⟨i0, hi0, hz0, hz1, hz2⟩ := info_parts infoNd
          have hk255 : k ≤ 255 := by omega
          clear hbx hP8 hC8 hown8 hnr8 hlv hin8 hxl
          go_wp2_with (at_builtin; refine wpList_append_lies _ rfl _ _ _ rfl (C + 1) 79 i0 _ 1 24 Try.underlying38 hi0 hz0 hz1 hz2 rfl (by omega) (.slice av k cv) k _ rfl (HO8.out.alloc _) ⟨wr.heap.size, 0, none⟩ 1 1 [.slice dv j dc] rfl rfl (World.news_of_block (cs := #[.slice dv j dc]) (t := 79) (fr := (0, 0)) (World.alloc_heap_new wr _)) (by simp [Value.oneCell']) (by omega) (by unfold maxLen; omega) (by omega) (by simp; omega) (wr.heap.size + 1) (by simp) ?_)
          intro gg cap' w6 hown6 hgrow hat hlt6
          have hf6 : Fr wr.heap.size (fun q => (Value.slice av k cv).ownBlock = some q) wr w6 := Fr.grown ((Fr.refl _ _ _).alloc (Nat.le_refl _) _) hgrow (by simp) (fun q e => .inr e)
          have hC6 := (hf6.block C (lt_of_block HC8.out) (fun e => by have := (HLV.out _ e).1; omega)).trans HC8.out
          have hP6 := (hf6.block Pb (lt_of_block HP8.out) (fun e => by have := (HLV.out _ e).1; omega)).trans HP8.out
          have hvg : ∀ g, (Value.slice (some ⟨gg, 0, none⟩) (k + 1) cap').ownBlock = some g → (Value.slice av k cv).ownBlock = some g ∨ wr.heap.size ≤ g := fun g hg => by
            simp only [Value.ownBlock, Option.some.injEq] at hg
            subst hg
            rcases hat with h | h
            · exact .inl h
            · exact .inr (by omega)
          have hnr6 : NRow w6 (C + 1) (.slice (some ⟨gg, 0, none⟩) (k + 1) cap') (vs ++ [.slice dv j dc]) (dss ++ [xs]) := by
            refine (HNR8.out.grow hf6 hvg).push ?_ (fun g hg e => ?_)
            · rw [HXL.out]
              exact own_base (ownsRow_fr HIN.out hf6 (fun g hg => ⟨(HIN.out.lt g hg).2, fun e => by have := (HLV.out g e).2; have := (HIN.out.lt g hg).1; omega⟩)) (by omega)
            · rcases hvg g e with e | e
              · have := (HLV.out g e).2; have := (HIN.out.lt g hg).1; omega
              · have := (HIN.out.lt g hg).2; omega
          have hb6 : Below W.heap.size W w6 := HBX.out.trans (hf6.below HBX.out.size fun q e => by have := (HLV.out q e).1; have := HPB.out; omega)
          have hggC : gg ≠ C := fun e => by
            subst e
            rcases hat with h | h
            · have := (HLV.out _ h).1; omega
            · have := lt_of_block HC8.out; omega
          have cz := frozen_of_block hC6 0; have lC6 := lt_of_block hC6; have c1 := cell_of_block hC6 0
          have hC7 : (w6.setCell ⟨C, 0, none⟩ (.slice (some ⟨gg, 0, none⟩) (k + 1) cap')).heap[C]? = some (.cells #[.slice (some ⟨gg, 0, none⟩) (k + 1) cap', .slice none 0 0, .int .i64 0, .int .i64 0, .int .i64 0, .int .i64 0] 43 (0, 0)) := setCell_block hC6 0 _
          have hfC : Fr w6.heap.size (fun q => q = C) w6 (w6.setCell ⟨C, 0, none⟩ (.slice (some ⟨gg, 0, none⟩) (k + 1) cap')) := Fr.setCell (F := fun q => q = C) (p := ⟨C, 0, none⟩) (Fr.refl _ _ _) (.inr rfl) _
          have hP7 := (hfC.block Pb (lt_of_block hP6) (by omega)).trans hP6
          have hb7 : Below W.heap.size W (w6.setCell ⟨C, 0, none⟩ (.slice (some ⟨gg, 0, none⟩) (k + 1) cap')) := hb6.trans (hfC.below hb6.size fun q e => by have := HPB.out; omega)
          have hown7 := ownsRow_fr hown6 hfC (fun g hg => ⟨(hown6.lt g hg).2, fun e => by have := (hown6.lt g hg).1; omega⟩)
          have hnr7 := hnr6.fr hfC (fun g hg e => by exfalso; have e' : g = C := e; omega)
          have hmk7 : manyK (nodeR s) (k + 1) 1 = some (dss ++ [xs], c) := by
            have h4 := manyK_snoc (nodeR s) k 1 dss b HMK.out
            rw [HNODE.out] at h4
            exact h4
          have HFIN := Lib.hid (And.intro hP7 (And.intro hC7 (And.intro hb7 (And.intro hown7 (And.intro hnr7 hmk7)))))
          clear hown6 hgrow hat hlt6 hf6 hC6 hP6 hvg hnr6 hb6 hggC hC7 hfC hP7 hb7 hown7 hnr7 hmk7 d0 lD c0 lC
          go_wp2_with fail
          exact ⟨⟨k + 1, c, _, _, _, dss ++ [xs], rfl, by go_num, by omega, hc, Lib.hid ⟨HFIN.out.1, HFIN.out.2.1, HFIN.out.2.2.1, by simp [HDL.out], HFIN.out.2.2.2.1, HFIN.out.2.2.2.2.1, fun _ => HFIN.out.2.2.2.2.2, fun h => by omega⟩⟩, by simp [intOf]; omega⟩
    · have hnn : (0 ≤ n ∧ manyR s (nodeR s) 0 = some (dss, b) ∧ k = n.toNat) ∨ (n = -1 ∧ cfgR s = none ∧ b = s.size ∧ k = 0) := by
        rcases HNB.out with ⟨h1, _, h2⟩ | ⟨h1, _, h2, h3, _⟩
        · exact .inr ⟨h1, cfg_none1 (many_short (by omega)), hI.out.2.2.2.2.2.2.2 h1, by omega⟩
        · have hkn : k = n.toNat := by omega
          refine .inl ⟨h3, many_some (by omega) ?_, hkn⟩
          rw [← h2, ← hkn]
          exact hI.out.2.2.2.2.2.2.1 h3
      have HNN := Lib.hid hnn
      clear hnn
      go_wp2_with fail
      refine (cutA s b 1 _ hs hb (by decide)).mono ?_
      rintro e w3 ⟨q, b1, rfl, hb3, hb1, hq⟩
      have hP3 := (hb3.block _ (lt_of_block hI.out.1)).trans hI.out.1
      have hC3 := (hb3.block _ (lt_of_block hI.out.2.1)).trans hI.out.2.1
      have HP3 := Lib.hid hP3; have HC3 := Lib.hid hC3
      have HF3 := Lib.hid (hI.out.2.2.1.trans (hb3.mono hI.out.2.2.1.size))
      have HNQ := Lib.hid (show NQ w3 (C + 1) (.slice av k cv) dss from ⟨C + 1, vs, Nat.le_refl _, by rw [hI.out.2.2.2.1]; exact ownsRow_below hI.out.2.2.2.2.1 hb3, hI.out.2.2.2.2.2.1.fr (Fr.of_below hb3 (fun _ => False)) (fun g _ e => e.elim)⟩)
      have hqq : (b + 1 ≤ s.size ∧ q = byteF s b ∧ b1 = b + 1) ∨ (s.size < b + 1 ∧ q = -1 ∧ b1 = s.size) := by rw [numF_one] at hq; exact hq
      have HQ := Lib.hid hqq
      have hq255 : -1 ≤ q ∧ q ≤ 255 := by have := byteF_bound s b; omega
      have lC3 := lt_of_block hC3; have lP3 := lt_of_block hP3
      clear hP3 hC3 hb3 hq hqq
      go_wp2_with fail
      go_loopw [7, 16] (fun lv jv wx => ∃ (j c : Nat) (dv : Option Addr) (dc : Nat) (xs : List Qu), lv = .string (s.extract c s.size) ∧ jv = .int .i64 j ∧ j ≤ q.toNat ∧ c ≤ s.size ∧ Hid (wx.heap[Pb]? = some (.cells #[.slice none 0 0, .slice none 0 0, .int .i64 0, .int .i64 0, .int .i64 0, .int .i64 0] 43 (0, 0)) ∧
        wx.heap[C]? = some (.cells #[.slice av k cv, .slice dv j dc, .int .i64 0, .int .i64 0, .int .i64 0, .int .i64 0] 43 (0, 0)) ∧ Fr w3.heap.size (fun g => g = C) w3 wx ∧ xs.length = j ∧
        wx.ownsRow w3.heap.size 92 3 (.slice dv j dc) j (xs.flatMap Qu.cells) ∧ (0 ≤ q → manyK (quR s) j (b + 1) = some (xs, c)) ∧ (q = -1 → c = s.size))) (fun _ jv _ => q.toNat - (intOf jv).toNat)
      case atStart =>
        refine ⟨0, b1, none, 0, [], rfl, rfl, Nat.zero_le _, hb1, Lib.hid ⟨HP3.out, HC3.out, Fr.refl _ _ _, rfl, World.ownsRow_nil _ _ _ _, fun h => ?_, fun h => ?_⟩⟩
        · rcases HQ.out with ⟨_, _, rfl⟩ | ⟨_, h2, _⟩
          · rfl
          · omega
        · rcases HQ.out with ⟨_, h2, _⟩ | ⟨_, _, h2⟩
          · have := byteF_bound s b; omega
          · exact h2
      case round =>
        obtain ⟨j, c, dv, dc, xs, rfl, rfl, hj, hc, hJ⟩ := hrel
        by_cases hjt : (j : Int) < q
        · have hjb : j < (byteF s b).toNat ∧ manyR s (nodeR s) 0 = some (dss, b) := by
            rcases HQ.out with ⟨h1, h2, _⟩ | ⟨_, h2, _⟩
            · refine ⟨by omega, ?_⟩
              rcases HNN.out with ⟨_, h3, _⟩ | ⟨_, _, h3, _⟩
              · exact h3
              · omega
            · omega
          have hmk := hJ.out.2.2.2.2.2.1 (by omega)
          have HJB := Lib.hid hjb; have HMK := Lib.hid hmk
          clear hjb hmk
          go_wp2_with fail
          refine (cutA s c 7 _ hs hc (by decide)).mono ?_
          rintro e w5 ⟨v, c1, rfl, hb5, hc1, hv⟩
          have hP5 := (hb5.block _ (lt_of_block hJ.out.1)).trans hJ.out.1
          have hf5 := hJ.out.2.2.1.trans ((Fr.of_below hb5 (fun g => g = C)).mono hJ.out.2.2.1.size fun _ _ e => e)
          have hF5 : Below W.heap.size W w5 := HF3.out.trans (hf5.below HF3.out.size fun g e => by have := HPB.out; omega)
          have HP5 := Lib.hid hP5; have HF5 := Lib.hid hF5; have HFR5 := Lib.hid hf5
          rcases hv with ⟨hv1, hv2, hv3⟩ | ⟨hv1, rfl, hv3⟩
          case inr =>
            have hr : res = none := by
              rw [← HRES.out]
              exact cfg_none2 HJB.out.2 (many_none HMK.out HJB.out.1 (by unfold quR; rw [if_neg (by omega)]))
            subst hr
            have p0 := cell_of_block HP5.out 0; have p1 := cell_of_block HP5.out 1; have p2 := cell_of_block HP5.out 2; have p3 := cell_of_block HP5.out 3; have p4 := cell_of_block HP5.out 4; have p5 := cell_of_block HP5.out 5; have pz := frozen_of_block HP5.out; have lP := lt_of_block HP5.out
            clear hP5 hf5 hF5 hb5
            go_wp2_with fail
            have hst : (((((((w5.setCell ⟨Pb, 0, none⟩ (.slice none 0 0)).setCell ⟨Pb, 1, none⟩ (.slice none 0 0)).setCell ⟨Pb, 2, none⟩ (.int .i64 0)).setCell ⟨Pb, 3, none⟩ (.int .i64 0)).setCell ⟨Pb, 4, none⟩ (.int .i64 0)).setCell ⟨Pb, 5, none⟩ (.int .i64 0))).heap[Pb]? = some (.cells #[.slice none 0 0, .slice none 0 0, .int .i64 0, .int .i64 0, .int .i64 0, .int .i64 0] 43 (0, 0)) := setCells_block [.slice none 0 0, .slice none 0 0, .int .i64 0, .int .i64 0, .int .i64 0, .int .i64 0] 0 w5 [.slice none 0 0, .slice none 0 0, .int .i64 0, .int .i64 0, .int .i64 0, .int .i64 0] HP5.out
            have hfs : Fr w5.heap.size (fun q => q = Pb) w5 (((((((w5.setCell ⟨Pb, 0, none⟩ (.slice none 0 0)).setCell ⟨Pb, 1, none⟩ (.slice none 0 0)).setCell ⟨Pb, 2, none⟩ (.int .i64 0)).setCell ⟨Pb, 3, none⟩ (.int .i64 0)).setCell ⟨Pb, 4, none⟩ (.int .i64 0)).setCell ⟨Pb, 5, none⟩ (.int .i64 0))) := setCells_fr (b := Pb) (F := fun q => q = Pb) rfl [.slice none 0 0, .slice none 0 0, .int .i64 0, .int .i64 0, .int .i64 0, .int .i64 0] 0 w5 (Fr.refl _ _ _)
            refine bodyPost_ret (results_ctt rfl _ _ Pb _ _ (0, 0) _ Try.underlying43 rfl rfl hst (by kernel_rfl)) rfl ?_
            exact ⟨((Fr.of_below HF5.out (fun q => W.heap.size ≤ q)).trans (hfs.mono HF5.out.size fun q _ e => by have := HPB.out; omega)).below (Nat.le_refl _) fun q h => h, rfl⟩
          have hqu : quR s c = some (⟨⟨numF s c 3, numF s (c + 3) 3⟩, numF s (c + 6) 1⟩, c + 7) := by unfold quR; rw [if_pos hv1]
          have hsp := qu_split s c
          have hvb := numF_bound s c 7
          simp only [Int.reducePow] at hvb
          rw [← hv2] at hsp hvb
          clear hv2
          subst hv3
          obtain ⟨x1, hx1⟩ : ∃ x, numF s c 3 = x := ⟨_, rfl⟩
          obtain ⟨x2, hx2⟩ : ∃ x, numF s (c + 3) 3 = x := ⟨_, rfl⟩
          obtain ⟨x3, hx3⟩ : ∃ x, numF s (c + 6) 1 = x := ⟨_, rfl⟩
          rw [hx1, hx2, hx3] at hqu
          rw [hx1, hx2, hx3] at hsp
          clear hx1 hx2 hx3
          obtain ⟨sp1, sp2, sp3⟩ := hsp
          have HSP1 := Lib.hid sp1; have HSP2 := Lib.hid sp2; have HSP3 := Lib.hid sp3; have HQU := Lib.hid hqu
          have hC5 := (hb5.block _ (lt_of_block hJ.out.2.1)).trans hJ.out.2.1
          have hown5 := ownsRow_below hJ.out.2.2.2.2.1 hb5
          have hlv := hown5.lt
          have d0 := cell_of_block hC5 1; have lD := lt_of_block hC5
          have hw35 : w3.heap.size ≤ w5.heap.size := hf5.size
          obtain ⟨i0, hi0, hz0, hz1, hz2⟩ := info_parts infoQu
          have HC5 := Lib.hid hC5; have HO5 := Lib.hid hown5; have HLV := Lib.hid hlv
          have hm255' : j ≤ 255 := by omega
          clear sp1 sp2 sp3 hqu hC5 hown5 hlv hb5 hP5 hf5 hF5
          go_wp2_with (at_builtin; refine wpList_append_lies _ rfl _ _ _ rfl w3.heap.size 92 i0 _ 3 24 Try.underlying41 hi0 hz0 hz1 hz2 rfl (by omega) (.slice dv j dc) j _ rfl (HO5.out.alloc _) ⟨w5.heap.size, 0, none⟩ 1 1 [.int .i64 (v / 4294967296), .int .i64 (v / 256 % 16777216), .int .i64 (v % 256)] rfl rfl (World.news_of_block (cs := #[.int .i64 (v / 4294967296), .int .i64 (v / 256 % 16777216), .int .i64 (v % 256)]) (t := 92) (fr := (0, 0)) (World.alloc_heap_new w5 _)) (by simp [Value.oneCell']) (by omega) (by unfold maxLen; omega) (by omega) (by simp; omega) (w5.heap.size + 1) (by simp) ?_)
          intro gg cap' w6 hown6 hgrow hat hlt6
          have hf6 : Fr w5.heap.size (fun q => (Value.slice dv j dc).ownBlock = some q) w5 w6 := Fr.grown ((Fr.refl _ _ _).alloc (Nat.le_refl _) _) hgrow (by simp) (fun q e => .inr e)
          have hC6 := (hf6.block C (lt_of_block HC5.out) (fun e => by have := (HLV.out _ e).1; omega)).trans HC5.out
          have hP6 := (hf6.block Pb (lt_of_block HP5.out) (fun e => by have := (HLV.out _ e).1; omega)).trans HP5.out
          have hf36 : Fr w3.heap.size (fun g => g = C) w3 w6 := HFR5.out.trans (hf6.mono HFR5.out.size fun g hg e => by have := (HLV.out g e).1; omega)
          have d1 := cell_of_block hC6 1; have dz := frozen_of_block hC6 1; have lC6 := lt_of_block hC6
          have hC7 : (w6.setCell ⟨C, 1, none⟩ (.slice (some ⟨gg, 0, none⟩) (j + 1) cap')).heap[C]? = some (.cells #[.slice av k cv, .slice (some ⟨gg, 0, none⟩) (j + 1) cap', .int .i64 0, .int .i64 0, .int .i64 0, .int .i64 0] 43 (0, 0)) := setCell_block hC6 1 _
          have hfC : Fr w6.heap.size (fun q => q = C) w6 (w6.setCell ⟨C, 1, none⟩ (.slice (some ⟨gg, 0, none⟩) (j + 1) cap')) := Fr.setCell (F := fun q => q = C) (p := ⟨C, 1, none⟩) (Fr.refl _ _ _) (.inr rfl) _
          have hP7 := (hfC.block Pb (lt_of_block hP6) (by omega)).trans hP6
          have hf37 := hf36.trans (hfC.mono hf36.size fun _ _ e => e)
          have hown7 := ownsRow_fr hown6 hfC (fun g hg => ⟨(hown6.lt g hg).2, fun e => by have := (hown6.lt g hg).1; omega⟩)
          have hmk7 : manyK (quR s) (j + 1) (b + 1) = some (xs ++ [(⟨⟨x1, x2⟩, x3⟩ : Qu)], c + 7) := by
            have h4 := manyK_snoc (quR s) j (b + 1) xs c HMK.out
            rw [HQU.out] at h4
            exact h4
          have hfl : xs.flatMap Qu.cells ++ [.int .i64 (v / 4294967296), .int .i64 (v / 256 % 16777216), .int .i64 (v % 256)] = (xs ++ [(⟨⟨x1, x2⟩, x3⟩ : Qu)]).flatMap Qu.cells := by
            rw [List.flatMap_append, HSP1.out, HSP2.out, HSP3.out]; rfl
          rw [hfl] at hown7
          have HFIN := Lib.hid (And.intro hP7 (And.intro hC7 (And.intro hf37 (And.intro hown7 hmk7))))
          clear hown6 hgrow hat hlt6 hf6 hC6 hP6 hf36 hC7 hfC hP7 hf37 hown7 hmk7 hfl d0 lD
          go_wp2_with fail
          exact ⟨⟨j + 1, c + 7, _, _, xs ++ [(⟨⟨x1, x2⟩, x3⟩ : Qu)], rfl, by go_num, by omega, hc1, Lib.hid ⟨HFIN.out.1, HFIN.out.2.1, HFIN.out.2.2.1, by simp [hJ.out.2.2.2.1], HFIN.out.2.2.2.1, fun _ => HFIN.out.2.2.2.2, fun h => by omega⟩⟩, by simp [intOf]; omega⟩
        · have hqq : (0 ≤ q ∧ 0 ≤ n ∧ manyR s (nodeR s) 0 = some (dss, b) ∧ manyR s (quR s) b = some (xs, c)) ∨ (q = -1 ∧ cfgR s = none ∧ c = s.size) := by
            rcases HQ.out with ⟨h1, h2, _⟩ | ⟨h1, h2, _⟩
            · have h0 := byteF_bound s b
              rcases HNN.out with ⟨h3, h4, _⟩ | ⟨_, _, h3, _⟩
              · refine .inl ⟨by omega, h3, h4, many_some h1 ?_⟩
                have hjn : (byteF s b).toNat = j := by omega
                rw [hjn]
                exact hJ.out.2.2.2.2.2.1 (by omega)
              · omega
            · refine .inr ⟨h2, ?_, hJ.out.2.2.2.2.2.2 h2⟩
              rcases HNN.out with ⟨h3, h4, _⟩ | ⟨_, h3, _⟩
              · exact cfg_none2 h4 (many_short h1)
              · exact h3
          have HQQ := Lib.hid hqq
          clear hqq
          go_wp2_with fail
          refine (cutA s c 6 _ hs hc (by decide)).mono ?_
          rintro e w5 ⟨v, c1, rfl, hb5, hc1, hv⟩
          have hP5 := (hb5.block _ (lt_of_block hJ.out.1)).trans hJ.out.1
          have hC5 := (hb5.block _ (lt_of_block hJ.out.2.1)).trans hJ.out.2.1
          have hf5 := hJ.out.2.2.1.trans ((Fr.of_below hb5 (fun g => g = C)).mono hJ.out.2.2.1.size fun _ _ e => e)
          have hF5 : Below W.heap.size W w5 := HF3.out.trans (hf5.below HF3.out.size fun g e => by have := HPB.out; omega)
          have hN5 := HNQ.out.fr hf5 (fun g e => by omega)
          have hQ5 : QQ w5 (C + 1) (.slice dv j dc) xs := ⟨w3.heap.size, by omega, by rw [hJ.out.2.2.2.1]; exact ownsRow_below hJ.out.2.2.2.2.1 hb5⟩
          have HP5 := Lib.hid hP5; have HF5 := Lib.hid hF5; have HC5 := Lib.hid hC5; have HN5 := Lib.hid hN5; have HQ5 := Lib.hid hQ5
          clear hP5 hC5 hf5 hF5 hN5 hQ5 hb5
          have hv6 : (0 ≤ n ∧ 0 ≤ q ∧ 0 ≤ v ∧ c + 6 ≤ s.size ∧ v = numF s c 6 ∧ c1 = c + 6 ∧ manyR s (nodeR s) 0 = some (dss, b) ∧ manyR s (quR s) b = some (xs, c)) ∨ ((n = -1 ∨ q = -1 ∨ v = -1) ∧ cfgR s = none) := by
            rcases HQQ.out with ⟨h1, h2, h3, h4⟩ | ⟨h1, h2, _⟩
            · rcases hv with ⟨h5, h6, h7⟩ | ⟨h5, h6, h7⟩
              · have := (numF_bound s c 6).1
                exact .inl ⟨h2, h1, by omega, h5, h6, h7, h3, h4⟩
              · refine .inr ⟨.inr (.inr h6), ?_⟩
                unfold cfgR
                rw [h3]; simp only
                rw [h4]; simp only
                rw [if_neg (by omega)]
            · exact .inr ⟨.inr (.inl h1), h2⟩
          clear hv
          rcases hv6 with ⟨g1, g2, g3, g4, g5, g6, g7, g8⟩ | ⟨g1, g2⟩
          · have G7 := Lib.hid g7; have G8 := Lib.hid g8
            have hr : res = some (⟨dss, xs, numF s c 1, numF s (c + 1) 1, numF s (c + 2) 2, numF s (c + 4) 2⟩, c + 6) := by
              rw [← HRES.out]; unfold cfgR
              rw [g7]; simp only
              rw [g8]; simp only
              rw [if_pos g4]
            have hsp := tail_split s c
            have hvb := numF_bound s c 6
            simp only [Int.reducePow] at hvb
            rw [← g5] at hsp hvb
            obtain ⟨n1, hn1⟩ : ∃ x, numF s c 1 = x := ⟨_, rfl⟩
            obtain ⟨n2, hn2⟩ : ∃ x, numF s (c + 1) 1 = x := ⟨_, rfl⟩
            obtain ⟨n3, hn3⟩ : ∃ x, numF s (c + 2) 2 = x := ⟨_, rfl⟩
            obtain ⟨n4, hn4⟩ : ∃ x, numF s (c + 4) 2 = x := ⟨_, rfl⟩
            rw [hn1, hn2, hn3, hn4] at hr hsp
            clear hn1 hn2 hn3 hn4 g5 g7 g8
            subst hr g6
            obtain ⟨sp1, sp2, sp3, sp4⟩ := hsp
            have HSP1 := Lib.hid sp1; have HSP2 := Lib.hid sp2; have HSP3 := Lib.hid sp3; have HSP4 := Lib.hid sp4
            have f1 : decide (n < 0) = false := by simp; omega
            have f2 : decide (q < 0) = false := by simp; omega
            have f3 : decide (v < 0) = false := by simp; omega
            have c2 := cell_of_block HC5.out 2; have c3 := cell_of_block HC5.out 3; have c4 := cell_of_block HC5.out 4; have c5 := cell_of_block HC5.out 5; have cz := frozen_of_block HC5.out; have lC := lt_of_block HC5.out
            clear sp1 sp2 sp3 sp4
            go_upto_region 36 with fail
            have hC9 : (((((w5.setCell ⟨C, 2, none⟩ (.int .i64 (v / 1099511627776))).setCell ⟨C, 3, none⟩ (.int .i64 (v / 4294967296 % 256))).setCell ⟨C, 4, none⟩ (.int .i64 (v / 65536 % 65536))).setCell ⟨C, 5, none⟩ (.int .i64 (v % 65536)))).heap[C]? = some (.cells #[.slice av k cv, .slice dv j dc, .int .i64 (v / 1099511627776), .int .i64 (v / 4294967296 % 256), .int .i64 (v / 65536 % 65536), .int .i64 (v % 65536)] 43 (0, 0)) := setCells_block [.int .i64 (v / 1099511627776), .int .i64 (v / 4294967296 % 256), .int .i64 (v / 65536 % 65536), .int .i64 (v % 65536)] 2 w5 [.slice av k cv, .slice dv j dc, .int .i64 0, .int .i64 0, .int .i64 0, .int .i64 0] HC5.out
            have hf9 : Fr w5.heap.size (fun q => q = C) w5 (((((w5.setCell ⟨C, 2, none⟩ (.int .i64 (v / 1099511627776))).setCell ⟨C, 3, none⟩ (.int .i64 (v / 4294967296 % 256))).setCell ⟨C, 4, none⟩ (.int .i64 (v / 65536 % 65536))).setCell ⟨C, 5, none⟩ (.int .i64 (v % 65536)))) := setCells_fr (b := C) (F := fun q => q = C) rfl [.int .i64 (v / 1099511627776), .int .i64 (v / 4294967296 % 256), .int .i64 (v / 65536 % 65536), .int .i64 (v % 65536)] 2 w5 (Fr.refl _ _ _)
            generalize ((((w5.setCell ⟨C, 2, none⟩ (.int .i64 (v / 1099511627776))).setCell ⟨C, 3, none⟩ (.int .i64 (v / 4294967296 % 256))).setCell ⟨C, 4, none⟩ (.int .i64 (v / 65536 % 65536))).setCell ⟨C, 5, none⟩ (.int .i64 (v % 65536))) = w9 at hC9 hf9 ⊢
            rw [HSP1.out, HSP2.out, HSP3.out, HSP4.out] at hC9
            have hP9 := (hf9.block Pb (lt_of_block HP5.out) (by omega)).trans HP5.out
            have hF9 : Below W.heap.size W w9 := HF5.out.trans (hf9.below HF5.out.size fun q e => by have := HPB.out; omega)
            have HC9 := Lib.hid hC9; have HP9 := Lib.hid hP9; have HF9 := Lib.hid hF9; have HN9 := Lib.hid (HN5.out.fr hf9 (fun g e => by omega)); have HQ9 := Lib.hid (HQ5.out.fr hf9 (fun g e => by omega))
            clear c2 c3 c4 c5 cz lC hC9 hf9 hP9 hF9
            have c0 := cell_of_block HC9.out 0; have c1 := cell_of_block HC9.out 1; have c2 := cell_of_block HC9.out 2; have c3 := cell_of_block HC9.out 3; have c4 := cell_of_block HC9.out 4; have c5 := cell_of_block HC9.out 5; have lC := lt_of_block HC9.out
            have p0 := cell_of_block HP9.out 0; have p1 := cell_of_block HP9.out 1; have p2 := cell_of_block HP9.out 2; have p3 := cell_of_block HP9.out 3; have p4 := cell_of_block HP9.out 4; have p5 := cell_of_block HP9.out 5; have pz := frozen_of_block HP9.out; have lP := lt_of_block HP9.out
            go_wp2_with fail
            have hst : (((((((w9.setCell ⟨Pb, 0, none⟩ (.slice av k cv)).setCell ⟨Pb, 1, none⟩ (.slice dv j dc)).setCell ⟨Pb, 2, none⟩ (.int .i64 n1)).setCell ⟨Pb, 3, none⟩ (.int .i64 n2)).setCell ⟨Pb, 4, none⟩ (.int .i64 n3)).setCell ⟨Pb, 5, none⟩ (.int .i64 n4))).heap[Pb]? = some (.cells #[.slice av k cv, .slice dv j dc, .int .i64 n1, .int .i64 n2, .int .i64 n3, .int .i64 n4] 43 (0, 0)) := setCells_block [.slice av k cv, .slice dv j dc, .int .i64 n1, .int .i64 n2, .int .i64 n3, .int .i64 n4] 0 w9 [.slice none 0 0, .slice none 0 0, .int .i64 0, .int .i64 0, .int .i64 0, .int .i64 0] HP9.out
            have hfs : Fr w9.heap.size (fun q => q = Pb) w9 (((((((w9.setCell ⟨Pb, 0, none⟩ (.slice av k cv)).setCell ⟨Pb, 1, none⟩ (.slice dv j dc)).setCell ⟨Pb, 2, none⟩ (.int .i64 n1)).setCell ⟨Pb, 3, none⟩ (.int .i64 n2)).setCell ⟨Pb, 4, none⟩ (.int .i64 n3)).setCell ⟨Pb, 5, none⟩ (.int .i64 n4))) := setCells_fr (b := Pb) (F := fun q => q = Pb) rfl [.slice av k cv, .slice dv j dc, .int .i64 n1, .int .i64 n2, .int .i64 n3, .int .i64 n4] 0 w9 (Fr.refl _ _ _)
            generalize ((((((w9.setCell ⟨Pb, 0, none⟩ (.slice av k cv)).setCell ⟨Pb, 1, none⟩ (.slice dv j dc)).setCell ⟨Pb, 2, none⟩ (.int .i64 n1)).setCell ⟨Pb, 3, none⟩ (.int .i64 n2)).setCell ⟨Pb, 4, none⟩ (.int .i64 n3)).setCell ⟨Pb, 5, none⟩ (.int .i64 n4)) = w10 at hst hfs ⊢
            refine bodyPost_ret (results_ctt rfl _ _ Pb _ _ (0, 0) _ Try.underlying43 rfl rfl hst (by kernel_rfl)) rfl ?_
            exact ⟨((Fr.of_below HF9.out (fun q => W.heap.size ≤ q)).trans (hfs.mono HF9.out.size fun q _ e => by have := HPB.out; omega)).below (Nat.le_refl _) fun q h => h, _, _, rfl, (HN9.out.fr hfs fun g e => by omega).nodes, (HQ9.out.fr hfs fun g e => by omega).queues⟩
          · have hr : res = none := by rw [← HRES.out]; exact g2
            subst hr
            clear g2
            have p0 := cell_of_block HP5.out 0; have p1 := cell_of_block HP5.out 1; have p2 := cell_of_block HP5.out 2; have p3 := cell_of_block HP5.out 3; have p4 := cell_of_block HP5.out 4; have p5 := cell_of_block HP5.out 5; have pz := frozen_of_block HP5.out; have lP := lt_of_block HP5.out
            rcases g1 with rfl | rfl | rfl
            · go_wp2_with fail
              have hst : (((((((w5.setCell ⟨Pb, 0, none⟩ (.slice none 0 0)).setCell ⟨Pb, 1, none⟩ (.slice none 0 0)).setCell ⟨Pb, 2, none⟩ (.int .i64 0)).setCell ⟨Pb, 3, none⟩ (.int .i64 0)).setCell ⟨Pb, 4, none⟩ (.int .i64 0)).setCell ⟨Pb, 5, none⟩ (.int .i64 0))).heap[Pb]? = some (.cells #[.slice none 0 0, .slice none 0 0, .int .i64 0, .int .i64 0, .int .i64 0, .int .i64 0] 43 (0, 0)) := setCells_block [.slice none 0 0, .slice none 0 0, .int .i64 0, .int .i64 0, .int .i64 0, .int .i64 0] 0 w5 [.slice none 0 0, .slice none 0 0, .int .i64 0, .int .i64 0, .int .i64 0, .int .i64 0] HP5.out
              have hfs : Fr w5.heap.size (fun q => q = Pb) w5 (((((((w5.setCell ⟨Pb, 0, none⟩ (.slice none 0 0)).setCell ⟨Pb, 1, none⟩ (.slice none 0 0)).setCell ⟨Pb, 2, none⟩ (.int .i64 0)).setCell ⟨Pb, 3, none⟩ (.int .i64 0)).setCell ⟨Pb, 4, none⟩ (.int .i64 0)).setCell ⟨Pb, 5, none⟩ (.int .i64 0))) := setCells_fr (b := Pb) (F := fun q => q = Pb) rfl [.slice none 0 0, .slice none 0 0, .int .i64 0, .int .i64 0, .int .i64 0, .int .i64 0] 0 w5 (Fr.refl _ _ _)
              refine bodyPost_ret (results_ctt rfl _ _ Pb _ _ (0, 0) _ Try.underlying43 rfl rfl hst (by kernel_rfl)) rfl ?_
              exact ⟨((Fr.of_below HF5.out (fun q => W.heap.size ≤ q)).trans (hfs.mono HF5.out.size fun q _ e => by have := HPB.out; omega)).below (Nat.le_refl _) fun q h => h, rfl⟩
            · by_cases hn0 : n < 0
              · have f1 : decide (n < 0) = true := by simp; omega
                go_wp2_with fail
                have hst : (((((((w5.setCell ⟨Pb, 0, none⟩ (.slice none 0 0)).setCell ⟨Pb, 1, none⟩ (.slice none 0 0)).setCell ⟨Pb, 2, none⟩ (.int .i64 0)).setCell ⟨Pb, 3, none⟩ (.int .i64 0)).setCell ⟨Pb, 4, none⟩ (.int .i64 0)).setCell ⟨Pb, 5, none⟩ (.int .i64 0))).heap[Pb]? = some (.cells #[.slice none 0 0, .slice none 0 0, .int .i64 0, .int .i64 0, .int .i64 0, .int .i64 0] 43 (0, 0)) := setCells_block [.slice none 0 0, .slice none 0 0, .int .i64 0, .int .i64 0, .int .i64 0, .int .i64 0] 0 w5 [.slice none 0 0, .slice none 0 0, .int .i64 0, .int .i64 0, .int .i64 0, .int .i64 0] HP5.out
                have hfs : Fr w5.heap.size (fun q => q = Pb) w5 (((((((w5.setCell ⟨Pb, 0, none⟩ (.slice none 0 0)).setCell ⟨Pb, 1, none⟩ (.slice none 0 0)).setCell ⟨Pb, 2, none⟩ (.int .i64 0)).setCell ⟨Pb, 3, none⟩ (.int .i64 0)).setCell ⟨Pb, 4, none⟩ (.int .i64 0)).setCell ⟨Pb, 5, none⟩ (.int .i64 0))) := setCells_fr (b := Pb) (F := fun q => q = Pb) rfl [.slice none 0 0, .slice none 0 0, .int .i64 0, .int .i64 0, .int .i64 0, .int .i64 0] 0 w5 (Fr.refl _ _ _)
                refine bodyPost_ret (results_ctt rfl _ _ Pb _ _ (0, 0) _ Try.underlying43 rfl rfl hst (by kernel_rfl)) rfl ?_
                exact ⟨((Fr.of_below HF5.out (fun q => W.heap.size ≤ q)).trans (hfs.mono HF5.out.size fun q _ e => by have := HPB.out; omega)).below (Nat.le_refl _) fun q h => h, rfl⟩
              · have f1 : decide (n < 0) = false := by simp; omega
                go_wp2_with fail
                have hst : (((((((w5.setCell ⟨Pb, 0, none⟩ (.slice none 0 0)).setCell ⟨Pb, 1, none⟩ (.slice none 0 0)).setCell ⟨Pb, 2, none⟩ (.int .i64 0)).setCell ⟨Pb, 3, none⟩ (.int .i64 0)).setCell ⟨Pb, 4, none⟩ (.int .i64 0)).setCell ⟨Pb, 5, none⟩ (.int .i64 0))).heap[Pb]? = some (.cells #[.slice none 0 0, .slice none 0 0, .int .i64 0, .int .i64 0, .int .i64 0, .int .i64 0] 43 (0, 0)) := setCells_block [.slice none 0 0, .slice none 0 0, .int .i64 0, .int .i64 0, .int .i64 0, .int .i64 0] 0 w5 [.slice none 0 0, .slice none 0 0, .int .i64 0, .int .i64 0, .int .i64 0, .int .i64 0] HP5.out
                have hfs : Fr w5.heap.size (fun q => q = Pb) w5 (((((((w5.setCell ⟨Pb, 0, none⟩ (.slice none 0 0)).setCell ⟨Pb, 1, none⟩ (.slice none 0 0)).setCell ⟨Pb, 2, none⟩ (.int .i64 0)).setCell ⟨Pb, 3, none⟩ (.int .i64 0)).setCell ⟨Pb, 4, none⟩ (.int .i64 0)).setCell ⟨Pb, 5, none⟩ (.int .i64 0))) := setCells_fr (b := Pb) (F := fun q => q = Pb) rfl [.slice none 0 0, .slice none 0 0, .int .i64 0, .int .i64 0, .int .i64 0, .int .i64 0] 0 w5 (Fr.refl _ _ _)
                refine bodyPost_ret (results_ctt rfl _ _ Pb _ _ (0, 0) _ Try.underlying43 rfl rfl hst (by kernel_rfl)) rfl ?_
                exact ⟨((Fr.of_below HF5.out (fun q => W.heap.size ≤ q)).trans (hfs.mono HF5.out.size fun q _ e => by have := HPB.out; omega)).below (Nat.le_refl _) fun q h => h, rfl⟩
            · by_cases hn0 : n < 0
              · have f1 : decide (n < 0) = true := by simp; omega
                go_wp2_with fail
                have hst : (((((((w5.setCell ⟨Pb, 0, none⟩ (.slice none 0 0)).setCell ⟨Pb, 1, none⟩ (.slice none 0 0)).setCell ⟨Pb, 2, none⟩ (.int .i64 0)).setCell ⟨Pb, 3, none⟩ (.int .i64 0)).setCell ⟨Pb, 4, none⟩ (.int .i64 0)).setCell ⟨Pb, 5, none⟩ (.int .i64 0))).heap[Pb]? = some (.cells #[.slice none 0 0, .slice none 0 0, .int .i64 0, .int .i64 0, .int .i64 0, .int .i64 0] 43 (0, 0)) := setCells_block [.slice none 0 0, .slice none 0 0, .int .i64 0, .int .i64 0, .int .i64 0, .int .i64 0] 0 w5 [.slice none 0 0, .slice none 0 0, .int .i64 0, .int .i64 0, .int .i64 0, .int .i64 0] HP5.out
                have hfs : Fr w5.heap.size (fun q => q = Pb) w5 (((((((w5.setCell ⟨Pb, 0, none⟩ (.slice none 0 0)).setCell ⟨Pb, 1, none⟩ (.slice none 0 0)).setCell ⟨Pb, 2, none⟩ (.int .i64 0)).setCell ⟨Pb, 3, none⟩ (.int .i64 0)).setCell ⟨Pb, 4, none⟩ (.int .i64 0)).setCell ⟨Pb, 5, none⟩ (.int .i64 0))) := setCells_fr (b := Pb) (F := fun q => q = Pb) rfl [.slice none 0 0, .slice none 0 0, .int .i64 0, .int .i64 0, .int .i64 0, .int .i64 0] 0 w5 (Fr.refl _ _ _)
                refine bodyPost_ret (results_ctt rfl _ _ Pb _ _ (0, 0) _ Try.underlying43 rfl rfl hst (by kernel_rfl)) rfl ?_
                exact ⟨((Fr.of_below HF5.out (fun q => W.heap.size ≤ q)).trans (hfs.mono HF5.out.size fun q _ e => by have := HPB.out; omega)).below (Nat.le_refl _) fun q h => h, rfl⟩
              · have f1 : decide (n < 0) = false := by simp; omega
                by_cases hq0 : q < 0
                · have f2 : decide (q < 0) = true := by simp; omega
                  go_wp2_with fail
                  have hst : (((((((w5.setCell ⟨Pb, 0, none⟩ (.slice none 0 0)).setCell ⟨Pb, 1, none⟩ (.slice none 0 0)).setCell ⟨Pb, 2, none⟩ (.int .i64 0)).setCell ⟨Pb, 3, none⟩ (.int .i64 0)).setCell ⟨Pb, 4, none⟩ (.int .i64 0)).setCell ⟨Pb, 5, none⟩ (.int .i64 0))).heap[Pb]? = some (.cells #[.slice none 0 0, .slice none 0 0, .int .i64 0, .int .i64 0, .int .i64 0, .int .i64 0] 43 (0, 0)) := setCells_block [.slice none 0 0, .slice none 0 0, .int .i64 0, .int .i64 0, .int .i64 0, .int .i64 0] 0 w5 [.slice none 0 0, .slice none 0 0, .int .i64 0, .int .i64 0, .int .i64 0, .int .i64 0] HP5.out
                  have hfs : Fr w5.heap.size (fun q => q = Pb) w5 (((((((w5.setCell ⟨Pb, 0, none⟩ (.slice none 0 0)).setCell ⟨Pb, 1, none⟩ (.slice none 0 0)).setCell ⟨Pb, 2, none⟩ (.int .i64 0)).setCell ⟨Pb, 3, none⟩ (.int .i64 0)).setCell ⟨Pb, 4, none⟩ (.int .i64 0)).setCell ⟨Pb, 5, none⟩ (.int .i64 0))) := setCells_fr (b := Pb) (F := fun q => q = Pb) rfl [.slice none 0 0, .slice none 0 0, .int .i64 0, .int .i64 0, .int .i64 0, .int .i64 0] 0 w5 (Fr.refl _ _ _)
                  refine bodyPost_ret (results_ctt rfl _ _ Pb _ _ (0, 0) _ Try.underlying43 rfl rfl hst (by kernel_rfl)) rfl ?_
                  exact ⟨((Fr.of_below HF5.out (fun q => W.heap.size ≤ q)).trans (hfs.mono HF5.out.size fun q _ e => by have := HPB.out; omega)).below (Nat.le_refl _) fun q h => h, rfl⟩
                · have f2 : decide (q < 0) = false := by simp; omega
                  go_wp2_with fail
                  have hst : (((((((w5.setCell ⟨Pb, 0, none⟩ (.slice none 0 0)).setCell ⟨Pb, 1, none⟩ (.slice none 0 0)).setCell ⟨Pb, 2, none⟩ (.int .i64 0)).setCell ⟨Pb, 3, none⟩ (.int .i64 0)).setCell ⟨Pb, 4, none⟩ (.int .i64 0)).setCell ⟨Pb, 5, none⟩ (.int .i64 0))).heap[Pb]? = some (.cells #[.slice none 0 0, .slice none 0 0, .int .i64 0, .int .i64 0, .int .i64 0, .int .i64 0] 43 (0, 0)) := setCells_block [.slice none 0 0, .slice none 0 0, .int .i64 0, .int .i64 0, .int .i64 0, .int .i64 0] 0 w5 [.slice none 0 0, .slice none 0 0, .int .i64 0, .int .i64 0, .int .i64 0, .int .i64 0] HP5.out
                  have hfs : Fr w5.heap.size (fun q => q = Pb) w5 (((((((w5.setCell ⟨Pb, 0, none⟩ (.slice none 0 0)).setCell ⟨Pb, 1, none⟩ (.slice none 0 0)).setCell ⟨Pb, 2, none⟩ (.int .i64 0)).setCell ⟨Pb, 3, none⟩ (.int .i64 0)).setCell ⟨Pb, 4, none⟩ (.int .i64 0)).setCell ⟨Pb, 5, none⟩ (.int .i64 0))) := setCells_fr (b := Pb) (F := fun q => q = Pb) rfl [.slice none 0 0, .slice none 0 0, .int .i64 0, .int .i64 0, .int .i64 0, .int .i64 0] 0 w5 (Fr.refl _ _ _)
                  refine bodyPost_ret (results_ctt rfl _ _ Pb _ _ (0, 0) _ Try.underlying43 rfl rfl hst (by kernel_rfl)) rfl ?_
                  exact ⟨((Fr.of_below HF5.out (fun q => W.heap.size ≤ q)).trans (hfs.mono HF5.out.size fun q _ e => by have := HPB.out; omega)).below (Nat.le_refl _) fun q h => h, rfl⟩
end Go.Proofs.Ytghfdiaaonjofaa
