/-
  wire: the document's Entries.
-/
import Derived.Test.YtghfdiaaonjofaaRefRead
import Derived.Test.YtghfdiaaonjofaaRefWire2
set_option linter.unusedVariables false
set_option linter.unusedSimpArgs false
namespace Go.Proofs.Ytghfdiaaonjofaa
open Go.RowKit
theorem infoEr : (Try.prog.info? 53).map (fun i => (i.zero, i.size, i.bytes)) = some (some (.agg #[.int .i64 0, .int .i64 0, .int .i64 0, .int .i64 0, .int .i64 0, .int .i64 0, .int .i64 0, .int .i64 0, .int .i64 0, .int .i64 0, .int .i64 0, .int .i64 0]), 12, 96) := by kernel_rfl
theorem num_sub (s : ByteArray) (x y i j : Nat) (w : World) (h1 : i ≤ j) (h2 : x + j ≤ y) (h3 : y ≤ s.size) (h4 : j - i ≤ 7) : Calls Try.prog 30 #[.string ((s.extract x y).extract i j)] w fun e w' => e = .returned (.int .i64 (numF s (x + i) (j - i))) ∧ w' = w := by
  have hsz : ((s.extract x y).extract i j).size = j - i := by rw [ByteArray.size_extract, ByteArray.size_extract]; omega
  have h := number_any ((s.extract x y).extract i j) w (by omega)
  rw [hsz, numF_extract _ i j 0 _ (by omega) (by rw [ByteArray.size_extract]; omega), numF_extract s x y (i + 0) _ (by omega) h3, Nat.add_zero] at h
  exact h
theorem tot_fld {kd : Int} {l : List (Nat × Nat)} (h : fldL kd = some l) : total l ≤ 11 ∧ (kd ≠ 0 → total l ≤ 2) ∧ (kd = 0 → total l = 11) ∧ (kd ≠ 0 → ∀ (s : ByteArray) (i : Nat), actF s i kd = ⟨kd, numF s i (total l), ⟨0, 0, 0, 0, ⟨0, 0, 0, 0⟩⟩⟩) := by
  unfold fldL at h
  split at h
  · rename_i h0; cases h; exact ⟨by decide, fun e => absurd h0 e, fun _ => rfl, fun e => absurd h0 e⟩
  · rename_i h0
    split at h
    · rename_i h1; cases h; exact ⟨by decide, fun _ => by decide, fun e => absurd e h0, fun _ s i => by unfold actF; rw [if_neg h0, if_pos h1]; rfl⟩
    · rename_i h1
      split at h
      · rename_i h2; cases h; exact ⟨by decide, fun _ => by decide, fun e => absurd e h0, fun _ s i => by unfold actF; rw [if_neg h0, if_neg h1, if_pos h2]; rfl⟩
      · rename_i h2
        split at h
        · rename_i h3; cases h; exact ⟨by decide, fun _ => by decide, fun e => absurd e h0, fun _ s i => by unfold actF; rw [if_neg h0, if_neg h1, if_neg h2]; rfl⟩
        · cases h
set_option maxRecDepth 100000 in
set_option maxHeartbeats 4000000 in
theorem rentries_any (s : ByteArray) (w : World) (hs : s.size ≤ 100000) :
    Calls Try.prog 16 #[.string s] w fun e w' => ∃ v, e = .returned v ∧ w'.ownsRow w.heap.size 53 12 v (entriesN s s.size 0).length ((entriesN s s.size 0).flatMap We.cells) ∧ Below w.heap.size w w' := by
  obtain ⟨Bs, hBs⟩ : ∃ B, w.heap.size = B := ⟨_, rfl⟩
  have HBS := Lib.hid hBs
  rw [hBs]
  clear hBs
  go_enter Try.func16, Try.ntmps16
  go_wp2_with fail
  go_loopw [3, 4] (fun ov iv wr => ∃ (av : Option Addr) (m cv : Nat) (es : List We) (a f : Nat), ov = .slice av m cv ∧ iv = .int .i64 a ∧ a ≤ s.size ∧ Hid (es.length = m ∧ es ++ entriesN s f a = entriesN s s.size 0 ∧ s.size - a ≤ f ∧ wr.ownsRow Bs 53 12 (.slice av m cv) m (es.flatMap We.cells) ∧ Below w.heap.size w wr ∧ m ≤ a)) (fun _ iv _ => s.size - (intOf iv).toNat)
  case atStart => exact ⟨_, _, _, [], 0, s.size, rfl, rfl, Nat.zero_le _, Lib.hid ⟨rfl, rfl, by omega, World.ownsRow_nil _ _ _ _, Below.refl _ _, Nat.le_refl _⟩⟩
  case round =>
    obtain ⟨av, m, cv, es, a, f, rfl, rfl, ha, hI⟩ := hrel
    by_cases hlt : a < s.size
    · have i1 : (0 : Int) ≤ (a : Int) := by omega
      have i2 : (a : Int) < (s.size : Int) := by omega
      obtain ⟨i0, hi0, hz0, hz1, hz2⟩ := info_parts infoEr
      have hma : m ≤ a := hI.out.2.2.2.2.2
      have HO := Lib.hid hI.out.2.2.2.1
      have hlv := hI.out.2.2.2.1.lt
      have HLV := Lib.hid hlv
      have hBw : Bs ≤ wr.heap.size := by have := hI.out.2.2.2.2.1.size; have := HBS.out; omega
      obtain ⟨f', hf'⟩ : ∃ f', f = f' + 1 := ⟨f - 1, by have := hI.out.2.2.1; omega⟩
      have hen : entriesN s f a = (entryF s a).1 :: entriesN s f' (entryF s a).2 := by
        rw [hf']
        show (if a < s.size then (entryF s a).1 :: entriesN s f' (entryF s a).2 else []) = _
        rw [if_pos hlt]
      have HEN := Lib.hid hen
      have HNX := Lib.hid (entry_next s hlt)
      have HFF := Lib.hid hf'
      clear hlv hen hf'
      go_wp2_with fail
      have hkd : wrap64 (s[a].toNat : Int) = byteF s a := by
        have e3 : (s.data[a]?).getD 0 = s[a] := by
          have : s.data[a]? = some s[a] := Array.getElem?_eq_getElem hlt
          rw [this]; rfl
        have hy : s[a].toNat < 256 := UInt8.toNat_lt _
        unfold byteF
        rw [e3]
        unfold wrap64
        omega
      rw [hkd]
      obtain ⟨kd, hkde⟩ : ∃ kd, byteF s a = kd := ⟨_, rfl⟩
      rw [hkde]
      have HKD := Lib.hid hkde
      clear hkd hkde
      refine (rsize_any kd _).mono ?_
      rintro e w3 ⟨rfl, hw3⟩
      replace hw3 := hw3.symm
      subst hw3
      cases hfl : fldL kd with
      | none =>
        have HFL := Lib.hid hfl
        have hsz : sizeF kd = -1 := by unfold sizeF; rw [hfl]
        rw [hsz]
        have hent : entryF s a = (⟨zeroA, 10, a⟩, a + 1) := by unfold entryF; rw [HKD.out, hfl]
        have HENT := Lib.hid hent
        clear hfl hsz hent
        go_wp2_with (at_builtin; refine wpList_append_lies _ rfl _ _ _ rfl Bs 53 i0 _ 12 96 Try.underlying50 hi0 hz0 hz1 hz2 rfl (by omega) (.slice av m cv) m _ rfl (HO.out.alloc _) ⟨wr.heap.size, 0, none⟩ 1 1 [.int .i64 0, .int .i64 0, .int .i64 0, .int .i64 0, .int .i64 0, .int .i64 0, .int .i64 0, .int .i64 0, .int .i64 0, .int .i64 0, .int .i64 10, .int .i64 a] rfl rfl (World.news_of_block (cs := #[.int .i64 0, .int .i64 0, .int .i64 0, .int .i64 0, .int .i64 0, .int .i64 0, .int .i64 0, .int .i64 0, .int .i64 0, .int .i64 0, .int .i64 10, .int .i64 a]) (t := 53) (fr := (0, 0)) (World.alloc_heap_new wr _)) (by simp [Value.oneCell']) (by omega) (by unfold maxLen; omega) (by omega) (by simp; omega) (wr.heap.size + 1) (by simp) ?_)
        intro gg cap' w9 hown9 hgrow hat hlt9
        have hf9 : Fr wr.heap.size (fun q => (Value.slice av m cv).ownBlock = some q) wr w9 := Fr.grown ((Fr.refl _ _ _).alloc (Nat.le_refl _) _) hgrow (by simp) (fun q e => .inr e)
        have hb9 : Below w.heap.size w w9 := hI.out.2.2.2.2.1.trans (hf9.below hI.out.2.2.2.2.1.size fun q e => by have := (HLV.out q e).1; have := HBS.out; omega)
        have HFIN := Lib.hid (And.intro hown9 hb9)
        clear hown9 hgrow hat hlt9 hf9 hb9
        go_wp2_with fail
        refine ⟨⟨_, m + 1, _, es ++ [⟨zeroA, 10, a⟩], a + 1, f', rfl, by go_num, by omega, Lib.hid ⟨by simp [hI.out.1], ?_, by have := hI.out.2.2.1; have := HFF.out; omega, ?_, HFIN.out.2, by omega⟩⟩, by simp [intOf]; omega⟩
        · have h1 := hI.out.2.1
          rw [HEN.out, HENT.out] at h1
          rw [List.append_assoc]; exact h1
        · have h1 := HFIN.out.1
          rw [List.flatMap_append]; exact h1
      | some l =>
        have HFL := Lib.hid hfl
        obtain ⟨n, hn⟩ : ∃ n, total l = n := ⟨_, rfl⟩
        have hsz : sizeF kd = (n : Int) := by unfold sizeF; rw [hfl, ← hn]
        rw [hsz]
        have ht := tot_fld hfl
        rw [hn] at ht
        have HT := Lib.hid ht
        have hn11 : n ≤ 11 := ht.1
        have HN := Lib.hid hn
        clear hfl hsz ht hn
        by_cases hshort : s.size < a + 1 + n
        · have hd : decide ((s.size : Int) - a - 1 < (n : Int)) = true := by simp; omega
          have hent : entryF s a = (⟨zeroA, 11, a⟩, s.size) := by unfold entryF; rw [HKD.out, HFL.out]; simp only; rw [HN.out, if_neg (by omega)]
          have HENT := Lib.hid hent
          clear hent
          go_wp2_with (at_builtin; refine wpList_append_lies _ rfl _ _ _ rfl Bs 53 i0 _ 12 96 Try.underlying50 hi0 hz0 hz1 hz2 rfl (by omega) (.slice av m cv) m _ rfl (HO.out.alloc _) ⟨wr.heap.size, 0, none⟩ 1 1 [.int .i64 0, .int .i64 0, .int .i64 0, .int .i64 0, .int .i64 0, .int .i64 0, .int .i64 0, .int .i64 0, .int .i64 0, .int .i64 0, .int .i64 11, .int .i64 a] rfl rfl (World.news_of_block (cs := #[.int .i64 0, .int .i64 0, .int .i64 0, .int .i64 0, .int .i64 0, .int .i64 0, .int .i64 0, .int .i64 0, .int .i64 0, .int .i64 0, .int .i64 11, .int .i64 a]) (t := 53) (fr := (0, 0)) (World.alloc_heap_new wr _)) (by simp [Value.oneCell']) (by omega) (by unfold maxLen; omega) (by omega) (by simp; omega) (wr.heap.size + 1) (by simp) ?_)
          intro gg cap' w9 hown9 hgrow hat hlt9
          have hf9 : Fr wr.heap.size (fun q => (Value.slice av m cv).ownBlock = some q) wr w9 := Fr.grown ((Fr.refl _ _ _).alloc (Nat.le_refl _) _) hgrow (by simp) (fun q e => .inr e)
          have hb9 : Below w.heap.size w w9 := hI.out.2.2.2.2.1.trans (hf9.below hI.out.2.2.2.2.1.size fun q e => by have := (HLV.out q e).1; have := HBS.out; omega)
          have HFIN := Lib.hid (And.intro hown9 hb9)
          clear hown9 hgrow hat hlt9 hf9 hb9
          go_wp2_with fail
          go_ret
          have hnil : entriesN s f' s.size = [] := by
            cases f' with
            | zero => rfl
            | succ f => unfold entriesN; rw [if_neg (by omega)]
          have h1 := hI.out.2.1
          rw [HEN.out, HENT.out, hnil] at h1
          refine ⟨_, rfl, ?_, by have := HFIN.out.2; rwa [HBS.out] at this⟩
          rw [← h1, List.length_append, List.flatMap_append, hI.out.1]
          exact HFIN.out.1
        · have hd : decide ((s.size : Int) - a - 1 < (n : Int)) = false := by simp; omega
          have hent : entryF s a = (⟨actF s (a + 1) kd, 0, a⟩, a + 1 + n) := by unfold entryF; rw [HKD.out, HFL.out]; simp only; rw [HN.out, if_pos (by omega)]
          have HENT := Lib.hid hent
          have i3 : (0 : Int) ≤ (a : Int) + 1 := by omega
          have i4 : (a : Int) + 1 + n ≤ (s.size : Int) := by omega
          clear hent
          have hsl : ∀ w' : World, (Instr.slice 9 (.string s) (some (.int .i64 ((a : Int) + 1))) (some (.int .i64 ((a : Int) + 1 + n))) none).run Try.prog w' = .ok (.string (s.extract (a + 1) (a + 1 + n))) w' := fun w' => by
            rw [run_slice_string (P := Try.prog) w' 9 s .i64 .i64 ((a : Int) + 1) ((a : Int) + 1 + n) (by kernel_rfl) (by omega) (by omega) (by omega)]
            congr 3 <;> omega
          by_cases hk0 : kd = 0
          · subst hk0
            obtain rfl : n = 11 := HT.out.2.2.1 rfl
            have hsl' : ∀ w' : World, (Instr.slice 9 (.string s) (some (.int .i64 ((a : Int) + 1))) (some (.int .i64 ((a : Int) + 1 + 11))) none).run Try.prog w' = .ok (.string (s.extract (a + 1) (a + 12))) w' := fun w' => hsl w'
            have hBsz : (s.extract (a + 1) (a + 12)).size = 11 := by rw [ByteArray.size_extract]; omega
            have hact : actF s (a + 1) 0 = ⟨0, 0, ⟨numF s (a + 1) 2, numF s (a + 1 + 2) 1, numF s (a + 1 + 3) 1, numF s (a + 1 + 4) 2, ⟨numF s (a + 1 + 6) 1, numF s (a + 1 + 7) 2, numF s (a + 1 + 9) 1, numF s (a + 1 + 10) 1⟩⟩⟩ := by unfold actF; rw [if_pos rfl]
            have hent := HENT.out
            rw [hact] at hent
            have u0 : ∀ w' : World, Calls Try.prog 30 #[.string ((s.extract (a + 1) (a + 12)).extract 0 2)] w' fun e w'' => e = .returned (.int .i64 (numF s (a + 1) 2)) ∧ w'' = w' := fun w' => num_sub s (a + 1) (a + 12) 0 2 w' (by omega) (by omega) (by omega) (by omega)
            have u1 : ∀ w' : World, Calls Try.prog 30 #[.string ((s.extract (a + 1) (a + 12)).extract 2 3)] w' fun e w'' => e = .returned (.int .i64 (numF s (a + 1 + 2) 1)) ∧ w'' = w' := fun w' => num_sub s (a + 1) (a + 12) 2 3 w' (by omega) (by omega) (by omega) (by omega)
            have u2 : ∀ w' : World, Calls Try.prog 30 #[.string ((s.extract (a + 1) (a + 12)).extract 3 4)] w' fun e w'' => e = .returned (.int .i64 (numF s (a + 1 + 3) 1)) ∧ w'' = w' := fun w' => num_sub s (a + 1) (a + 12) 3 4 w' (by omega) (by omega) (by omega) (by omega)
            have u3 : ∀ w' : World, Calls Try.prog 30 #[.string ((s.extract (a + 1) (a + 12)).extract 4 6)] w' fun e w'' => e = .returned (.int .i64 (numF s (a + 1 + 4) 2)) ∧ w'' = w' := fun w' => num_sub s (a + 1) (a + 12) 4 6 w' (by omega) (by omega) (by omega) (by omega)
            have u4 : ∀ w' : World, Calls Try.prog 30 #[.string ((s.extract (a + 1) (a + 12)).extract 6 7)] w' fun e w'' => e = .returned (.int .i64 (numF s (a + 1 + 6) 1)) ∧ w'' = w' := fun w' => num_sub s (a + 1) (a + 12) 6 7 w' (by omega) (by omega) (by omega) (by omega)
            have u5 : ∀ w' : World, Calls Try.prog 30 #[.string ((s.extract (a + 1) (a + 12)).extract 7 9)] w' fun e w'' => e = .returned (.int .i64 (numF s (a + 1 + 7) 2)) ∧ w'' = w' := fun w' => num_sub s (a + 1) (a + 12) 7 9 w' (by omega) (by omega) (by omega) (by omega)
            have u6 : ∀ w' : World, Calls Try.prog 30 #[.string ((s.extract (a + 1) (a + 12)).extract 9 10)] w' fun e w'' => e = .returned (.int .i64 (numF s (a + 1 + 9) 1)) ∧ w'' = w' := fun w' => num_sub s (a + 1) (a + 12) 9 10 w' (by omega) (by omega) (by omega) (by omega)
            have u7 : ∀ w' : World, Calls Try.prog 30 #[.string ((s.extract (a + 1) (a + 12)).extract 10 11)] w' fun e w'' => e = .returned (.int .i64 (numF s (a + 1 + 10) 1)) ∧ w'' = w' := fun w' => num_sub s (a + 1) (a + 12) 10 11 w' (by omega) (by omega) (by omega) (by omega)
            obtain ⟨z0, hz0⟩ : ∃ z, numF s (a + 1) 2 = z := ⟨_, rfl⟩
            rw [hz0] at hent u0
            obtain ⟨z1, hz1⟩ : ∃ z, numF s (a + 1 + 2) 1 = z := ⟨_, rfl⟩
            rw [hz1] at hent u1
            obtain ⟨z2, hz2⟩ : ∃ z, numF s (a + 1 + 3) 1 = z := ⟨_, rfl⟩
            rw [hz2] at hent u2
            obtain ⟨z3, hz3⟩ : ∃ z, numF s (a + 1 + 4) 2 = z := ⟨_, rfl⟩
            rw [hz3] at hent u3
            obtain ⟨z4, hz4⟩ : ∃ z, numF s (a + 1 + 6) 1 = z := ⟨_, rfl⟩
            rw [hz4] at hent u4
            obtain ⟨z5, hz5⟩ : ∃ z, numF s (a + 1 + 7) 2 = z := ⟨_, rfl⟩
            rw [hz5] at hent u5
            obtain ⟨z6, hz6⟩ : ∃ z, numF s (a + 1 + 9) 1 = z := ⟨_, rfl⟩
            rw [hz6] at hent u6
            obtain ⟨z7, hz7⟩ : ∃ z, numF s (a + 1 + 10) 1 = z := ⟨_, rfl⟩
            rw [hz7] at hent u7
            obtain ⟨Bb, hBb⟩ : ∃ B, s.extract (a + 1) (a + 12) = B := ⟨_, rfl⟩
            rw [hBb] at hsl' hBsz u0 u1 u2 u3 u4 u5 u6 u7
            have U0 := Lib.hid u0
            have U1 := Lib.hid u1
            have U2 := Lib.hid u2
            have U3 := Lib.hid u3
            have U4 := Lib.hid u4
            have U5 := Lib.hid u5
            have U6 := Lib.hid u6
            have U7 := Lib.hid u7
            have HE := Lib.hid hent
            clear hz0 hz1 hz2 hz3 hz4 hz5 hz6 hz7 hBb u0 u1 u2 u3 u4 u5 u6 u7 hent hact hsl
            obtain ⟨i0, hi0, hz0, hz1, hz2⟩ := info_parts infoEr
            go_upto_region 14 with fail
            have hb4 := (Below.refl wr.heap.size wr).alloc (Nat.le_refl _) (.cells #[.int .i64 0, .int .i64 0, .int .i64 0, .int .i64 0, .int .i64 0, .int .i64 0, .int .i64 0, .int .i64 0, .int .i64 0, .int .i64 0] 30)
            have kX := World.alloc_heap_new wr (.cells #[.int .i64 0, .int .i64 0, .int .i64 0, .int .i64 0, .int .i64 0, .int .i64 0, .int .i64 0, .int .i64 0, .int .i64 0, .int .i64 0] 30)
            generalize wr.alloc (.cells #[.int .i64 0, .int .i64 0, .int .i64 0, .int .i64 0, .int .i64 0, .int .i64 0, .int .i64 0, .int .i64 0, .int .i64 0, .int .i64 0] 30) = w4 at hb4 kX ⊢
            obtain ⟨X, hX⟩ : ∃ X, wr.heap.size = X := ⟨_, rfl⟩
            rw [hX] at kX ⊢
            have HXE := Lib.hid hX
            have HB4 := Lib.hid hb4; have HKX := Lib.hid kX
            have fx0 := (Below.refl w4.heap.size w4).drew
            clear hb4 kX hX
            refine Rg.wp_region_tree (by kernel_rfl) [0, 1, 3, 4, 6, 7, 9, 10, 12, 13, 15, 16, 18, 19, 21, 22] (.one 2 (.one 5 (.one 8 (.one 11 (.one 14 (.one 17 (.one 20 (.one 23 (.pick 24 (.pick 25 (.fin [26, 27]))))))))))) 26 (by kernel_rfl) (by kernel_rfl) (by kernel_rfl) (by kernel_rfl) (fun w' => ∃ y : Later w4, w' = y.wd) (fun c a a' w hd h => ⟨hd.symm.trans h.1, h.2⟩) ⟨⟨_, fx0⟩, rfl⟩ ?_
            simp only [Rg.picks, List.getElem?_cons_succ, List.getElem?_cons_zero, Option.toList, List.cons_append, List.nil_append]
            iterate 16 (go_big_quiet_step (fail))
            refine wpQuiet_nil ?_
            simp only [Rg.wpQ, Rg.pickn, List.getElem?_cons_succ, List.getElem?_cons_zero, Option.toList, List.map_cons, List.map_nil, List.cons_append, List.nil_append]
            refine Rg.wp1_step (fun K hK => ?_) ⟨⟨_, fx0⟩, rfl⟩
            go_simp
            refine (U0.out _).mono ?_
            rintro e w3 ⟨rfl, hw3⟩
            replace hw3 := hw3.symm
            subst hw3
            refine hK _ _ (fun _ => ⟨⟨_, fx0⟩, rfl⟩) ?_
            clear hK K
            refine Rg.wp1_step (fun K hK => ?_) ⟨⟨_, fx0⟩, rfl⟩
            go_simp
            refine (U1.out _).mono ?_
            rintro e w3 ⟨rfl, hw3⟩
            replace hw3 := hw3.symm
            subst hw3
            refine hK _ _ (fun _ => ⟨⟨_, fx0⟩, rfl⟩) ?_
            clear hK K
            refine Rg.wp1_step (fun K hK => ?_) ⟨⟨_, fx0⟩, rfl⟩
            go_simp
            refine (U2.out _).mono ?_
            rintro e w3 ⟨rfl, hw3⟩
            replace hw3 := hw3.symm
            subst hw3
            refine hK _ _ (fun _ => ⟨⟨_, fx0⟩, rfl⟩) ?_
            clear hK K
            refine Rg.wp1_step (fun K hK => ?_) ⟨⟨_, fx0⟩, rfl⟩
            go_simp
            refine (U3.out _).mono ?_
            rintro e w3 ⟨rfl, hw3⟩
            replace hw3 := hw3.symm
            subst hw3
            refine hK _ _ (fun _ => ⟨⟨_, fx0⟩, rfl⟩) ?_
            clear hK K
            refine Rg.wp1_step (fun K hK => ?_) ⟨⟨_, fx0⟩, rfl⟩
            go_simp
            refine (U4.out _).mono ?_
            rintro e w3 ⟨rfl, hw3⟩
            replace hw3 := hw3.symm
            subst hw3
            refine hK _ _ (fun _ => ⟨⟨_, fx0⟩, rfl⟩) ?_
            clear hK K
            refine Rg.wp1_step (fun K hK => ?_) ⟨⟨_, fx0⟩, rfl⟩
            go_simp
            refine (U5.out _).mono ?_
            rintro e w3 ⟨rfl, hw3⟩
            replace hw3 := hw3.symm
            subst hw3
            refine hK _ _ (fun _ => ⟨⟨_, fx0⟩, rfl⟩) ?_
            clear hK K
            refine Rg.wp1_step (fun K hK => ?_) ⟨⟨_, fx0⟩, rfl⟩
            go_simp
            refine (U6.out _).mono ?_
            rintro e w3 ⟨rfl, hw3⟩
            replace hw3 := hw3.symm
            subst hw3
            refine hK _ _ (fun _ => ⟨⟨_, fx0⟩, rfl⟩) ?_
            clear hK K
            refine Rg.wp1_step (fun K hK => ?_) ⟨⟨_, fx0⟩, rfl⟩
            go_simp
            refine (U7.out _).mono ?_
            rintro e w3 ⟨rfl, hw3⟩
            replace hw3 := hw3.symm
            subst hw3
            refine hK _ _ (fun _ => ⟨⟨_, fx0⟩, rfl⟩) ?_
            clear hK K
            refine ⟨⟨⟨_, fx0⟩, rfl⟩, ?_⟩
            go_big_quiet_step (fail)
            refine wpQuiet_nil ?_
            refine ⟨⟨⟨_, fx0⟩, rfl⟩, ?_⟩
            go_big_quiet_step (fail)
            refine wpQuiet_nil ?_
            refine Rg.wpN_list (by decide) ?_
            simp only [List.map_cons, List.map_nil]
            have hX4 : w4.drew.heap[X]? = some (.cells #[.int .i64 0, .int .i64 0, .int .i64 0, .int .i64 0, .int .i64 0, .int .i64 0, .int .i64 0, .int .i64 0, .int .i64 0, .int .i64 0] 30 (0, 0)) := HKX.out
            have hbd : Below wr.heap.size wr w4.drew := HB4.out.drew
            generalize w4.drew = wd at hX4 hbd ⊢
            have q2 := cell_of_block hX4 2; have q3 := cell_of_block hX4 3; have q4 := cell_of_block hX4 4; have q5 := cell_of_block hX4 5; have q6 := cell_of_block hX4 6; have q7 := cell_of_block hX4 7; have q8 := cell_of_block hX4 8; have q9 := cell_of_block hX4 9; have qz := frozen_of_block hX4; have lX := lt_of_block hX4
            have HX4 := Lib.hid hX4; have HBD := Lib.hid hbd
            clear hX4 hbd
            go_upto_region 16 with fail
            have hX5 : (((((((((wd.setCell ⟨X, 2, none⟩ (.int .i64 z0)).setCell ⟨X, 3, none⟩ (.int .i64 z1)).setCell ⟨X, 4, none⟩ (.int .i64 z2)).setCell ⟨X, 5, none⟩ (.int .i64 z3)).setCell ⟨X, 6, none⟩ (.int .i64 z4)).setCell ⟨X, 7, none⟩ (.int .i64 z5)).setCell ⟨X, 8, none⟩ (.int .i64 z6)).setCell ⟨X, 9, none⟩ (.int .i64 z7))).heap[X]? = some (.cells #[.int .i64 0, .int .i64 0, .int .i64 z0, .int .i64 z1, .int .i64 z2, .int .i64 z3, .int .i64 z4, .int .i64 z5, .int .i64 z6, .int .i64 z7] 30 (0, 0)) := setCells_block [.int .i64 z0, .int .i64 z1, .int .i64 z2, .int .i64 z3, .int .i64 z4, .int .i64 z5, .int .i64 z6, .int .i64 z7] 2 wd [.int .i64 0, .int .i64 0, .int .i64 0, .int .i64 0, .int .i64 0, .int .i64 0, .int .i64 0, .int .i64 0, .int .i64 0, .int .i64 0] HX4.out
            have hf5 : Fr wd.heap.size (fun q => q = X) wd (((((((((wd.setCell ⟨X, 2, none⟩ (.int .i64 z0)).setCell ⟨X, 3, none⟩ (.int .i64 z1)).setCell ⟨X, 4, none⟩ (.int .i64 z2)).setCell ⟨X, 5, none⟩ (.int .i64 z3)).setCell ⟨X, 6, none⟩ (.int .i64 z4)).setCell ⟨X, 7, none⟩ (.int .i64 z5)).setCell ⟨X, 8, none⟩ (.int .i64 z6)).setCell ⟨X, 9, none⟩ (.int .i64 z7))) := setCells_fr (b := X) (F := fun q => q = X) rfl [.int .i64 z0, .int .i64 z1, .int .i64 z2, .int .i64 z3, .int .i64 z4, .int .i64 z5, .int .i64 z6, .int .i64 z7] 2 wd (Fr.refl _ _ _)
            generalize ((((((((wd.setCell ⟨X, 2, none⟩ (.int .i64 z0)).setCell ⟨X, 3, none⟩ (.int .i64 z1)).setCell ⟨X, 4, none⟩ (.int .i64 z2)).setCell ⟨X, 5, none⟩ (.int .i64 z3)).setCell ⟨X, 6, none⟩ (.int .i64 z4)).setCell ⟨X, 7, none⟩ (.int .i64 z5)).setCell ⟨X, 8, none⟩ (.int .i64 z6)).setCell ⟨X, 9, none⟩ (.int .i64 z7)) = w5 at hX5 hf5 ⊢
            obtain ⟨act, hact⟩ : ∃ act : Ac, act = ⟨0, 0, ⟨z0, z1, z2, z3, ⟨z4, z5, z6, z7⟩⟩⟩ := ⟨_, rfl⟩
            have hent := HE.out
            rw [← hact] at hent
            have hX6 : w5.heap[X]? = some (.cells #[.int .i64 act.kind, .int .i64 act.n, .int .i64 act.job.id, .int .i64 act.job.queue, .int .i64 act.job.prio, .int .i64 act.job.runtime, .int .i64 act.job.shape.gpus, .int .i64 act.job.shape.cpus, .int .i64 act.job.shape.mn, .int .i64 act.job.shape.mx] 30 (0, 0)) := by rw [hact]; exact hX5
            have hb5 : Below wr.heap.size wr w5 := HBD.out.trans (hf5.below HBD.out.size fun q e => by have := HXE.out; omega)
            have HX6 := Lib.hid hX6; have HB5 := Lib.hid hb5; have HENT := Lib.hid hent
            clear q2 q3 q4 q5 q6 q7 q8 q9 qz lX hX5 hf5 hact hX6 hb5 hent fx0
            have q0 := cell_of_block HX6.out 0; have q1 := cell_of_block HX6.out 1; have q2 := cell_of_block HX6.out 2; have q3 := cell_of_block HX6.out 3; have q4 := cell_of_block HX6.out 4; have q5 := cell_of_block HX6.out 5; have q6 := cell_of_block HX6.out 6; have q7 := cell_of_block HX6.out 7; have q8 := cell_of_block HX6.out 8; have q9 := cell_of_block HX6.out 9; have lX := lt_of_block HX6.out
            have HO5 := Lib.hid (ownsRow_below HO.out HB5.out)
            have hBw5 : Bs ≤ w5.heap.size := Nat.le_trans hBw HB5.out.size
            go_wp2_with (at_builtin; refine wpList_append_lies _ rfl _ _ _ rfl Bs 53 i0 _ 12 96 Try.underlying50 hi0 hz0 hz1 hz2 rfl (by omega) (.slice av m cv) m _ rfl (HO5.out.alloc _) ⟨w5.heap.size, 0, none⟩ 1 1 [.int .i64 act.kind, .int .i64 act.n, .int .i64 act.job.id, .int .i64 act.job.queue, .int .i64 act.job.prio, .int .i64 act.job.runtime, .int .i64 act.job.shape.gpus, .int .i64 act.job.shape.cpus, .int .i64 act.job.shape.mn, .int .i64 act.job.shape.mx, .int .i64 0, .int .i64 a] rfl rfl (World.news_of_block (cs := #[.int .i64 act.kind, .int .i64 act.n, .int .i64 act.job.id, .int .i64 act.job.queue, .int .i64 act.job.prio, .int .i64 act.job.runtime, .int .i64 act.job.shape.gpus, .int .i64 act.job.shape.cpus, .int .i64 act.job.shape.mn, .int .i64 act.job.shape.mx, .int .i64 0, .int .i64 a]) (t := 53) (fr := (0, 0)) (World.alloc_heap_new w5 _)) (by simp [Value.oneCell']) (by omega) (by unfold maxLen; omega) (by omega) (by simp; omega) (w5.heap.size + 1) (by simp) ?_)
            intro gg cap' w9 hown9 hgrow hat hlt9
            have hf9 : Fr w5.heap.size (fun q => (Value.slice av m cv).ownBlock = some q) w5 w9 := Fr.grown ((Fr.refl _ _ _).alloc (Nat.le_refl _) _) hgrow (by simp) (fun q e => .inr e)
            have hb59 : Below w.heap.size w w5 := hI.out.2.2.2.2.1.trans (HB5.out.mono hI.out.2.2.2.2.1.size)
            have hb9 : Below w.heap.size w w9 := hb59.trans (hf9.below hb59.size fun q e => by have := (HLV.out q e).1; have := HBS.out; omega)
            have HFIN := Lib.hid (And.intro hown9 hb9)
            clear hown9 hgrow hat hlt9 hf9 hb9 hb59 q0 q1 q2 q3 q4 q5 q6 q7 q8 q9 lX
            go_wp2_with fail
            refine ⟨⟨_, m + 1, _, es ++ [⟨act, 0, a⟩], a + 1 + 11, f', rfl, by go_num, by omega, Lib.hid ⟨by simp [hI.out.1], ?_, by have := hI.out.2.2.1; have := HFF.out; omega, ?_, HFIN.out.2, by omega⟩⟩, by simp [intOf]; omega⟩
            · have h1 := hI.out.2.1
              rw [HEN.out, HENT.out] at h1
              rw [List.append_assoc]; exact h1
            · have h1 := HFIN.out.1
              rw [List.flatMap_append]; exact h1
          · have hk1 : decide (kd = 0) = false := by simp [hk0]
            have hk2 : (kd == 0) = false := by simp [hk0]
            have hn2 : n ≤ 2 := HT.out.2.1 hk0
            have hact := HT.out.2.2.2 hk0 s (a + 1)
            have hent := HENT.out
            rw [hact] at hent
            have hBsz : (s.extract (a + 1) (a + 1 + n)).size = n := by rw [ByteArray.size_extract]; omega
            have u : ∀ w' : World, Calls Try.prog 30 #[.string (s.extract (a + 1) (a + 1 + n))] w' fun e w'' => e = .returned (.int .i64 (numF s (a + 1) n)) ∧ w'' = w' := fun w' => by
              have h := number_any (s.extract (a + 1) (a + 1 + n)) w' (by omega)
              rw [hBsz, numF_extract s (a + 1) (a + 1 + n) 0 n (by omega) (by omega), Nat.add_zero] at h
              exact h
            obtain ⟨z, hz⟩ : ∃ z, numF s (a + 1) n = z := ⟨_, rfl⟩
            rw [hz] at hent u
            obtain ⟨Bb, hBb⟩ : ∃ B, s.extract (a + 1) (a + 1 + n) = B := ⟨_, rfl⟩
            rw [hBb] at hsl u
            have HU := Lib.hid u; have HE := Lib.hid hent
            clear hact hent hBsz u hz hBb
            obtain ⟨i0, hi0, hz0, hz1, hz2⟩ := info_parts infoEr
            go_wp2_with fail
            have hb4 := (Below.refl wr.heap.size wr).alloc (Nat.le_refl _) (.cells #[.int .i64 kd, .int .i64 0, .int .i64 0, .int .i64 0, .int .i64 0, .int .i64 0, .int .i64 0, .int .i64 0, .int .i64 0, .int .i64 0] 30)
            have kX := World.alloc_heap_new wr (.cells #[.int .i64 kd, .int .i64 0, .int .i64 0, .int .i64 0, .int .i64 0, .int .i64 0, .int .i64 0, .int .i64 0, .int .i64 0, .int .i64 0] 30)
            generalize wr.alloc (.cells #[.int .i64 kd, .int .i64 0, .int .i64 0, .int .i64 0, .int .i64 0, .int .i64 0, .int .i64 0, .int .i64 0, .int .i64 0, .int .i64 0] 30) = wd at hb4 kX ⊢
            obtain ⟨X, hX⟩ : ∃ X, wr.heap.size = X := ⟨_, rfl⟩
            rw [hX] at kX ⊢
            have HXE := Lib.hid hX
            have HBD := Lib.hid hb4; have HX4 := Lib.hid kX
            clear hb4 kX hX
            refine (HU.out _).mono ?_
            rintro e w3 ⟨rfl, hw3⟩
            replace hw3 := hw3.symm
            subst hw3
            have q1 := cell_of_block HX4.out 1; have qz := frozen_of_block HX4.out; have lX := lt_of_block HX4.out
            go_upto_region 16 with fail
            have hX5 : (wd.setCell ⟨X, 1, none⟩ (.int .i64 z)).heap[X]? = some (.cells #[.int .i64 kd, .int .i64 z, .int .i64 0, .int .i64 0, .int .i64 0, .int .i64 0, .int .i64 0, .int .i64 0, .int .i64 0, .int .i64 0] 30 (0, 0)) := setCell_block HX4.out 1 _
            have hf5 : Fr wd.heap.size (fun q => q = X) wd (wd.setCell ⟨X, 1, none⟩ (.int .i64 z)) := Fr.setCell (F := fun q => q = X) (p := ⟨X, 1, none⟩) (Fr.refl _ _ _) (.inr rfl) _
            generalize wd.setCell ⟨X, 1, none⟩ (.int .i64 z) = w5 at hX5 hf5 ⊢
            obtain ⟨act, hact⟩ : ∃ act : Ac, act = ⟨kd, z, ⟨0, 0, 0, 0, ⟨0, 0, 0, 0⟩⟩⟩ := ⟨_, rfl⟩
            have hent := HE.out
            rw [← hact] at hent
            have hX6 : w5.heap[X]? = some (.cells #[.int .i64 act.kind, .int .i64 act.n, .int .i64 act.job.id, .int .i64 act.job.queue, .int .i64 act.job.prio, .int .i64 act.job.runtime, .int .i64 act.job.shape.gpus, .int .i64 act.job.shape.cpus, .int .i64 act.job.shape.mn, .int .i64 act.job.shape.mx] 30 (0, 0)) := by rw [hact]; exact hX5
            have hb5 : Below wr.heap.size wr w5 := HBD.out.trans (hf5.below HBD.out.size fun q e => by have := HXE.out; omega)
            have HX6 := Lib.hid hX6; have HB5 := Lib.hid hb5; have HENT := Lib.hid hent
            clear q1 qz lX hX5 hf5 hact hX6 hb5 hent
            have q0 := cell_of_block HX6.out 0; have q1 := cell_of_block HX6.out 1; have q2 := cell_of_block HX6.out 2; have q3 := cell_of_block HX6.out 3; have q4 := cell_of_block HX6.out 4; have q5 := cell_of_block HX6.out 5; have q6 := cell_of_block HX6.out 6; have q7 := cell_of_block HX6.out 7; have q8 := cell_of_block HX6.out 8; have q9 := cell_of_block HX6.out 9; have lX := lt_of_block HX6.out
            have HO5 := Lib.hid (ownsRow_below HO.out HB5.out)
            have hBw5 : Bs ≤ w5.heap.size := Nat.le_trans hBw HB5.out.size
            go_wp2_with (at_builtin; refine wpList_append_lies _ rfl _ _ _ rfl Bs 53 i0 _ 12 96 Try.underlying50 hi0 hz0 hz1 hz2 rfl (by omega) (.slice av m cv) m _ rfl (HO5.out.alloc _) ⟨w5.heap.size, 0, none⟩ 1 1 [.int .i64 act.kind, .int .i64 act.n, .int .i64 act.job.id, .int .i64 act.job.queue, .int .i64 act.job.prio, .int .i64 act.job.runtime, .int .i64 act.job.shape.gpus, .int .i64 act.job.shape.cpus, .int .i64 act.job.shape.mn, .int .i64 act.job.shape.mx, .int .i64 0, .int .i64 a] rfl rfl (World.news_of_block (cs := #[.int .i64 act.kind, .int .i64 act.n, .int .i64 act.job.id, .int .i64 act.job.queue, .int .i64 act.job.prio, .int .i64 act.job.runtime, .int .i64 act.job.shape.gpus, .int .i64 act.job.shape.cpus, .int .i64 act.job.shape.mn, .int .i64 act.job.shape.mx, .int .i64 0, .int .i64 a]) (t := 53) (fr := (0, 0)) (World.alloc_heap_new w5 _)) (by simp [Value.oneCell']) (by omega) (by unfold maxLen; omega) (by omega) (by simp; omega) (w5.heap.size + 1) (by simp) ?_)
            intro gg cap' w9 hown9 hgrow hat hlt9
            have hf9 : Fr w5.heap.size (fun q => (Value.slice av m cv).ownBlock = some q) w5 w9 := Fr.grown ((Fr.refl _ _ _).alloc (Nat.le_refl _) _) hgrow (by simp) (fun q e => .inr e)
            have hb59 : Below w.heap.size w w5 := hI.out.2.2.2.2.1.trans (HB5.out.mono hI.out.2.2.2.2.1.size)
            have hb9 : Below w.heap.size w w9 := hb59.trans (hf9.below hb59.size fun q e => by have := (HLV.out q e).1; have := HBS.out; omega)
            have HFIN := Lib.hid (And.intro hown9 hb9)
            clear hown9 hgrow hat hlt9 hf9 hb9 hb59 q0 q1 q2 q3 q4 q5 q6 q7 q8 q9 lX
            go_wp2_with fail
            refine ⟨⟨_, m + 1, _, es ++ [⟨act, 0, a⟩], a + 1 + n, f', rfl, by go_num, by omega, Lib.hid ⟨by simp [hI.out.1], ?_, by have := hI.out.2.2.1; have := HFF.out; omega, ?_, HFIN.out.2, by omega⟩⟩, by simp [intOf]; omega⟩
            · have h1 := hI.out.2.1
              rw [HEN.out, HENT.out] at h1
              rw [List.append_assoc]; exact h1
            · have h1 := HFIN.out.1
              rw [List.flatMap_append]; exact h1
    · obtain rfl : a = s.size := by omega
      have hnil : entriesN s f s.size = [] := by
        cases f with
        | zero => rfl
        | succ f => unfold entriesN; rw [if_neg (by omega)]
      have hes := hI.out.2.1
      rw [hnil, List.append_nil] at hes
      have HES := Lib.hid hes
      clear hes hnil
      go_wp2_with fail
      go_ret
      refine ⟨_, rfl, ?_, by have := hI.out.2.2.2.2.1; rwa [HBS.out] at this⟩
      rw [← HES.out, hI.out.1]
      exact hI.out.2.2.2.1
end Go.Proofs.Ytghfdiaaonjofaa
