/-
  wire: the reader's get, with more said of the case that the bytes are too short.
-/
import Derived.Test.YtghfdiaaonjofaaWireParse
set_option linter.unusedVariables false
set_option linter.unusedSimpArgs false
namespace Go.Proofs.Ytghfdiaaonjofaa
open Go.RowKit
theorem readC_int (s : ByteArray) : ∀ (l : List (Nat × Nat)) (at' : Nat) (cs : Array Value) (k : Nat) (u : Value), (readC s at' l cs)[k]? = some u → cs[k]? = some u ∨ ∃ n, u = .int .i64 n
  | [], _, _, _, _, h => .inl h
  | (o, c) :: r, at', cs, k, u, h => by
    simp only [readC] at h
    rcases readC_int s r _ _ k u h with h | h
    · by_cases e : o = k
      · subst e
        rw [Array.getElem?_setIfInBounds] at h
        split at h
        · split at h
          · simp only [Option.some.injEq] at h; exact .inr ⟨_, h.symm⟩
          · cases h
        · rename_i h0; exact absurd rfl h0
      · rw [Array.getElem?_setIfInBounds_ne e] at h; exact .inl h
    · exact .inr h
def GetPost3 (R B : Nat) (s : ByteArray) (at' : Nat) (l : List (Nat × Nat)) (cs : Array Value) (t : TypeId) (w : World) (e : Ending) (w' : World) : Prop :=
  e = .returned (.tuple #[]) ∧ Fr w.heap.size (fun q => q = R ∨ q = B) w w' ∧
    ((at' + total l ≤ s.size ∧ w'.heap[R]? = some (.cells #[.string s, .int .i64 (at' + total l : Nat), .bool false] 65 (0, 0)) ∧ w'.heap[B]? = some (.cells (readC s at' l cs) t (0, 0))) ∨
     (s.size < at' + total l ∧ ∃ a2 cs', w'.heap[R]? = some (.cells #[.string s, .int .i64 (a2 : Nat), .bool true] 65 (0, 0)) ∧ w'.heap[B]? = some (.cells cs' t (0, 0)) ∧ cs'.size = cs.size ∧ (∀ off, off ∉ l.map (·.1) → cs'[off]? = cs[off]?) ∧ ∀ (k : Nat) (u : Value), cs'[k]? = some u → cs[k]? = some u ∨ ∃ n, u = .int .i64 n))

set_option maxHeartbeats 4000000 in
theorem get3_any (R B lo : Nat) (s : ByteArray) (at' : Nat) (l : List (Nat × Nat)) (v : Value) (cs : Array Value) (t : TypeId) (w : World) (hR : w.heap[R]? = some (.cells #[.string s, .int .i64 (at' : Nat), .bool false] 65 (0, 0))) (hB : w.heap[B]? = some (.cells cs t (0, 0)))
    (hf : FieldRow w lo B v l) (hRB : R ≠ B) (hlo : R < lo ∧ B < lo) (hl : ∀ p ∈ l, 1 ≤ p.2 ∧ p.2 ≤ 3 ∧ cs[p.1]? = some (.int .i64 0)) (hnd : (l.map (·.1)).Nodup) (hs : s.size ≤ 100000) (hat : at' ≤ s.size) (hln : l.length ≤ 100) :
    Calls Try.prog 21 #[.pointer (some ⟨R, 0, none⟩), v] w (GetPost3 R B s at' l cs t w) := by
  obtain ⟨a, cap, rfl, hc⟩ := hf
  obtain ⟨n, hn⟩ : ∃ n, l.length = n := ⟨_, rfl⟩
  have HN := Lib.hid hn; have HC := Lib.hid hc; have HL := Lib.hid hl; have HND := Lib.hid hnd; have HR := Lib.hid hR; have HB := Lib.hid hB
  rw [hn] at hln ⊢
  clear hn hc hl hnd hR hB
  go_enter Try.func21, Try.ntmps21
  go_wp2_with fail
  go_loopw [8] (fun i wr => ∃ j : Nat, j ≤ n ∧ i = .int .i64 j ∧ at' + total (l.take j) ≤ s.size ∧ Hid (Fr w.heap.size (fun q => q = R ∨ q = B) w wr ∧ wr.heap[R]? = some (.cells #[.string s, .int .i64 (at' + total (l.take j) : Nat), .bool false] 65 (0, 0)) ∧ wr.heap[B]? = some (.cells (readC s at' (l.take j) cs) t (0, 0)))) (fun i _ => n - (intOf i).toNat)
  case atStart => exact ⟨0, Nat.zero_le _, rfl, by simp [total]; exact hat, Lib.hid ⟨Fr.refl _ _ _, by simpa [total] using HR.out, HB.out⟩⟩
  case round =>
    obtain ⟨j, hj, rfl, hfit, hI⟩ := hrel
    by_cases hlt : j < n
    · obtain ⟨⟨off, b⟩, hp⟩ : ∃ p, l[j]? = some p := ⟨_, List.getElem?_eq_getElem (by rw [HN.out]; exact hlt)⟩
      obtain ⟨g, rfl, hg1, hg2, c0, c1⟩ := HC.out j off b hp
      obtain ⟨hb1, hb2, hz⟩ := HL.out (off, b) (List.mem_of_getElem? hp)
      obtain ⟨aj, haj⟩ : ∃ aj, at' + total (l.take j) = aj := ⟨_, rfl⟩
      have HAJ := Lib.hid haj
      have hfr := hI.out.1
      have hRr := hI.out.2.1; have hBr := hI.out.2.2
      rw [haj] at hfit hRr
      have hgw := Nat.lt_of_lt_of_le hg2 hfr.size
      have hgR : ¬ (g = R ∨ g = B) := by omega
      have c0 := (hfr.cell (p := ⟨g, j * 2, none⟩) hg2 hgR).trans c0
      have c1 := (hfr.cell (p := ⟨g, j * 2 + 1, none⟩) hg2 hgR).trans c1
      have HP := Lib.hid hp; have HZ := Lib.hid hz
      have lR := lt_of_block hRr; have lB := lt_of_block hBr
      have HRr := Lib.hid hRr; have HBr := Lib.hid hBr; have HFR := Lib.hid hfr
      clear haj hfr hRr hBr hp hz
      go_wp2_with fail
      have hb3 := (Below.refl wr.heap.size wr).alloc (Nat.le_refl _) (.cells #[.pointer (some ⟨B, off, none⟩), .int .i64 b] 73)
      have hsz3 : (wr.alloc (.cells #[.pointer (some ⟨B, off, none⟩), .int .i64 b] 73)).heap.size = wr.heap.size + 1 := World.size_alloc _ _
      have k3 := World.alloc_heap_new wr (.cells #[.pointer (some ⟨B, off, none⟩), .int .i64 b] 73)
      generalize wr.alloc (.cells #[.pointer (some ⟨B, off, none⟩), .int .i64 b] 73) = w3 at hb3 hsz3 k3 ⊢
      have hR3 := (hb3.block _ lR).trans HRr.out
      have hB3 := (hb3.block _ lB).trans HBr.out
      have lR3 := lt_of_block hR3; have lF3 := lt_of_block k3; have lB3 := lt_of_block hB3
      have r0 : ∀ y : Later w3, y.wd.cell? ⟨R, 0, none⟩ = some (.string s) := fun y => (y.cell lR3).trans (cell_of_block hR3 0)
      have r1 : ∀ y : Later w3, y.wd.cell? ⟨R, 1, none⟩ = some (.int .i64 aj) := fun y => (y.cell lR3).trans (cell_of_block hR3 1)
      have r2 : ∀ y : Later w3, y.wd.cell? ⟨R, 2, none⟩ = some (.bool false) := fun y => (y.cell lR3).trans (cell_of_block hR3 2)
      have f1 : ∀ y : Later w3, y.wd.cell? ⟨wr.heap.size, 1, none⟩ = some (.int .i64 b) := fun y => (y.cell lF3).trans (cell_of_block k3 1)
      have hw1 : IntKind.i64.wrap ((s.size : Int) - aj) = (s.size : Int) - aj := by rw [wrap_eq]; unfold wrap64; omega
      have HB3 := Lib.hid hb3; have HR3 := Lib.hid hR3; have HBB3 := Lib.hid hB3; have HK3 := Lib.hid k3; have HSZ3 := Lib.hid hsz3
      have fx0 := (Below.refl w3.heap.size w3).drew
      clear hb3 hR3 hB3 k3 hsz3
      by_cases hshort : s.size - aj < b
      · have hd : decide ((s.size : Int) - aj < (b : Int)) = true := by simp; omega
        refine Rg.wp_region_pick (by kernel_rfl) [0, 1, 2, 3, 4, 5, 6, 7, 8, 9, 10, 11, 12, 13, 14, 15, 16, 17, 18, 19] [20, 21, 22] 20 (by kernel_rfl) (by kernel_rfl) (by kernel_rfl) (fun w' => ∃ y : Later w3, w' = y.wd) (fun c a a' w hd h => ⟨hd.symm.trans h.1, h.2⟩) ⟨⟨_, fx0⟩, rfl⟩ ?_
        simp only [Rg.picks, List.getElem?_cons_succ, List.getElem?_cons_zero, Option.toList, List.cons_append, List.nil_append]
        repeat (quiet_step (fail))
        refine wpQuiet_nil ?_
        clear r0 r1 r2 f1
        simp only [Rg.pickn, List.getElem?_cons_succ, List.getElem?_cons_zero, Option.toList, List.map_cons, List.map_nil, List.cons_append, List.nil_append]
        refine Rg.wpN_list (by decide) ?_
        simp only [List.map_cons, List.map_nil]
        have q2 := cell_of_block HR3.out 2; have z2 := frozen_of_block HR3.out 2
        go_wp2_with fail
        refine bodyPost_ret (results_none rfl _ _ _) rfl ?_
        have hl2 : total (l.take (j + 1)) = total (l.take j) + b := (total_take l HP.out).1
        have hle := total_le l (j + 1)
        have haj := HAJ.out
        have hRn := setCell_block HR3.out 2 (.bool true)
        have hBn := (setCell_other (w := w3) (k := B) (p := ⟨R, 2, none⟩) (.bool true) (Ne.symm hRB)).trans HBB3.out
        refine ⟨rfl, (HFR.out.trans (Fr.setCell (p := ⟨R, 2, none⟩) (Fr.of_below (HB3.out.mono HFR.out.size) _) (.inr (.inl rfl)) _)).drew, .inr ⟨by omega, aj, _, hRn, hBn, by rw [readC_size], fun off ho => readC_at s _ _ _ off (fun hm => ho ((List.take_sublist j l).map _ |>.subset hm)), fun k u hu => readC_int s _ _ _ k u hu⟩⟩
      · have hd : decide ((s.size : Int) - aj < (b : Int)) = false := by simp; omega
        refine Rg.wp_region_pick (by kernel_rfl) [0, 1, 2, 3, 4, 5, 6, 7, 8, 9, 10, 11, 12, 13, 14, 15, 16, 17, 18, 19] [20, 21, 22] 20 (by kernel_rfl) (by kernel_rfl) (by kernel_rfl) (fun w' => ∃ y : Later w3, w' = y.wd) (fun c a a' w hd h => ⟨hd.symm.trans h.1, h.2⟩) ⟨⟨_, fx0⟩, rfl⟩ ?_
        simp only [Rg.picks, List.getElem?_cons_succ, List.getElem?_cons_zero, Option.toList, List.cons_append, List.nil_append]
        repeat (quiet_step (fail))
        refine wpQuiet_nil ?_
        clear r0 r1 r2 f1
        simp only [Rg.pickn, List.getElem?_cons_succ, List.getElem?_cons_zero, Option.toList, List.map_cons, List.map_nil, List.cons_append, List.nil_append]
        refine Rg.wpN_list (by decide) ?_
        simp only [List.map_cons, List.map_nil]
        have q2 := cell_of_block HR3.out 2; have z2 := frozen_of_block HR3.out 2
        have k1 := cell_of_block HK3.out 1
        go_wp2_with fail
        have hRn := setCell_block HR3.out 2 (.bool false)
        have hBn := (setCell_other (w := w3) (k := B) (p := ⟨R, 2, none⟩) (.bool false) (Ne.symm hRB)).trans HBB3.out
        have hFn := (setCell_other (w := w3) (k := wr.heap.size) (p := ⟨R, 2, none⟩) (.bool false) (by simp only; omega)).trans HK3.out
        have hfr3 := (HFR.out.trans (Fr.setCell (p := ⟨R, 2, none⟩) (Fr.of_below (HB3.out.mono HFR.out.size) _) (.inr (.inl rfl)) (.bool false))).drew
        have hnot : off ∉ (l.take j).map (·.1) := by
          intro hm
          obtain ⟨⟨o', b'⟩, hq, rfl⟩ := List.mem_map.1 hm
          obtain ⟨i, hi⟩ := List.getElem?_of_mem hq
          have hij : i < j := by have := (List.getElem?_eq_some_iff.1 hi).1; simp at this; omega
          rw [List.getElem?_take, if_pos hij] at hi
          have h1 : (l.map (·.1))[i]? = some o' := by rw [List.getElem?_map, hi]; rfl
          have h2 : (l.map (·.1))[j]? = some o' := by rw [List.getElem?_map, HP.out]; rfl
          obtain ⟨g1, e1⟩ := List.getElem?_eq_some_iff.1 h1
          obtain ⟨g2, e2⟩ := List.getElem?_eq_some_iff.1 h2
          have := List.pairwise_iff_getElem.1 HND.out i j g1 g2 hij
          rw [e1, e2] at this
          exact this rfl
        have hz2 : (readC s at' (l.take j) cs)[off]? = some (.int .i64 0) := (readC_at s _ _ _ off hnot).trans HZ.out
        obtain ⟨csj, hcsj⟩ : ∃ csj, readC s at' (l.take j) cs = csj := ⟨_, rfl⟩
        rw [hcsj] at hz2 hBn
        have HCSJ := Lib.hid hcsj; have HZ2 := Lib.hid hz2
        have HRn := Lib.hid hRn; have HBn := Lib.hid hBn; have HFn := Lib.hid hFn; have HFR3 := Lib.hid hfr3
        clear hcsj hz2 hnot hRn hBn hFn hfr3 q2 z2 k1
        obtain ⟨fb, hfb⟩ : ∃ fb, wr.heap.size = fb := ⟨_, rfl⟩
        have HFB := Lib.hid (show fb ≠ R ∧ fb ≠ B by have := HSZ3.out; omega)
        rw [hfb] at HFn ⊢
        clear hfb
        go_loopw [40] (fun tv w5 => ∃ tt : Nat, tt ≤ b ∧ tv = .int .i64 tt ∧ Hid (Fr w.heap.size (fun q => q = R ∨ q = B) w w5 ∧ w5.heap[R]? = some (.cells #[.string s, .int .i64 (aj + tt : Nat), .bool false] 65 (0, 0)) ∧ w5.heap[B]? = some (.cells (csj.setIfInBounds off (.int .i64 (numF s aj tt))) t (0, 0)) ∧ w5.heap[fb]? = some (.cells #[.pointer (some ⟨B, off, none⟩), .int .i64 b] 73 (0, 0)))) (fun tv _ => b - (intOf tv).toNat)
        case atStart =>
          refine ⟨0, Nat.zero_le _, rfl, Lib.hid ⟨HFR3.out, HRn.out, ?_, HFn.out⟩⟩
          rw [show csj.setIfInBounds off (.int .i64 (numF s aj 0)) = csj from set_same HZ2.out]
          exact HBn.out
        case round =>
          obtain ⟨tt, htt, rfl, hJ⟩ := hrel
          by_cases htb : tt < b
          · have hR5 := hJ.out.2.1; have hB5 := hJ.out.2.2.1; have hF5 := hJ.out.2.2.2
            have lR5 := lt_of_block hR5; have lB5 := lt_of_block hB5; have lF5 := lt_of_block hF5
            have hoff : off < csj.size := (Array.getElem?_eq_some_iff.1 HZ2.out).1
            have r0 : ∀ y : Later wr, y.wd.cell? ⟨R, 0, none⟩ = some (.string s) := fun y => (y.cell lR5).trans (cell_of_block hR5 0)
            have r1 : ∀ y : Later wr, y.wd.cell? ⟨R, 1, none⟩ = some (.int .i64 (aj + tt : Nat)) := fun y => (y.cell lR5).trans (cell_of_block hR5 1)
            have f0 : ∀ y : Later wr, y.wd.cell? ⟨fb, 0, none⟩ = some (.pointer (some ⟨B, off, none⟩)) := fun y => (y.cell lF5).trans (cell_of_block hF5 0)
            have b0 : ∀ y : Later wr, y.wd.cell? ⟨B, off, none⟩ = some (.int .i64 (numF s aj tt)) := fun y => (y.cell lB5).trans ((cell_of_block hB5 off).trans (by rw [Array.getElem?_setIfInBounds_self_of_lt hoff]))
            have hlts : aj + tt < s.size := by omega
            have i1 : (0 : Int) ≤ (aj : Int) + (tt : Int) := by omega
            have i2 : (aj : Int) + (tt : Int) < (s.size : Int) := by omega
            have fx5 := (Below.refl wr.heap.size wr).drew
            go_wp2_with fail
            refine Rg.wp_region_pick (by kernel_rfl) [0, 1, 2, 3, 4, 5, 6, 7, 8, 9, 10, 11, 12, 13, 14, 15, 16, 17] [18, 19] 18 (by kernel_rfl) (by kernel_rfl) (by kernel_rfl) (fun w' => ∃ y : Later wr, w' = y.wd) (fun c a a' w hd h => ⟨hd.symm.trans h.1, h.2⟩) ⟨⟨_, fx5⟩, rfl⟩ ?_
            simp only [Rg.picks, List.getElem?_cons_succ, List.getElem?_cons_zero, Option.toList, List.cons_append, List.nil_append]
            repeat (quiet_step (fail))
            refine wpQuiet_nil ?_
            clear r0 r1 f0 b0
            simp only [Rg.pickn, List.getElem?_cons_succ, List.getElem?_cons_zero, Option.toList, List.map_cons, List.map_nil, List.cons_append, List.nil_append]
            refine Rg.wpN_list (by decide) ?_
            simp only [List.map_cons, List.map_nil]
            have p0 := cell_of_block hB5 off; have pz := frozen_of_block hB5 off
            rw [Array.getElem?_setIfInBounds_self_of_lt hoff] at p0
            have p1 := cell_of_block hR5 1; have pz1 := frozen_of_block hR5 1
            have HR5 := Lib.hid hR5; have HB5 := Lib.hid hB5; have HF5 := Lib.hid hF5
            clear hR5 hB5 hF5
            go_wp2_with fail
            have hval : bits .or .i64 (wrap64 (numF s aj tt * 256)) (wrap64 (s[aj + tt].toNat : Int)) = numF s aj (tt + 1) := or_byte s aj tt hlts (by omega)
            rw [hval]
            have hRn : ((wr.setCell ⟨B, off, none⟩ (.int .i64 (numF s aj (tt + 1)))).setCell ⟨R, 1, none⟩ (.int .i64 ((aj : Int) + tt + 1))).heap[R]? = some (.cells #[.string s, .int .i64 (aj + (tt + 1) : Nat), .bool false] 65 (0, 0)) := by
              have h1 := setCell_block ((setCell_other (w := wr) (k := R) (p := ⟨B, off, none⟩) (.int .i64 (numF s aj (tt + 1))) hRB).trans HR5.out) 1 (.int .i64 ((aj : Int) + tt + 1))
              rw [h1]
              simp
              omega
            have hBn : ((wr.setCell ⟨B, off, none⟩ (.int .i64 (numF s aj (tt + 1)))).setCell ⟨R, 1, none⟩ (.int .i64 ((aj : Int) + tt + 1))).heap[B]? = some (.cells (csj.setIfInBounds off (.int .i64 (numF s aj (tt + 1)))) t (0, 0)) := by
              rw [setCell_other _ (by exact Ne.symm hRB), setCell_block HB5.out off _]
              simp
            have hFn : ((wr.setCell ⟨B, off, none⟩ (.int .i64 (numF s aj (tt + 1)))).setCell ⟨R, 1, none⟩ (.int .i64 ((aj : Int) + tt + 1))).heap[fb]? = some (.cells #[.pointer (some ⟨B, off, none⟩), .int .i64 b] 73 (0, 0)) := by
              rw [setCell_other _ (by exact HFB.out.1), setCell_other _ (by exact HFB.out.2)]
              exact HF5.out
            have hfr5 : Fr w.heap.size (fun q => q = R ∨ q = B) w ((wr.setCell ⟨B, off, none⟩ (.int .i64 (numF s aj (tt + 1)))).setCell ⟨R, 1, none⟩ (.int .i64 ((aj : Int) + tt + 1))) :=
              Fr.setCell (p := ⟨R, 1, none⟩) (Fr.setCell (p := ⟨B, off, none⟩) hJ.out.1 (.inr (.inr rfl)) _) (.inr (.inl rfl)) _
            exact ⟨⟨tt + 1, by omega, by go_num, Lib.hid ⟨hfr5.drew, hRn, hBn, hFn⟩⟩, by simp [intOf]; omega⟩
          · obtain rfl : b = tt := by omega
            have hl2 := total_take l HP.out
            have haj := HAJ.out
            have hsn := readC_snoc s (l.take j) at' cs off b
            rw [HCSJ.out, haj] at hsn
            have hR5 := hJ.out.2.1; have hB5 := hJ.out.2.2.1
            rw [← hsn, ← hl2.2] at hB5
            have heq : aj + b = at' + total (l.take (j + 1)) := by rw [hl2.1]; simp only; omega
            rw [heq] at hR5
            have hend : at' + total (l.take (j + 1)) ≤ s.size := by omega
            have HEND := Lib.hid (And.intro hJ.out.1 (And.intro hR5 hB5))
            clear hR5 hB5 hsn hl2 haj heq htb htt
            go_wp2_with fail
            exact ⟨⟨j + 1, by omega, by go_num, hend, Lib.hid HEND.out⟩, by simp [intOf]; omega⟩
    · obtain rfl : n = j := by omega
      have hall : l.take n = l := by rw [← HN.out]; exact List.take_length
      have hI2 := hI.out
      rw [hall] at hI2 hfit
      have HI2 := Lib.hid hI2
      clear hall hI2 hlt hj
      go_wp2_with fail
      go_end0
      exact ⟨rfl, HI2.out.1, .inl ⟨hfit, HI2.out.2.1, HI2.out.2.2⟩⟩
end Go.Proofs.Ytghfdiaaonjofaa
