/-
  wire: put, of numbers that fit.
-/
import Derived.Test.YtghfdiaaonjofaaWireEnt
set_option linter.unusedVariables false
set_option linter.unusedSimpArgs false
namespace Go.Proofs.Ytghfdiaaonjofaa
open Go.RowKit

/-- a number's bytes -/
def fb (x : Int) : Nat → List Int
  | 0 => []
  | b + 1 => (x / 256 ^ b % 256) :: fb x b
theorem fb_len (x : Int) : ∀ b, (fb x b).length = b
  | 0 => rfl
  | b + 1 => by simp [fb, fb_len x b]
def valC (cs : Array Value) (off : Nat) : Int := match cs[off]? with | some (.int _ x) => x | _ => 0
def putL (cs : Array Value) (l : List (Nat × Nat)) : List Int := l.flatMap fun p => fb (valC cs p.1) p.2
def byV (l : List Int) : List Value := l.map (Value.int .u8)
theorem infoBy : (Try.prog.info? 5).map (fun i => (i.zero, i.size, i.bytes)) = some (some (.int .u8 0), 1, 1) := by kernel_rfl
theorem putL_len (cs : Array Value) : ∀ l, (putL cs l).length = total l
  | [] => rfl
  | p :: r => by
    have := putL_len cs r
    unfold putL at this ⊢
    rw [List.flatMap_cons, List.length_append, fb_len, this]; rfl
theorem total_le2 {l : List (Nat × Nat)} {X : Nat × Nat → Prop} (h : ∀ p ∈ l, 1 ≤ p.2 ∧ p.2 ≤ 2 ∧ X p) (j : Nat) : total (l.take j) ≤ 2 * l.length := by
  refine Nat.le_trans (total_le l j) ?_
  clear j
  induction l with
  | nil => simp [total]
  | cons p r ih =>
    have h1 := h p (List.mem_cons_self ..)
    have := ih fun q hq => h q (List.mem_cons_of_mem _ hq)
    simp only [total, List.length_cons]
    omega
set_option maxRecDepth 100000 in
set_option maxHeartbeats 4000000 in
theorem put_any (base B lo : Nat) (l : List (Nat × Nat)) (v vo : Value) (bs : List Int) (cs : Array Value) (t : TypeId) (w : World) (hB : w.heap[B]? = some (.cells cs t (0, 0))) (hf : FieldRow w lo B v l) (ho : w.ownsRow base 5 1 vo bs.length (byV bs))
    (hbase : base ≤ w.heap.size) (hsep : ∀ q, vo.ownBlock = some q → q ≠ B ∧ (l ≠ [] → ∀ g, v.ownBlock = some g → q ≠ g)) (hl : ∀ p ∈ l, 1 ≤ p.2 ∧ p.2 ≤ 2 ∧ ∃ x : Int, cs[p.1]? = some (.int .i64 x) ∧ 0 ≤ x ∧ x < 256 ^ p.2) (hln : l.length ≤ 100) (hbs : bs.length ≤ 1000) :
    Calls Try.prog 22 #[vo, v] w fun e w' => ∃ v', e = .returned (.tuple #[v', .bool true]) ∧ w'.ownsRow base 5 1 v' (bs ++ putL cs l).length (byV (bs ++ putL cs l)) ∧ Fr w.heap.size (fun q => vo.ownBlock = some q) w w' ∧ ∀ q, v'.ownBlock = some q → vo.ownBlock = some q ∨ w.heap.size ≤ q := by
  obtain ⟨a, cap, rfl, hc⟩ := hf
  obtain ⟨n, hn⟩ : ∃ n, l.length = n := ⟨_, rfl⟩
  have HN := Lib.hid hn; have HC := Lib.hid hc; have HL := Lib.hid hl; have HB := Lib.hid hB; have HO := Lib.hid ho; have HSEP := Lib.hid hsep
  rw [hn] at hln ⊢
  obtain ⟨i0, hi0, hz0, hz1, hz2⟩ := info_parts infoBy
  clear hn hc hl hB ho hsep
  go_enter Try.func22, Try.ntmps22
  go_wp2_with fail
  go_loopw [0, 11] (fun ov i wr => ∃ (j : Nat) (vj : Value), j ≤ n ∧ ov = vj ∧ i = .int .i64 j ∧ Hid (wr.ownsRow base 5 1 vj (bs ++ putL cs (l.take j)).length (byV (bs ++ putL cs (l.take j))) ∧ Fr w.heap.size (fun q => vo.ownBlock = some q) w wr ∧ ∀ q, vj.ownBlock = some q → vo.ownBlock = some q ∨ w.heap.size ≤ q)) (fun _ i _ => n - (intOf i).toNat)
  case atStart => exact ⟨0, _, Nat.zero_le _, rfl, rfl, Lib.hid ⟨by simpa [putL] using HO.out, Fr.refl _ _ _, fun q hq => .inl hq⟩⟩
  case round =>
    obtain ⟨j, vj, hj, hvj, rfl, hI⟩ := hrel
    subst hvj
    by_cases hlt : j < n
    · obtain ⟨⟨off, b⟩, hp⟩ : ∃ p, l[j]? = some p := ⟨_, List.getElem?_eq_getElem (by rw [HN.out]; exact hlt)⟩
      obtain ⟨g, rfl, hg1, hg2, c0, c1⟩ := HC.out j off b hp
      obtain ⟨hb1, hb2, x, hx, hx0, hx1⟩ := HL.out (off, b) (List.mem_of_getElem? hp)
      have hfr := hI.out.2.1
      have hgV : vo.ownBlock ≠ some g := fun e => (HSEP.out g e).2 (fun h => by rw [h] at hp; simp at hp) g rfl rfl
      have hBV : vo.ownBlock ≠ some B := fun e => (HSEP.out B e).1 rfl
      have hgw := Nat.lt_of_lt_of_le hg2 hfr.size
      have c0 := (hfr.cell (p := ⟨g, j * 2, none⟩) hg2 hgV).trans c0
      have c1 := (hfr.cell (p := ⟨g, j * 2 + 1, none⟩) hg2 hgV).trans c1
      have hBr := (hfr.block B (lt_of_block HB.out) hBV).trans HB.out
      have d0 := (cell_of_block hBr off).trans hx
      have lB := lt_of_block hBr
      have HP := Lib.hid hp; have HX := Lib.hid hx
      have hxn : decide (x < 0) = false := by simp; omega
      have HI := hI
      clear hp hx hBr hfr hI
      simp only at hb1 hb2 hx1
      have hb : b = 1 ∨ b = 2 := by omega
      clear hb1 hb2
      rcases hb with rfl | rfl
      · skip
        have hxb : x < 256 := by simpa using hx1
        have hdv : (x / 256 != 0) = false := by simp; omega
        have hfb3 := (Fr.refl wr.heap.size (fun q => vo.ownBlock = some q) wr).alloc (Nat.le_refl _) (.cells #[.pointer (some ⟨B, off, none⟩), .int .i64 1] 73)
        have kf3 := World.alloc_heap_new wr (.cells #[.pointer (some ⟨B, off, none⟩), .int .i64 1] 73)
        go_wp2_with fail
        go_quiet (fail)
        obtain ⟨fk, hfk⟩ : ∃ fk, wr.heap.size = fk := ⟨_, rfl⟩
        have hF4 := (HI.out.2.1.trans (hfb3.mono HI.out.2.1.size fun _ _ e => e)).drewN nq
        have hk4 : ((wr.alloc (.cells #[.pointer (some ⟨B, off, none⟩), .int .i64 1] 73)).drewN nq).heap[wr.heap.size]? = some (.cells #[.pointer (some ⟨B, off, none⟩), .int .i64 1] 73 (0, 0)) := kf3
        have ho3 := ownsRow_below HI.out.1 ((Below.refl wr.heap.size wr).alloc (Nat.le_refl _) (.cells #[.pointer (some ⟨B, off, none⟩), .int .i64 1] 73))
        have ho4 : ((wr.alloc (.cells #[.pointer (some ⟨B, off, none⟩), .int .i64 1] 73)).drewN nq).ownsRow base 5 1 u0 (bs ++ putL cs (l.take j)).length (byV (bs ++ putL cs (l.take j))) := ho3
        rw [hfk] at hk4 ⊢
        generalize (wr.alloc (.cells #[.pointer (some ⟨B, off, none⟩), .int .i64 1] 73)).drewN nq = w4 at hF4 hk4 ho4 ⊢
        have HFK := Lib.hid hfk
        have HF4 := Lib.hid hF4; have HK4 := Lib.hid hk4; have HO4 := Lib.hid ho4
        have hfkV : w.heap.size ≤ fk := hfk ▸ HI.out.2.1.size
        have lf4 := lt_of_block hk4
        have e1 := cell_of_block hk4 1
        clear hfb3 kf3 hF4 hk4 ho3 ho4 hfk c0 c1 d0
        go_wp2_with fail
        go_loopw [0, 8] (fun ov kv w5 => ∃ (tt : Nat) (vk : Value), tt ≤ 1 ∧ ov = vk ∧ kv = .int .i64 ((1 : Nat) - 1 - (tt : Int)) ∧ Hid (w5.ownsRow base 5 1 vk (bs ++ putL cs (l.take j) ++ (fb x 1).take tt).length (byV (bs ++ putL cs (l.take j) ++ (fb x 1).take tt)) ∧ Fr w.heap.size (fun q => vo.ownBlock = some q) w w5 ∧ (∀ q, vk.ownBlock = some q → (vo.ownBlock = some q ∨ w.heap.size ≤ q) ∧ q ≠ fk) ∧ w5.heap[fk]? = some (.cells #[.pointer (some ⟨B, off, none⟩), .int .i64 1] 73 (0, 0)))) (fun _ kv _ => (intOf kv + 1).toNat)
        case atStart => exact ⟨0, _, Nat.zero_le _, rfl, by simp, Lib.hid ⟨by simpa using HO4.out, HF4.out, fun q hq => ⟨HI.out.2.2 q hq, fun e => by have := (HI.out.1.lt q hq).2; have := HFK.out; omega⟩, HK4.out⟩⟩
        case round =>
          obtain ⟨tt, vk, htt, hvk, rfl, hJ⟩ := hrel
          subst hvk
          by_cases htb : tt < 1
          · have hk5 := hJ.out.2.2.2
            have e0 := cell_of_block hk5 0; have le0 := lt_of_block hk5
            have hB5 := (hJ.out.2.1.block B (lt_of_block HB.out) hBV).trans HB.out
            have d0 := (cell_of_block hB5 off).trans HX.out
            have lB5 := lt_of_block hB5
            clear hk5 hB5
            have htc : tt = 0 := by omega
            subst htc
            have hk0 : (((1 : Nat) : Int) - 1 - ((0 : Nat) : Int)) = 0 := by omega
            rw [hk0]
            obtain ⟨av, cv, hvo⟩ := own_form hJ.out.1
            have hown5 := hJ.out.1
            have htk : (fb x 1).take (0 + 1) = (fb x 1).take 0 ++ [x] := by
              simp [fb]; omega
            obtain ⟨m, hm⟩ : ∃ m, (bs ++ putL cs (l.take j) ++ (fb x 1).take 0).length = m := ⟨_, rfl⟩
            have hm2 : m ≤ 1500 := by
              rw [← hm]
              have h1 := total_le2 HL.out j
              have h2 := putL_len cs (l.take j)
              have h3 := HN.out
              have h4 : ((fb x 1).take 0).length ≤ 2 := by simp [fb]
              simp only [List.length_append]
              omega
            rw [hvo] at hown5 ⊢
            rw [hm] at hown5 hvo ⊢
            have HO5 := Lib.hid hown5; have HM := Lib.hid hm; have HVO := Lib.hid hvo; have HTK := Lib.hid htk
            have hw5 : base ≤ wr.heap.size := Nat.le_trans hbase hJ.out.2.1.size
            clear hown5 hm hvo htk hk0
            go_wp2_with (at_builtin; refine wpList_append_lies _ rfl _ _ _ rfl base 5 i0 _ 1 1 Try.underlying74 hi0 hz0 hz1 hz2 rfl (by omega) (.slice av m cv) m _ rfl (HO5.out.alloc _) ⟨wr.heap.size, 0, none⟩ 1 1 [.int .u8 (x)] rfl rfl (World.news_of_block (cs := #[.int .u8 (x)]) (t := 5) (fr := (0, 0)) (World.alloc_heap_new wr _)) (by simp [Value.oneCell']) (by omega) (by unfold maxLen; omega) (by omega) (by simp; omega) (wr.heap.size + 1) (by simp) ?_)
            intro gg cap' w6 hown6 hgrow hat hlt6
            have hf6 : Fr wr.heap.size (fun q => (Value.slice av m cv).ownBlock = some q) wr w6 := Fr.grown ((Fr.refl _ _ _).alloc (Nat.le_refl _) _) hgrow (by simp) (fun q e => .inr e)
            have hk6 : w6.heap[fk]? = some (.cells #[.pointer (some ⟨B, off, none⟩), .int .i64 1] 73 (0, 0)) := (hf6.block fk le0 (fun e => (hJ.out.2.2.1 fk (by rw [HVO.out]; exact e)).2 rfl)).trans hJ.out.2.2.2
            have hF6 : Fr w.heap.size (fun q => vo.ownBlock = some q) w w6 := hJ.out.2.1.trans (hf6.mono hJ.out.2.1.size fun q hq e => (hJ.out.2.2.1 q (by rw [HVO.out]; exact e)).1.elim (fun h => h) (fun h => by omega))
            have hsz5 := hJ.out.2.1.size
            have hq6 : ∀ q, (Value.slice (some ⟨gg, 0, none⟩) (m + 1) cap').ownBlock = some q → (vo.ownBlock = some q ∨ w.heap.size ≤ q) ∧ q ≠ fk := fun q hq => by
              simp [Value.ownBlock] at hq
              subst hq
              rcases hat with h | h
              · exact hJ.out.2.2.1 gg (by rw [HVO.out]; exact h)
              · exact ⟨.inr (by omega), by omega⟩
            have hl6 : (bs ++ putL cs (l.take j) ++ (fb x 1).take (0 + 1)).length = m + 1 := by rw [HTK.out, ← List.append_assoc, List.length_append, HM.out]; rfl
            have ho6 : w6.ownsRow base 5 1 (.slice (some ⟨gg, 0, none⟩) (m + 1) cap') (bs ++ putL cs (l.take j) ++ (fb x 1).take (0 + 1)).length (byV (bs ++ putL cs (l.take j) ++ (fb x 1).take (0 + 1))) := by
              rw [hl6, HTK.out, ← List.append_assoc]
              have := hown6
              unfold byV at this ⊢
              simpa using this
            have HFIN := Lib.hid (And.intro ho6 (And.intro hF6 (And.intro hq6 hk6)))
            clear hown6 hgrow hat hlt6 hf6 hk6 hF6 hq6 ho6 hl6
            go_wp2_with fail
            exact ⟨⟨0 + 1, _, by omega, rfl, by simp, Lib.hid HFIN.out⟩, by simp [intOf]⟩
          · obtain rfl : 1 = tt := by omega
            have hpj := (total_take l HP.out).2
            have hpl : putL cs (l.take (j + 1)) = putL cs (l.take j) ++ fb x 1 := by
              rw [hpj]
              unfold putL
              rw [List.flatMap_append]
              simp [valC, HX.out]
            have hfull : (fb x 1).take 1 = fb x 1 := List.take_of_length_le (Nat.le_of_eq (fb_len _ _))
            have hJ2 := hJ.out
            rw [hfull, List.append_assoc, ← hpl] at hJ2
            have HJ2 := Lib.hid hJ2
            clear hJ2 hfull hpl hpj htb htt
            go_wp2_with fail
            exact ⟨⟨j + 1, _, by omega, rfl, by go_num, Lib.hid ⟨HJ2.out.1, HJ2.out.2.1, fun q hq => (HJ2.out.2.2.1 q hq).1⟩⟩, by simp [intOf]; omega⟩
      · skip
        have hxb : x < 65536 := by simpa using hx1
        have hdv : (x / 65536 != 0) = false := by simp; omega
        have hfb3 := (Fr.refl wr.heap.size (fun q => vo.ownBlock = some q) wr).alloc (Nat.le_refl _) (.cells #[.pointer (some ⟨B, off, none⟩), .int .i64 2] 73)
        have kf3 := World.alloc_heap_new wr (.cells #[.pointer (some ⟨B, off, none⟩), .int .i64 2] 73)
        go_wp2_with fail
        go_quiet (fail)
        obtain ⟨fk, hfk⟩ : ∃ fk, wr.heap.size = fk := ⟨_, rfl⟩
        have hF4 := (HI.out.2.1.trans (hfb3.mono HI.out.2.1.size fun _ _ e => e)).drewN nq
        have hk4 : ((wr.alloc (.cells #[.pointer (some ⟨B, off, none⟩), .int .i64 2] 73)).drewN nq).heap[wr.heap.size]? = some (.cells #[.pointer (some ⟨B, off, none⟩), .int .i64 2] 73 (0, 0)) := kf3
        have ho3 := ownsRow_below HI.out.1 ((Below.refl wr.heap.size wr).alloc (Nat.le_refl _) (.cells #[.pointer (some ⟨B, off, none⟩), .int .i64 2] 73))
        have ho4 : ((wr.alloc (.cells #[.pointer (some ⟨B, off, none⟩), .int .i64 2] 73)).drewN nq).ownsRow base 5 1 u0 (bs ++ putL cs (l.take j)).length (byV (bs ++ putL cs (l.take j))) := ho3
        rw [hfk] at hk4 ⊢
        generalize (wr.alloc (.cells #[.pointer (some ⟨B, off, none⟩), .int .i64 2] 73)).drewN nq = w4 at hF4 hk4 ho4 ⊢
        have HFK := Lib.hid hfk
        have HF4 := Lib.hid hF4; have HK4 := Lib.hid hk4; have HO4 := Lib.hid ho4
        have hfkV : w.heap.size ≤ fk := hfk ▸ HI.out.2.1.size
        have lf4 := lt_of_block hk4
        have e1 := cell_of_block hk4 1
        clear hfb3 kf3 hF4 hk4 ho3 ho4 hfk c0 c1 d0
        go_wp2_with fail
        go_loopw [0, 8] (fun ov kv w5 => ∃ (tt : Nat) (vk : Value), tt ≤ 2 ∧ ov = vk ∧ kv = .int .i64 ((2 : Nat) - 1 - (tt : Int)) ∧ Hid (w5.ownsRow base 5 1 vk (bs ++ putL cs (l.take j) ++ (fb x 2).take tt).length (byV (bs ++ putL cs (l.take j) ++ (fb x 2).take tt)) ∧ Fr w.heap.size (fun q => vo.ownBlock = some q) w w5 ∧ (∀ q, vk.ownBlock = some q → (vo.ownBlock = some q ∨ w.heap.size ≤ q) ∧ q ≠ fk) ∧ w5.heap[fk]? = some (.cells #[.pointer (some ⟨B, off, none⟩), .int .i64 2] 73 (0, 0)))) (fun _ kv _ => (intOf kv + 1).toNat)
        case atStart => exact ⟨0, _, Nat.zero_le _, rfl, by simp, Lib.hid ⟨by simpa using HO4.out, HF4.out, fun q hq => ⟨HI.out.2.2 q hq, fun e => by have := (HI.out.1.lt q hq).2; have := HFK.out; omega⟩, HK4.out⟩⟩
        case round =>
          obtain ⟨tt, vk, htt, hvk, rfl, hJ⟩ := hrel
          subst hvk
          by_cases htb : tt < 2
          · have hk5 := hJ.out.2.2.2
            have e0 := cell_of_block hk5 0; have le0 := lt_of_block hk5
            have hB5 := (hJ.out.2.1.block B (lt_of_block HB.out) hBV).trans HB.out
            have d0 := (cell_of_block hB5 off).trans HX.out
            have lB5 := lt_of_block hB5
            clear hk5 hB5
            have htc : tt = 0 ∨ tt = 1 := by omega
            rcases htc with rfl | rfl
            · skip
              have hk0 : (((2 : Nat) : Int) - 1 - ((0 : Nat) : Int)) = 1 := by omega
              rw [hk0]
              obtain ⟨av, cv, hvo⟩ := own_form hJ.out.1
              have hown5 := hJ.out.1
              have htk : (fb x 2).take (0 + 1) = (fb x 2).take 0 ++ [x / 256] := by
                simp [fb]; omega
              obtain ⟨m, hm⟩ : ∃ m, (bs ++ putL cs (l.take j) ++ (fb x 2).take 0).length = m := ⟨_, rfl⟩
              have hm2 : m ≤ 1500 := by
                rw [← hm]
                have h1 := total_le2 HL.out j
                have h2 := putL_len cs (l.take j)
                have h3 := HN.out
                have h4 : ((fb x 2).take 0).length ≤ 2 := by simp [fb]
                simp only [List.length_append]
                omega
              rw [hvo] at hown5 ⊢
              rw [hm] at hown5 hvo ⊢
              have HO5 := Lib.hid hown5; have HM := Lib.hid hm; have HVO := Lib.hid hvo; have HTK := Lib.hid htk
              have hw5 : base ≤ wr.heap.size := Nat.le_trans hbase hJ.out.2.1.size
              clear hown5 hm hvo htk hk0
              go_wp2_with (at_builtin; refine wpList_append_lies _ rfl _ _ _ rfl base 5 i0 _ 1 1 Try.underlying74 hi0 hz0 hz1 hz2 rfl (by omega) (.slice av m cv) m _ rfl (HO5.out.alloc _) ⟨wr.heap.size, 0, none⟩ 1 1 [.int .u8 (x / 256)] rfl rfl (World.news_of_block (cs := #[.int .u8 (x / 256)]) (t := 5) (fr := (0, 0)) (World.alloc_heap_new wr _)) (by simp [Value.oneCell']) (by omega) (by unfold maxLen; omega) (by omega) (by simp; omega) (wr.heap.size + 1) (by simp) ?_)
              intro gg cap' w6 hown6 hgrow hat hlt6
              have hf6 : Fr wr.heap.size (fun q => (Value.slice av m cv).ownBlock = some q) wr w6 := Fr.grown ((Fr.refl _ _ _).alloc (Nat.le_refl _) _) hgrow (by simp) (fun q e => .inr e)
              have hk6 : w6.heap[fk]? = some (.cells #[.pointer (some ⟨B, off, none⟩), .int .i64 2] 73 (0, 0)) := (hf6.block fk le0 (fun e => (hJ.out.2.2.1 fk (by rw [HVO.out]; exact e)).2 rfl)).trans hJ.out.2.2.2
              have hF6 : Fr w.heap.size (fun q => vo.ownBlock = some q) w w6 := hJ.out.2.1.trans (hf6.mono hJ.out.2.1.size fun q hq e => (hJ.out.2.2.1 q (by rw [HVO.out]; exact e)).1.elim (fun h => h) (fun h => by omega))
              have hsz5 := hJ.out.2.1.size
              have hq6 : ∀ q, (Value.slice (some ⟨gg, 0, none⟩) (m + 1) cap').ownBlock = some q → (vo.ownBlock = some q ∨ w.heap.size ≤ q) ∧ q ≠ fk := fun q hq => by
                simp [Value.ownBlock] at hq
                subst hq
                rcases hat with h | h
                · exact hJ.out.2.2.1 gg (by rw [HVO.out]; exact h)
                · exact ⟨.inr (by omega), by omega⟩
              have hl6 : (bs ++ putL cs (l.take j) ++ (fb x 2).take (0 + 1)).length = m + 1 := by rw [HTK.out, ← List.append_assoc, List.length_append, HM.out]; rfl
              have ho6 : w6.ownsRow base 5 1 (.slice (some ⟨gg, 0, none⟩) (m + 1) cap') (bs ++ putL cs (l.take j) ++ (fb x 2).take (0 + 1)).length (byV (bs ++ putL cs (l.take j) ++ (fb x 2).take (0 + 1))) := by
                rw [hl6, HTK.out, ← List.append_assoc]
                have := hown6
                unfold byV at this ⊢
                simpa using this
              have HFIN := Lib.hid (And.intro ho6 (And.intro hF6 (And.intro hq6 hk6)))
              clear hown6 hgrow hat hlt6 hf6 hk6 hF6 hq6 ho6 hl6
              go_wp2_with fail
              exact ⟨⟨0 + 1, _, by omega, rfl, by simp, Lib.hid HFIN.out⟩, by simp [intOf]⟩
            · skip
              have hk0 : (((2 : Nat) : Int) - 1 - ((1 : Nat) : Int)) = 0 := by omega
              rw [hk0]
              obtain ⟨av, cv, hvo⟩ := own_form hJ.out.1
              have hown5 := hJ.out.1
              have htk : (fb x 2).take (1 + 1) = (fb x 2).take 1 ++ [x % 256] := by
                simp [fb]
              obtain ⟨m, hm⟩ : ∃ m, (bs ++ putL cs (l.take j) ++ (fb x 2).take 1).length = m := ⟨_, rfl⟩
              have hm2 : m ≤ 1500 := by
                rw [← hm]
                have h1 := total_le2 HL.out j
                have h2 := putL_len cs (l.take j)
                have h3 := HN.out
                have h4 : ((fb x 2).take 1).length ≤ 2 := by simp [fb]
                simp only [List.length_append]
                omega
              rw [hvo] at hown5 ⊢
              rw [hm] at hown5 hvo ⊢
              have HO5 := Lib.hid hown5; have HM := Lib.hid hm; have HVO := Lib.hid hvo; have HTK := Lib.hid htk
              have hw5 : base ≤ wr.heap.size := Nat.le_trans hbase hJ.out.2.1.size
              clear hown5 hm hvo htk hk0
              go_wp2_with (at_builtin; refine wpList_append_lies _ rfl _ _ _ rfl base 5 i0 _ 1 1 Try.underlying74 hi0 hz0 hz1 hz2 rfl (by omega) (.slice av m cv) m _ rfl (HO5.out.alloc _) ⟨wr.heap.size, 0, none⟩ 1 1 [.int .u8 (x % 256)] rfl rfl (World.news_of_block (cs := #[.int .u8 (x % 256)]) (t := 5) (fr := (0, 0)) (World.alloc_heap_new wr _)) (by simp [Value.oneCell']) (by omega) (by unfold maxLen; omega) (by omega) (by simp; omega) (wr.heap.size + 1) (by simp) ?_)
              intro gg cap' w6 hown6 hgrow hat hlt6
              have hf6 : Fr wr.heap.size (fun q => (Value.slice av m cv).ownBlock = some q) wr w6 := Fr.grown ((Fr.refl _ _ _).alloc (Nat.le_refl _) _) hgrow (by simp) (fun q e => .inr e)
              have hk6 : w6.heap[fk]? = some (.cells #[.pointer (some ⟨B, off, none⟩), .int .i64 2] 73 (0, 0)) := (hf6.block fk le0 (fun e => (hJ.out.2.2.1 fk (by rw [HVO.out]; exact e)).2 rfl)).trans hJ.out.2.2.2
              have hF6 : Fr w.heap.size (fun q => vo.ownBlock = some q) w w6 := hJ.out.2.1.trans (hf6.mono hJ.out.2.1.size fun q hq e => (hJ.out.2.2.1 q (by rw [HVO.out]; exact e)).1.elim (fun h => h) (fun h => by omega))
              have hsz5 := hJ.out.2.1.size
              have hq6 : ∀ q, (Value.slice (some ⟨gg, 0, none⟩) (m + 1) cap').ownBlock = some q → (vo.ownBlock = some q ∨ w.heap.size ≤ q) ∧ q ≠ fk := fun q hq => by
                simp [Value.ownBlock] at hq
                subst hq
                rcases hat with h | h
                · exact hJ.out.2.2.1 gg (by rw [HVO.out]; exact h)
                · exact ⟨.inr (by omega), by omega⟩
              have hl6 : (bs ++ putL cs (l.take j) ++ (fb x 2).take (1 + 1)).length = m + 1 := by rw [HTK.out, ← List.append_assoc, List.length_append, HM.out]; rfl
              have ho6 : w6.ownsRow base 5 1 (.slice (some ⟨gg, 0, none⟩) (m + 1) cap') (bs ++ putL cs (l.take j) ++ (fb x 2).take (1 + 1)).length (byV (bs ++ putL cs (l.take j) ++ (fb x 2).take (1 + 1))) := by
                rw [hl6, HTK.out, ← List.append_assoc]
                have := hown6
                unfold byV at this ⊢
                simpa using this
              have HFIN := Lib.hid (And.intro ho6 (And.intro hF6 (And.intro hq6 hk6)))
              clear hown6 hgrow hat hlt6 hf6 hk6 hF6 hq6 ho6 hl6
              go_wp2_with fail
              exact ⟨⟨1 + 1, _, by omega, rfl, by simp, Lib.hid HFIN.out⟩, by simp [intOf]⟩
          · obtain rfl : 2 = tt := by omega
            have hpj := (total_take l HP.out).2
            have hpl : putL cs (l.take (j + 1)) = putL cs (l.take j) ++ fb x 2 := by
              rw [hpj]
              unfold putL
              rw [List.flatMap_append]
              simp [valC, HX.out]
            have hfull : (fb x 2).take 2 = fb x 2 := List.take_of_length_le (Nat.le_of_eq (fb_len _ _))
            have hJ2 := hJ.out
            rw [hfull, List.append_assoc, ← hpl] at hJ2
            have HJ2 := Lib.hid hJ2
            clear hJ2 hfull hpl hpj htb htt
            go_wp2_with fail
            exact ⟨⟨j + 1, _, by omega, rfl, by go_num, Lib.hid ⟨HJ2.out.1, HJ2.out.2.1, fun q hq => (HJ2.out.2.2.1 q hq).1⟩⟩, by simp [intOf]; omega⟩
    · obtain rfl : n = j := by omega
      have hall : l.take n = l := by rw [← HN.out]; exact List.take_length
      have hI2 := hI.out
      rw [hall] at hI2
      have HI2 := Lib.hid hI2
      clear hall hI2 hlt hj
      go_wp2_with fail
      refine bodyPost_ret (results_tmp2 rfl _ _ _) rfl ?_
      exact ⟨_, rfl, HI2.out⟩
end Go.Proofs.Ytghfdiaaonjofaa
