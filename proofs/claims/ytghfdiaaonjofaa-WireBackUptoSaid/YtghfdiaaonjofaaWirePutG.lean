/-
  wire: put, of any fields: where they lie does not matter.
-/
import Derived.Test.YtghfdiaaonjofaaWirePut
set_option linter.unusedVariables false
set_option linter.unusedSimpArgs false
namespace Go.Proofs.Ytghfdiaaonjofaa
open Go.RowKit

/-- a field: where its number lies, its bytes, and the number -/
structure Fd where
  blk : Nat
  off : Nat
  b : Nat
  x : Int
def Fd.cells (f : Fd) : List Value := [.pointer (some ⟨f.blk, f.off, none⟩), .int .i64 f.b]
def Fd.fit (f : Fd) : Bool := decide (0 ≤ f.x ∧ f.x < 256 ^ f.b)
def FRow (w : World) (v : Value) (l : List Fd) : Prop :=
  ∃ a cap, v = .slice a l.length cap ∧ ∀ (i : Nat) (f : Fd), l[i]? = some f → ∃ g, a = some ⟨g, 0, none⟩ ∧ g < w.heap.size ∧ w.cell? ⟨g, i * 2, none⟩ = some (.pointer (some ⟨f.blk, f.off, none⟩)) ∧ w.cell? ⟨g, i * 2 + 1, none⟩ = some (.int .i64 f.b)
def putF (l : List Fd) : List Int := l.flatMap fun f => fb f.x f.b
theorem putF_snoc (l : List Fd) {j : Nat} {f : Fd} (h : l[j]? = some f) : putF (l.take (j + 1)) = putF (l.take j) ++ fb f.x f.b := by
  have e : l.take (j + 1) = l.take j ++ [f] := by rw [List.take_add_one, h]; rfl
  rw [e]; unfold putF; rw [List.flatMap_append]; simp
theorem putF_le : ∀ (l : List Fd), (∀ f ∈ l, f.b ≤ 3) → ∀ j, (putF (l.take j)).length ≤ 3 * l.length
  | [], _, j => by simp [putF]
  | f :: r, h, 0 => by simp [putF]
  | f :: r, h, j + 1 => by
    have ih := putF_le r (fun g hg => h g (List.mem_cons_of_mem _ hg)) j
    have h1 := h f (List.mem_cons_self ..)
    unfold putF at ih ⊢
    rw [List.take_succ_cons, List.flatMap_cons, List.length_append, fb_len, List.length_cons]
    omega
theorem all_take {l : List Fd} {j : Nat} {f : Fd} (h : l[j]? = some f) (hj : (l.take j).all Fd.fit = true) (hf : f.fit = true) : (l.take (j + 1)).all Fd.fit = true := by
  have e : l.take (j + 1) = l.take j ++ [f] := by rw [List.take_add_one, h]; rfl
  rw [e, List.all_append, hj]; simp [hf]
theorem all_not {l : List Fd} {j : Nat} {f : Fd} (h : l[j]? = some f) (hf : f.fit = false) : l.all Fd.fit = false := by
  rw [Bool.eq_false_iff]
  intro h2
  rw [List.all_eq_true] at h2
  have := h2 f (List.mem_of_getElem? h)
  rw [hf] at this; cases this
def PutPost (base : Nat) (l : List Fd) (vo : Value) (bs : List Int) (w : World) (e : Ending) (w' : World) : Prop :=
  ∃ v', e = .returned (.tuple #[v', .bool (l.all Fd.fit)]) ∧ ((l.all Fd.fit = true ∧ w'.ownsRow base 5 1 v' (bs ++ putF l).length (byV (bs ++ putF l))) ∨ (l.all Fd.fit = false ∧ v' = .slice none 0 0)) ∧ Fr w.heap.size (fun q => vo.ownBlock = some q) w w'
set_option maxRecDepth 100000 in
set_option maxHeartbeats 4000000 in
theorem putG_any (base : Nat) (l : List Fd) (v vo : Value) (bs : List Int) (w : World) (hf : FRow w v l) (ho : w.ownsRow base 5 1 vo bs.length (byV bs))
    (hbase : base ≤ w.heap.size) (hsep : ∀ q, vo.ownBlock = some q → (∀ f ∈ l, q ≠ f.blk) ∧ (l ≠ [] → ∀ g, v.ownBlock = some g → q ≠ g)) (hl : ∀ f ∈ l, 1 ≤ f.b ∧ f.b ≤ 3 ∧ f.blk < w.heap.size ∧ w.cell? ⟨f.blk, f.off, none⟩ = some (.int .i64 f.x)) (hln : l.length ≤ 10000) (hbs : bs.length ≤ 1000) :
    Calls Try.prog 22 #[vo, v] w (PutPost base l vo bs w) := by
  obtain ⟨a, cap, rfl, hc⟩ := hf
  obtain ⟨n, hn⟩ : ∃ n, l.length = n := ⟨_, rfl⟩
  obtain ⟨oF, hoF⟩ : ∃ oF, vo.ownBlock = oF := ⟨_, rfl⟩
  have HN := Lib.hid hn; have HC := Lib.hid hc; have HL := Lib.hid hl; have HO := Lib.hid ho; have HSEP := Lib.hid hsep
  have HB3 := Lib.hid (putF_le l fun f hf => (hl f hf).2.1)
  rw [hn] at hln ⊢
  obtain ⟨i0, hi0, hz0, hz1, hz2⟩ := info_parts infoBy
  clear hn hc hl ho hsep hoF
  go_enter Try.func22, Try.ntmps22
  go_wp2_with fail
  go_loopw [0, 11] (fun ov i wr => ∃ (j : Nat) (vj : Value), j ≤ n ∧ ov = vj ∧ i = .int .i64 j ∧ Hid ((l.take j).all Fd.fit = true ∧ wr.ownsRow base 5 1 vj (bs ++ putF (l.take j)).length (byV (bs ++ putF (l.take j))) ∧ Fr w.heap.size (fun q => vo.ownBlock = some q) w wr ∧ ∀ q, vj.ownBlock = some q → vo.ownBlock = some q ∨ w.heap.size ≤ q)) (fun _ i _ => n - (intOf i).toNat)
  case atStart => exact ⟨0, _, Nat.zero_le _, rfl, rfl, Lib.hid ⟨rfl, by simpa [putF] using HO.out, Fr.refl _ _ _, fun q hq => .inl hq⟩⟩
  case round =>
    obtain ⟨j, vj, hj, hvj, rfl, hI⟩ := hrel
    subst hvj
    by_cases hlt : j < n
    · obtain ⟨⟨B, off, b, x⟩, hp⟩ : ∃ p, l[j]? = some p := ⟨_, List.getElem?_eq_getElem (by rw [HN.out]; exact hlt)⟩
      obtain ⟨g, rfl, hg2, c0, c1⟩ := HC.out j _ hp
      obtain ⟨hb1, hb2, hBs, hx⟩ := HL.out _ (List.mem_of_getElem? hp)
      have hfr := hI.out.2.2.1
      have hgV : vo.ownBlock ≠ some g := fun e => (HSEP.out g e).2 (fun h => by rw [h] at hp; simp at hp) g rfl rfl
      have hBV : vo.ownBlock ≠ some B := fun e => (HSEP.out B e).1 _ (List.mem_of_getElem? hp) rfl
      have hgw := Nat.lt_of_lt_of_le hg2 hfr.size
      have c0 := (hfr.cell (p := ⟨g, j * 2, none⟩) hg2 hgV).trans c0
      have c1 := (hfr.cell (p := ⟨g, j * 2 + 1, none⟩) hg2 hgV).trans c1
      have d0 := (hfr.cell (p := ⟨B, off, none⟩) hBs hBV).trans hx
      have lB := Nat.lt_of_lt_of_le hBs hfr.size
      simp only at hb1 hb2 c0 c1 d0 lB hBs hx
      have HP := Lib.hid hp; have HX := Lib.hid hx
      have HI := hI
      clear hp hx hfr hI
      have hfb3 := (Fr.refl wr.heap.size (fun q => vo.ownBlock = some q) wr).alloc (Nat.le_refl _) (.cells #[.pointer (some ⟨B, off, none⟩), .int .i64 b] 73)
      have kf3 := World.alloc_heap_new wr (.cells #[.pointer (some ⟨B, off, none⟩), .int .i64 b] 73)
      have lf3 : wr.heap.size < (wr.alloc (.cells #[.pointer (some ⟨B, off, none⟩), .int .i64 b] 73)).heap.size := by rw [World.size_alloc]; omega
      have d3 : (wr.alloc (.cells #[.pointer (some ⟨B, off, none⟩), .int .i64 b] 73)).cell? ⟨B, off, none⟩ = some (.int .i64 x) := (((Below.refl wr.heap.size wr).alloc (Nat.le_refl _) _).cell (p := ⟨B, off, none⟩) lB).trans d0
      have lB3 : B < (wr.alloc (.cells #[.pointer (some ⟨B, off, none⟩), .int .i64 b] 73)).heap.size := by rw [World.size_alloc]; omega
      have ho3 := ownsRow_below HI.out.2.1 ((Below.refl wr.heap.size wr).alloc (Nat.le_refl _) (.cells #[.pointer (some ⟨B, off, none⟩), .int .i64 b] 73))
      go_upto_region 4 with fail
      generalize wr.alloc (.cells #[.pointer (some ⟨B, off, none⟩), .int .i64 b] 73) = w3 at hfb3 kf3 lf3 d3 lB3 ho3 ⊢
      obtain ⟨fk, hfk⟩ : ∃ fk, wr.heap.size = fk := ⟨_, rfl⟩
      rw [hfk] at kf3 lf3 ⊢
      have HFK := Lib.hid hfk
      have hfkV : w.heap.size ≤ fk := hfk ▸ HI.out.2.2.1.size
      have HF3 := Lib.hid (HI.out.2.2.1.trans (hfb3.mono HI.out.2.2.1.size fun _ _ e => e)); have HK3 := Lib.hid kf3; have HO3 := Lib.hid ho3
      have e0 := cell_of_block kf3 0
      have e1 := cell_of_block kf3 1
      clear hfb3 kf3 ho3 hfk c0 c1 d0
      by_cases hx0 : x < 0
      · have hd : decide (x < 0) = true := by simpa using hx0
        have hno : l.all Fd.fit = false := all_not HP.out (by unfold Fd.fit; simp; omega)
        have HQ := Lib.hid (show ∀ nq, PutPost base l vo bs w (.returned (.tuple #[.slice none 0 0, .bool false])) (w3.drewN nq) from fun nq => by
          unfold PutPost
          exact ⟨_, by rw [hno], .inr ⟨hno, rfl⟩, HF3.out.drewN nq⟩)
        clear hno hx0
        go_quiet (fail)
        go_wp2_with fail
        refine bodyPost_ret (results_tmp2 rfl _ _ _) rfl ?_
        exact HQ.out nq
      have hxn : decide (x < 0) = false := by simp; omega
      have hb : b = 1 ∨ b = 2 ∨ b = 3 := by omega
      clear hb1 hb2
      rcases hb with rfl | rfl | rfl
      · by_cases hxC : x < 256
        · skip
          have hfit : Fd.fit ⟨B, off, 1, x⟩ = true := by show decide (0 ≤ x ∧ x < (256:Int) ^ 1) = true; rw [show (256:Int) ^ 1 = 256 from by decide]; exact decide_eq_true ⟨by omega, hxC⟩
          have HFIT := Lib.hid (all_take HP.out HI.out.1 hfit)
          have hdv : (x / 256 != 0) = false := by simp; omega
          clear hfit
          go_quiet (fail)
          have hF4 := HF3.out.drewN nq
          have hk4 : (w3.drewN nq).heap[fk]? = some (.cells #[.pointer (some ⟨B, off, none⟩), .int .i64 1] 73 (0, 0)) := HK3.out
          have ho4 : (w3.drewN nq).ownsRow base 5 1 u0 (bs ++ putF (l.take j)).length (byV (bs ++ putF (l.take j))) := HO3.out
          have lf4 : fk < (w3.drewN nq).heap.size := lf3
          clear e0 e1 d3 lB3 lf3 HF3 HK3 HO3
          generalize w3.drewN nq = w4 at hF4 hk4 ho4 lf4 ⊢
          have HF4 := Lib.hid hF4; have HK4 := Lib.hid hk4; have HO4 := Lib.hid ho4
          have e1 := cell_of_block hk4 1
          clear hF4 hk4 ho4
          go_wp2_with fail
          go_loopw [0, 8] (fun ov kv w5 => ∃ (tt : Nat) (vk : Value), tt ≤ 1 ∧ ov = vk ∧ kv = .int .i64 ((1 : Nat) - 1 - (tt : Int)) ∧ Hid (w5.ownsRow base 5 1 vk (bs ++ putF (l.take j) ++ (fb x 1).take tt).length (byV (bs ++ putF (l.take j) ++ (fb x 1).take tt)) ∧ Fr w.heap.size (fun q => vo.ownBlock = some q) w w5 ∧ (∀ q, vk.ownBlock = some q → (vo.ownBlock = some q ∨ w.heap.size ≤ q) ∧ q ≠ fk) ∧ w5.heap[fk]? = some (.cells #[.pointer (some ⟨B, off, none⟩), .int .i64 1] 73 (0, 0)))) (fun _ kv _ => (intOf kv + 1).toNat)
          case atStart => exact ⟨0, _, Nat.zero_le _, rfl, by simp, Lib.hid ⟨by simpa using HO4.out, HF4.out, fun q hq => ⟨HI.out.2.2.2 q hq, fun e => by have := (HI.out.2.1.lt q hq).2; have := HFK.out; omega⟩, HK4.out⟩⟩
          case round =>
            obtain ⟨tt, vk, htt, hvk, rfl, hJ⟩ := hrel
            subst hvk
            by_cases htb : tt < 1
            · have hk5 := hJ.out.2.2.2
              have e0 := cell_of_block hk5 0; have le0 := lt_of_block hk5
              have d0 := (hJ.out.2.1.cell (p := ⟨B, off, none⟩) hBs hBV).trans HX.out
              have lB5 := Nat.lt_of_lt_of_le hBs hJ.out.2.1.size
              clear hk5
              have htc : tt = 0 := by omega
              subst htc
              skip
              have hk0 : (((1 : Nat) : Int) - 1 - ((0 : Nat) : Int)) = 0 := by omega
              rw [hk0]
              obtain ⟨av, cv, hvo⟩ := own_form hJ.out.1
              have hown5 := hJ.out.1
              have htk : (fb x 1).take (0 + 1) = (fb x 1).take 0 ++ [x] := by
                first | (simp [fb]; done) | (simp [fb]; omega)
              obtain ⟨m, hm⟩ : ∃ m, (bs ++ putF (l.take j) ++ (fb x 1).take 0).length = m := ⟨_, rfl⟩
              have hm2 : m ≤ 40000 := by
                rw [← hm]
                have h1 := HB3.out j
                have h3 := HN.out
                have h4 : ((fb x 1).take 0).length ≤ 3 := by simp [fb]
                simp only [List.length_append]
                omega
              rw [hvo] at hown5 ⊢
              rw [hm] at hown5 hvo ⊢
              have HO5 := Lib.hid hown5; have HM := Lib.hid hm; have HVO := Lib.hid hvo; have HTK := Lib.hid htk
              have hw5 : base ≤ wr.heap.size := Nat.le_trans hbase hJ.out.2.1.size
              clear hown5 hm hvo htk hk0
              go_wp2_with (at_builtin; refine wpList_append_lies _ rfl _ _ _ rfl base 5 i0 _ 1 1 Try.underlying74 hi0 hz0 hz1 hz2 rfl (by omega) (.slice av m cv) m _ rfl (HO5.out.alloc _) ⟨wr.heap.size, 0, none⟩ 1 1 [.int .u8 (x)] rfl rfl (World.news_of_block (cs := #[.int .u8 (x)]) (t := 5) (fr := (0, 0)) (World.alloc_heap_new wr _)) (by simp [Value.oneCell']) (by omega) (by unfold maxLen; omega) (by omega) (by simp; omega) (wr.heap.size + 1) (by simp) ?_)
              intro gg cap' w6 hown6 hgrow hat hlt6
              have hf6 : Fr wr.heap.size (fun q => (Value.slice av m cv).ownBlock = some q) wr w6 := Fr.grown ((Fr.refl _ _ _).alloc (Nat.le_refl _) _) hgrow (by simp) (fun q e => .inr e)
              have hk6 : w6.heap[fk]? = some (.cells #[.pointer (some ⟨B, off, none⟩), .int .i64 1] 73 (0, 0)) := (hf6.block fk le0 (fun e => (hJ.out.2.2.1 fk (by rw [HVO.out]; exact e)).2 rfl)).trans hJ.out.2.2.2
              have hF6 : Fr w.heap.size (fun q => vo.ownBlock = some q) w w6 := hJ.out.2.1.trans (hf6.mono hJ.out.2.1.size fun q hq e => (hJ.out.2.2.1 q (by rw [HVO.out]; exact e)).1.elim (fun h => h) (fun h => by omega))
              have hsz5 := hJ.out.2.1.size
              have hq6 : ∀ q, (Value.slice (some ⟨gg, 0, none⟩) (m + 1) cap').ownBlock = some q → (vo.ownBlock = some q ∨ w.heap.size ≤ q) ∧ q ≠ fk := fun q hq => by
                simp [Value.ownBlock] at hq
                subst hq
                rcases hat with h | h
                · exact hJ.out.2.2.1 gg (by rw [HVO.out]; exact h)
                · exact ⟨.inr (by omega), by omega⟩
              have hl6 : (bs ++ putF (l.take j) ++ (fb x 1).take (0 + 1)).length = m + 1 := by rw [HTK.out, ← List.append_assoc, List.length_append, HM.out]; rfl
              have ho6 : w6.ownsRow base 5 1 (.slice (some ⟨gg, 0, none⟩) (m + 1) cap') (bs ++ putF (l.take j) ++ (fb x 1).take (0 + 1)).length (byV (bs ++ putF (l.take j) ++ (fb x 1).take (0 + 1))) := by
                rw [hl6, HTK.out, ← List.append_assoc]
                have := hown6
                unfold byV at this ⊢
                simpa using this
              have HFIN := Lib.hid (And.intro ho6 (And.intro hF6 (And.intro hq6 hk6)))
              clear hown6 hgrow hat hlt6 hf6 hk6 hF6 hq6 ho6 hl6
              go_wp2_with fail
              exact ⟨⟨0 + 1, _, by omega, rfl, by simp, Lib.hid HFIN.out⟩, by simp [intOf]⟩
            · obtain rfl : 1 = tt := by omega
              have hpl := putF_snoc l HP.out
              simp only at hpl
              have hfull : (fb x 1).take 1 = fb x 1 := List.take_of_length_le (Nat.le_of_eq (fb_len _ _))
              have hJ2 := hJ.out
              rw [hfull, List.append_assoc, ← hpl] at hJ2
              have HJ2 := Lib.hid hJ2
              clear hJ2 hfull hpl htb htt
              go_wp2_with fail
              exact ⟨⟨j + 1, _, by omega, rfl, by go_num, Lib.hid ⟨HFIT.out, HJ2.out.1, HJ2.out.2.1, fun q hq => (HJ2.out.2.2.1 q hq).1⟩⟩, by simp [intOf]; omega⟩
        · skip
          have hno : l.all Fd.fit = false := all_not HP.out (by show decide (0 ≤ x ∧ x < (256:Int) ^ 1) = false; rw [show (256:Int) ^ 1 = 256 from by decide]; exact decide_eq_false fun h => hxC h.2)
          have hdv : (x / 256 != 0) = true := by simp; omega
          have HQ := Lib.hid (show ∀ nq, PutPost base l vo bs w (.returned (.tuple #[.slice none 0 0, .bool false])) (w3.drewN nq) from fun nq => by
            unfold PutPost
            exact ⟨_, by rw [hno], .inr ⟨hno, rfl⟩, HF3.out.drewN nq⟩)
          clear hno
          go_quiet (fail)
          go_wp2_with fail
          refine bodyPost_ret (results_tmp2 rfl _ _ _) rfl ?_
          exact HQ.out nq
      · by_cases hxC : x < 65536
        · skip
          have hfit : Fd.fit ⟨B, off, 2, x⟩ = true := by show decide (0 ≤ x ∧ x < (256:Int) ^ 2) = true; rw [show (256:Int) ^ 2 = 65536 from by decide]; exact decide_eq_true ⟨by omega, hxC⟩
          have HFIT := Lib.hid (all_take HP.out HI.out.1 hfit)
          have hdv : (x / 65536 != 0) = false := by simp; omega
          clear hfit
          go_quiet (fail)
          have hF4 := HF3.out.drewN nq
          have hk4 : (w3.drewN nq).heap[fk]? = some (.cells #[.pointer (some ⟨B, off, none⟩), .int .i64 2] 73 (0, 0)) := HK3.out
          have ho4 : (w3.drewN nq).ownsRow base 5 1 u0 (bs ++ putF (l.take j)).length (byV (bs ++ putF (l.take j))) := HO3.out
          have lf4 : fk < (w3.drewN nq).heap.size := lf3
          clear e0 e1 d3 lB3 lf3 HF3 HK3 HO3
          generalize w3.drewN nq = w4 at hF4 hk4 ho4 lf4 ⊢
          have HF4 := Lib.hid hF4; have HK4 := Lib.hid hk4; have HO4 := Lib.hid ho4
          have e1 := cell_of_block hk4 1
          clear hF4 hk4 ho4
          go_wp2_with fail
          go_loopw [0, 8] (fun ov kv w5 => ∃ (tt : Nat) (vk : Value), tt ≤ 2 ∧ ov = vk ∧ kv = .int .i64 ((2 : Nat) - 1 - (tt : Int)) ∧ Hid (w5.ownsRow base 5 1 vk (bs ++ putF (l.take j) ++ (fb x 2).take tt).length (byV (bs ++ putF (l.take j) ++ (fb x 2).take tt)) ∧ Fr w.heap.size (fun q => vo.ownBlock = some q) w w5 ∧ (∀ q, vk.ownBlock = some q → (vo.ownBlock = some q ∨ w.heap.size ≤ q) ∧ q ≠ fk) ∧ w5.heap[fk]? = some (.cells #[.pointer (some ⟨B, off, none⟩), .int .i64 2] 73 (0, 0)))) (fun _ kv _ => (intOf kv + 1).toNat)
          case atStart => exact ⟨0, _, Nat.zero_le _, rfl, by simp, Lib.hid ⟨by simpa using HO4.out, HF4.out, fun q hq => ⟨HI.out.2.2.2 q hq, fun e => by have := (HI.out.2.1.lt q hq).2; have := HFK.out; omega⟩, HK4.out⟩⟩
          case round =>
            obtain ⟨tt, vk, htt, hvk, rfl, hJ⟩ := hrel
            subst hvk
            by_cases htb : tt < 2
            · have hk5 := hJ.out.2.2.2
              have e0 := cell_of_block hk5 0; have le0 := lt_of_block hk5
              have d0 := (hJ.out.2.1.cell (p := ⟨B, off, none⟩) hBs hBV).trans HX.out
              have lB5 := Nat.lt_of_lt_of_le hBs hJ.out.2.1.size
              clear hk5
              have htc : tt = 0 ∨ tt = 1 := by omega
              rcases htc with rfl | rfl
              · skip
                have hk0 : (((2 : Nat) : Int) - 1 - ((0 : Nat) : Int)) = 1 := by omega
                rw [hk0]
                obtain ⟨av, cv, hvo⟩ := own_form hJ.out.1
                have hown5 := hJ.out.1
                have htk : (fb x 2).take (0 + 1) = (fb x 2).take 0 ++ [x / 256] := by
                  first | (simp [fb]; done) | (simp [fb]; omega)
                obtain ⟨m, hm⟩ : ∃ m, (bs ++ putF (l.take j) ++ (fb x 2).take 0).length = m := ⟨_, rfl⟩
                have hm2 : m ≤ 40000 := by
                  rw [← hm]
                  have h1 := HB3.out j
                  have h3 := HN.out
                  have h4 : ((fb x 2).take 0).length ≤ 3 := by simp [fb]
                  simp only [List.length_append]
                  omega
                rw [hvo] at hown5 ⊢
                rw [hm] at hown5 hvo ⊢
                have HO5 := Lib.hid hown5; have HM := Lib.hid hm; have HVO := Lib.hid hvo; have HTK := Lib.hid htk
                have hw5 : base ≤ wr.heap.size := Nat.le_trans hbase hJ.out.2.1.size
                clear hown5 hm hvo htk hk0
                go_wp2_with (at_builtin; refine wpList_append_lies _ rfl _ _ _ rfl base 5 i0 _ 1 1 Try.underlying74 hi0 hz0 hz1 hz2 rfl (by omega) (.slice av m cv) m _ rfl (HO5.out.alloc _) ⟨wr.heap.size, 0, none⟩ 1 1 [.int .u8 (x / 256)] rfl rfl (World.news_of_block (cs := #[.int .u8 (x / 256)]) (t := 5) (fr := (0, 0)) (World.alloc_heap_new wr _)) (by simp [Value.oneCell']) (by omega) (by unfold maxLen; omega) (by omega) (by simp; omega) (wr.heap.size + 1) (by simp) ?_)
                intro gg cap' w6 hown6 hgrow hat hlt6
                have hf6 : Fr wr.heap.size (fun q => (Value.slice av m cv).ownBlock = some q) wr w6 := Fr.grown ((Fr.refl _ _ _).alloc (Nat.le_refl _) _) hgrow (by simp) (fun q e => .inr e)
                have hk6 : w6.heap[fk]? = some (.cells #[.pointer (some ⟨B, off, none⟩), .int .i64 2] 73 (0, 0)) := (hf6.block fk le0 (fun e => (hJ.out.2.2.1 fk (by rw [HVO.out]; exact e)).2 rfl)).trans hJ.out.2.2.2
                have hF6 : Fr w.heap.size (fun q => vo.ownBlock = some q) w w6 := hJ.out.2.1.trans (hf6.mono hJ.out.2.1.size fun q hq e => (hJ.out.2.2.1 q (by rw [HVO.out]; exact e)).1.elim (fun h => h) (fun h => by omega))
                have hsz5 := hJ.out.2.1.size
                have hq6 : ∀ q, (Value.slice (some ⟨gg, 0, none⟩) (m + 1) cap').ownBlock = some q → (vo.ownBlock = some q ∨ w.heap.size ≤ q) ∧ q ≠ fk := fun q hq => by
                  simp [Value.ownBlock] at hq
                  subst hq
                  rcases hat with h | h
                  · exact hJ.out.2.2.1 gg (by rw [HVO.out]; exact h)
                  · exact ⟨.inr (by omega), by omega⟩
                have hl6 : (bs ++ putF (l.take j) ++ (fb x 2).take (0 + 1)).length = m + 1 := by rw [HTK.out, ← List.append_assoc, List.length_append, HM.out]; rfl
                have ho6 : w6.ownsRow base 5 1 (.slice (some ⟨gg, 0, none⟩) (m + 1) cap') (bs ++ putF (l.take j) ++ (fb x 2).take (0 + 1)).length (byV (bs ++ putF (l.take j) ++ (fb x 2).take (0 + 1))) := by
                  rw [hl6, HTK.out, ← List.append_assoc]
                  have := hown6
                  unfold byV at this ⊢
                  simpa using this
                have HFIN := Lib.hid (And.intro ho6 (And.intro hF6 (And.intro hq6 hk6)))
                clear hown6 hgrow hat hlt6 hf6 hk6 hF6 hq6 ho6 hl6
                go_wp2_with fail
                exact ⟨⟨0 + 1, _, by omega, rfl, by simp, Lib.hid HFIN.out⟩, by simp [intOf]⟩
              · skip
                have hk0 : (((2 : Nat) : Int) - 1 - ((1 : Nat) : Int)) = 0 := by omega
                rw [hk0]
                obtain ⟨av, cv, hvo⟩ := own_form hJ.out.1
                have hown5 := hJ.out.1
                have htk : (fb x 2).take (1 + 1) = (fb x 2).take 1 ++ [x % 256] := by
                  first | (simp [fb]; done) | (simp [fb]; omega)
                obtain ⟨m, hm⟩ : ∃ m, (bs ++ putF (l.take j) ++ (fb x 2).take 1).length = m := ⟨_, rfl⟩
                have hm2 : m ≤ 40000 := by
                  rw [← hm]
                  have h1 := HB3.out j
                  have h3 := HN.out
                  have h4 : ((fb x 2).take 1).length ≤ 3 := by simp [fb]
                  simp only [List.length_append]
                  omega
                rw [hvo] at hown5 ⊢
                rw [hm] at hown5 hvo ⊢
                have HO5 := Lib.hid hown5; have HM := Lib.hid hm; have HVO := Lib.hid hvo; have HTK := Lib.hid htk
                have hw5 : base ≤ wr.heap.size := Nat.le_trans hbase hJ.out.2.1.size
                clear hown5 hm hvo htk hk0
                go_wp2_with (at_builtin; refine wpList_append_lies _ rfl _ _ _ rfl base 5 i0 _ 1 1 Try.underlying74 hi0 hz0 hz1 hz2 rfl (by omega) (.slice av m cv) m _ rfl (HO5.out.alloc _) ⟨wr.heap.size, 0, none⟩ 1 1 [.int .u8 (x % 256)] rfl rfl (World.news_of_block (cs := #[.int .u8 (x % 256)]) (t := 5) (fr := (0, 0)) (World.alloc_heap_new wr _)) (by simp [Value.oneCell']) (by omega) (by unfold maxLen; omega) (by omega) (by simp; omega) (wr.heap.size + 1) (by simp) ?_)
                intro gg cap' w6 hown6 hgrow hat hlt6
                have hf6 : Fr wr.heap.size (fun q => (Value.slice av m cv).ownBlock = some q) wr w6 := Fr.grown ((Fr.refl _ _ _).alloc (Nat.le_refl _) _) hgrow (by simp) (fun q e => .inr e)
                have hk6 : w6.heap[fk]? = some (.cells #[.pointer (some ⟨B, off, none⟩), .int .i64 2] 73 (0, 0)) := (hf6.block fk le0 (fun e => (hJ.out.2.2.1 fk (by rw [HVO.out]; exact e)).2 rfl)).trans hJ.out.2.2.2
                have hF6 : Fr w.heap.size (fun q => vo.ownBlock = some q) w w6 := hJ.out.2.1.trans (hf6.mono hJ.out.2.1.size fun q hq e => (hJ.out.2.2.1 q (by rw [HVO.out]; exact e)).1.elim (fun h => h) (fun h => by omega))
                have hsz5 := hJ.out.2.1.size
                have hq6 : ∀ q, (Value.slice (some ⟨gg, 0, none⟩) (m + 1) cap').ownBlock = some q → (vo.ownBlock = some q ∨ w.heap.size ≤ q) ∧ q ≠ fk := fun q hq => by
                  simp [Value.ownBlock] at hq
                  subst hq
                  rcases hat with h | h
                  · exact hJ.out.2.2.1 gg (by rw [HVO.out]; exact h)
                  · exact ⟨.inr (by omega), by omega⟩
                have hl6 : (bs ++ putF (l.take j) ++ (fb x 2).take (1 + 1)).length = m + 1 := by rw [HTK.out, ← List.append_assoc, List.length_append, HM.out]; rfl
                have ho6 : w6.ownsRow base 5 1 (.slice (some ⟨gg, 0, none⟩) (m + 1) cap') (bs ++ putF (l.take j) ++ (fb x 2).take (1 + 1)).length (byV (bs ++ putF (l.take j) ++ (fb x 2).take (1 + 1))) := by
                  rw [hl6, HTK.out, ← List.append_assoc]
                  have := hown6
                  unfold byV at this ⊢
                  simpa using this
                have HFIN := Lib.hid (And.intro ho6 (And.intro hF6 (And.intro hq6 hk6)))
                clear hown6 hgrow hat hlt6 hf6 hk6 hF6 hq6 ho6 hl6
                go_wp2_with fail
                exact ⟨⟨1 + 1, _, by omega, rfl, by simp, Lib.hid HFIN.out⟩, by simp [intOf]⟩
            · obtain rfl : 2 = tt := by omega
              have hpl := putF_snoc l HP.out
              simp only at hpl
              have hfull : (fb x 2).take 2 = fb x 2 := List.take_of_length_le (Nat.le_of_eq (fb_len _ _))
              have hJ2 := hJ.out
              rw [hfull, List.append_assoc, ← hpl] at hJ2
              have HJ2 := Lib.hid hJ2
              clear hJ2 hfull hpl htb htt
              go_wp2_with fail
              exact ⟨⟨j + 1, _, by omega, rfl, by go_num, Lib.hid ⟨HFIT.out, HJ2.out.1, HJ2.out.2.1, fun q hq => (HJ2.out.2.2.1 q hq).1⟩⟩, by simp [intOf]; omega⟩
        · skip
          have hno : l.all Fd.fit = false := all_not HP.out (by show decide (0 ≤ x ∧ x < (256:Int) ^ 2) = false; rw [show (256:Int) ^ 2 = 65536 from by decide]; exact decide_eq_false fun h => hxC h.2)
          have hdv : (x / 65536 != 0) = true := by simp; omega
          have HQ := Lib.hid (show ∀ nq, PutPost base l vo bs w (.returned (.tuple #[.slice none 0 0, .bool false])) (w3.drewN nq) from fun nq => by
            unfold PutPost
            exact ⟨_, by rw [hno], .inr ⟨hno, rfl⟩, HF3.out.drewN nq⟩)
          clear hno
          go_quiet (fail)
          go_wp2_with fail
          refine bodyPost_ret (results_tmp2 rfl _ _ _) rfl ?_
          exact HQ.out nq
      · by_cases hxC : x < 16777216
        · skip
          have hfit : Fd.fit ⟨B, off, 3, x⟩ = true := by show decide (0 ≤ x ∧ x < (256:Int) ^ 3) = true; rw [show (256:Int) ^ 3 = 16777216 from by decide]; exact decide_eq_true ⟨by omega, hxC⟩
          have HFIT := Lib.hid (all_take HP.out HI.out.1 hfit)
          have hdv : (x / 16777216 != 0) = false := by simp; omega
          clear hfit
          go_quiet (fail)
          have hF4 := HF3.out.drewN nq
          have hk4 : (w3.drewN nq).heap[fk]? = some (.cells #[.pointer (some ⟨B, off, none⟩), .int .i64 3] 73 (0, 0)) := HK3.out
          have ho4 : (w3.drewN nq).ownsRow base 5 1 u0 (bs ++ putF (l.take j)).length (byV (bs ++ putF (l.take j))) := HO3.out
          have lf4 : fk < (w3.drewN nq).heap.size := lf3
          clear e0 e1 d3 lB3 lf3 HF3 HK3 HO3
          generalize w3.drewN nq = w4 at hF4 hk4 ho4 lf4 ⊢
          have HF4 := Lib.hid hF4; have HK4 := Lib.hid hk4; have HO4 := Lib.hid ho4
          have e1 := cell_of_block hk4 1
          clear hF4 hk4 ho4
          go_wp2_with fail
          go_loopw [0, 8] (fun ov kv w5 => ∃ (tt : Nat) (vk : Value), tt ≤ 3 ∧ ov = vk ∧ kv = .int .i64 ((3 : Nat) - 1 - (tt : Int)) ∧ Hid (w5.ownsRow base 5 1 vk (bs ++ putF (l.take j) ++ (fb x 3).take tt).length (byV (bs ++ putF (l.take j) ++ (fb x 3).take tt)) ∧ Fr w.heap.size (fun q => vo.ownBlock = some q) w w5 ∧ (∀ q, vk.ownBlock = some q → (vo.ownBlock = some q ∨ w.heap.size ≤ q) ∧ q ≠ fk) ∧ w5.heap[fk]? = some (.cells #[.pointer (some ⟨B, off, none⟩), .int .i64 3] 73 (0, 0)))) (fun _ kv _ => (intOf kv + 1).toNat)
          case atStart => exact ⟨0, _, Nat.zero_le _, rfl, by simp, Lib.hid ⟨by simpa using HO4.out, HF4.out, fun q hq => ⟨HI.out.2.2.2 q hq, fun e => by have := (HI.out.2.1.lt q hq).2; have := HFK.out; omega⟩, HK4.out⟩⟩
          case round =>
            obtain ⟨tt, vk, htt, hvk, rfl, hJ⟩ := hrel
            subst hvk
            by_cases htb : tt < 3
            · have hk5 := hJ.out.2.2.2
              have e0 := cell_of_block hk5 0; have le0 := lt_of_block hk5
              have d0 := (hJ.out.2.1.cell (p := ⟨B, off, none⟩) hBs hBV).trans HX.out
              have lB5 := Nat.lt_of_lt_of_le hBs hJ.out.2.1.size
              clear hk5
              have htc : tt = 0 ∨ tt = 1 ∨ tt = 2 := by omega
              rcases htc with rfl | rfl | rfl
              · skip
                have hk0 : (((3 : Nat) : Int) - 1 - ((0 : Nat) : Int)) = 2 := by omega
                rw [hk0]
                obtain ⟨av, cv, hvo⟩ := own_form hJ.out.1
                have hown5 := hJ.out.1
                have htk : (fb x 3).take (0 + 1) = (fb x 3).take 0 ++ [x / 65536] := by
                  first | (simp [fb]; done) | (simp [fb]; omega)
                obtain ⟨m, hm⟩ : ∃ m, (bs ++ putF (l.take j) ++ (fb x 3).take 0).length = m := ⟨_, rfl⟩
                have hm2 : m ≤ 40000 := by
                  rw [← hm]
                  have h1 := HB3.out j
                  have h3 := HN.out
                  have h4 : ((fb x 3).take 0).length ≤ 3 := by simp [fb]
                  simp only [List.length_append]
                  omega
                rw [hvo] at hown5 ⊢
                rw [hm] at hown5 hvo ⊢
                have HO5 := Lib.hid hown5; have HM := Lib.hid hm; have HVO := Lib.hid hvo; have HTK := Lib.hid htk
                have hw5 : base ≤ wr.heap.size := Nat.le_trans hbase hJ.out.2.1.size
                clear hown5 hm hvo htk hk0
                go_wp2_with (at_builtin; refine wpList_append_lies _ rfl _ _ _ rfl base 5 i0 _ 1 1 Try.underlying74 hi0 hz0 hz1 hz2 rfl (by omega) (.slice av m cv) m _ rfl (HO5.out.alloc _) ⟨wr.heap.size, 0, none⟩ 1 1 [.int .u8 (x / 65536)] rfl rfl (World.news_of_block (cs := #[.int .u8 (x / 65536)]) (t := 5) (fr := (0, 0)) (World.alloc_heap_new wr _)) (by simp [Value.oneCell']) (by omega) (by unfold maxLen; omega) (by omega) (by simp; omega) (wr.heap.size + 1) (by simp) ?_)
                intro gg cap' w6 hown6 hgrow hat hlt6
                have hf6 : Fr wr.heap.size (fun q => (Value.slice av m cv).ownBlock = some q) wr w6 := Fr.grown ((Fr.refl _ _ _).alloc (Nat.le_refl _) _) hgrow (by simp) (fun q e => .inr e)
                have hk6 : w6.heap[fk]? = some (.cells #[.pointer (some ⟨B, off, none⟩), .int .i64 3] 73 (0, 0)) := (hf6.block fk le0 (fun e => (hJ.out.2.2.1 fk (by rw [HVO.out]; exact e)).2 rfl)).trans hJ.out.2.2.2
                have hF6 : Fr w.heap.size (fun q => vo.ownBlock = some q) w w6 := hJ.out.2.1.trans (hf6.mono hJ.out.2.1.size fun q hq e => (hJ.out.2.2.1 q (by rw [HVO.out]; exact e)).1.elim (fun h => h) (fun h => by omega))
                have hsz5 := hJ.out.2.1.size
                have hq6 : ∀ q, (Value.slice (some ⟨gg, 0, none⟩) (m + 1) cap').ownBlock = some q → (vo.ownBlock = some q ∨ w.heap.size ≤ q) ∧ q ≠ fk := fun q hq => by
                  simp [Value.ownBlock] at hq
                  subst hq
                  rcases hat with h | h
                  · exact hJ.out.2.2.1 gg (by rw [HVO.out]; exact h)
                  · exact ⟨.inr (by omega), by omega⟩
                have hl6 : (bs ++ putF (l.take j) ++ (fb x 3).take (0 + 1)).length = m + 1 := by rw [HTK.out, ← List.append_assoc, List.length_append, HM.out]; rfl
                have ho6 : w6.ownsRow base 5 1 (.slice (some ⟨gg, 0, none⟩) (m + 1) cap') (bs ++ putF (l.take j) ++ (fb x 3).take (0 + 1)).length (byV (bs ++ putF (l.take j) ++ (fb x 3).take (0 + 1))) := by
                  rw [hl6, HTK.out, ← List.append_assoc]
                  have := hown6
                  unfold byV at this ⊢
                  simpa using this
                have HFIN := Lib.hid (And.intro ho6 (And.intro hF6 (And.intro hq6 hk6)))
                clear hown6 hgrow hat hlt6 hf6 hk6 hF6 hq6 ho6 hl6
                go_wp2_with fail
                exact ⟨⟨0 + 1, _, by omega, rfl, by simp, Lib.hid HFIN.out⟩, by simp [intOf]⟩
              · skip
                have hk0 : (((3 : Nat) : Int) - 1 - ((1 : Nat) : Int)) = 1 := by omega
                rw [hk0]
                obtain ⟨av, cv, hvo⟩ := own_form hJ.out.1
                have hown5 := hJ.out.1
                have htk : (fb x 3).take (1 + 1) = (fb x 3).take 1 ++ [x / 256 % 256] := by
                  first | (simp [fb]; done) | (simp [fb]; omega)
                obtain ⟨m, hm⟩ : ∃ m, (bs ++ putF (l.take j) ++ (fb x 3).take 1).length = m := ⟨_, rfl⟩
                have hm2 : m ≤ 40000 := by
                  rw [← hm]
                  have h1 := HB3.out j
                  have h3 := HN.out
                  have h4 : ((fb x 3).take 1).length ≤ 3 := by simp [fb]
                  simp only [List.length_append]
                  omega
                rw [hvo] at hown5 ⊢
                rw [hm] at hown5 hvo ⊢
                have HO5 := Lib.hid hown5; have HM := Lib.hid hm; have HVO := Lib.hid hvo; have HTK := Lib.hid htk
                have hw5 : base ≤ wr.heap.size := Nat.le_trans hbase hJ.out.2.1.size
                clear hown5 hm hvo htk hk0
                go_wp2_with (at_builtin; refine wpList_append_lies _ rfl _ _ _ rfl base 5 i0 _ 1 1 Try.underlying74 hi0 hz0 hz1 hz2 rfl (by omega) (.slice av m cv) m _ rfl (HO5.out.alloc _) ⟨wr.heap.size, 0, none⟩ 1 1 [.int .u8 (x / 256 % 256)] rfl rfl (World.news_of_block (cs := #[.int .u8 (x / 256 % 256)]) (t := 5) (fr := (0, 0)) (World.alloc_heap_new wr _)) (by simp [Value.oneCell']) (by omega) (by unfold maxLen; omega) (by omega) (by simp; omega) (wr.heap.size + 1) (by simp) ?_)
                intro gg cap' w6 hown6 hgrow hat hlt6
                have hf6 : Fr wr.heap.size (fun q => (Value.slice av m cv).ownBlock = some q) wr w6 := Fr.grown ((Fr.refl _ _ _).alloc (Nat.le_refl _) _) hgrow (by simp) (fun q e => .inr e)
                have hk6 : w6.heap[fk]? = some (.cells #[.pointer (some ⟨B, off, none⟩), .int .i64 3] 73 (0, 0)) := (hf6.block fk le0 (fun e => (hJ.out.2.2.1 fk (by rw [HVO.out]; exact e)).2 rfl)).trans hJ.out.2.2.2
                have hF6 : Fr w.heap.size (fun q => vo.ownBlock = some q) w w6 := hJ.out.2.1.trans (hf6.mono hJ.out.2.1.size fun q hq e => (hJ.out.2.2.1 q (by rw [HVO.out]; exact e)).1.elim (fun h => h) (fun h => by omega))
                have hsz5 := hJ.out.2.1.size
                have hq6 : ∀ q, (Value.slice (some ⟨gg, 0, none⟩) (m + 1) cap').ownBlock = some q → (vo.ownBlock = some q ∨ w.heap.size ≤ q) ∧ q ≠ fk := fun q hq => by
                  simp [Value.ownBlock] at hq
                  subst hq
                  rcases hat with h | h
                  · exact hJ.out.2.2.1 gg (by rw [HVO.out]; exact h)
                  · exact ⟨.inr (by omega), by omega⟩
                have hl6 : (bs ++ putF (l.take j) ++ (fb x 3).take (1 + 1)).length = m + 1 := by rw [HTK.out, ← List.append_assoc, List.length_append, HM.out]; rfl
                have ho6 : w6.ownsRow base 5 1 (.slice (some ⟨gg, 0, none⟩) (m + 1) cap') (bs ++ putF (l.take j) ++ (fb x 3).take (1 + 1)).length (byV (bs ++ putF (l.take j) ++ (fb x 3).take (1 + 1))) := by
                  rw [hl6, HTK.out, ← List.append_assoc]
                  have := hown6
                  unfold byV at this ⊢
                  simpa using this
                have HFIN := Lib.hid (And.intro ho6 (And.intro hF6 (And.intro hq6 hk6)))
                clear hown6 hgrow hat hlt6 hf6 hk6 hF6 hq6 ho6 hl6
                go_wp2_with fail
                exact ⟨⟨1 + 1, _, by omega, rfl, by simp, Lib.hid HFIN.out⟩, by simp [intOf]⟩
              · skip
                have hk0 : (((3 : Nat) : Int) - 1 - ((2 : Nat) : Int)) = 0 := by omega
                rw [hk0]
                obtain ⟨av, cv, hvo⟩ := own_form hJ.out.1
                have hown5 := hJ.out.1
                have htk : (fb x 3).take (2 + 1) = (fb x 3).take 2 ++ [x % 256] := by
                  first | (simp [fb]; done) | (simp [fb]; omega)
                obtain ⟨m, hm⟩ : ∃ m, (bs ++ putF (l.take j) ++ (fb x 3).take 2).length = m := ⟨_, rfl⟩
                have hm2 : m ≤ 40000 := by
                  rw [← hm]
                  have h1 := HB3.out j
                  have h3 := HN.out
                  have h4 : ((fb x 3).take 2).length ≤ 3 := by simp [fb]
                  simp only [List.length_append]
                  omega
                rw [hvo] at hown5 ⊢
                rw [hm] at hown5 hvo ⊢
                have HO5 := Lib.hid hown5; have HM := Lib.hid hm; have HVO := Lib.hid hvo; have HTK := Lib.hid htk
                have hw5 : base ≤ wr.heap.size := Nat.le_trans hbase hJ.out.2.1.size
                clear hown5 hm hvo htk hk0
                go_wp2_with (at_builtin; refine wpList_append_lies _ rfl _ _ _ rfl base 5 i0 _ 1 1 Try.underlying74 hi0 hz0 hz1 hz2 rfl (by omega) (.slice av m cv) m _ rfl (HO5.out.alloc _) ⟨wr.heap.size, 0, none⟩ 1 1 [.int .u8 (x % 256)] rfl rfl (World.news_of_block (cs := #[.int .u8 (x % 256)]) (t := 5) (fr := (0, 0)) (World.alloc_heap_new wr _)) (by simp [Value.oneCell']) (by omega) (by unfold maxLen; omega) (by omega) (by simp; omega) (wr.heap.size + 1) (by simp) ?_)
                intro gg cap' w6 hown6 hgrow hat hlt6
                have hf6 : Fr wr.heap.size (fun q => (Value.slice av m cv).ownBlock = some q) wr w6 := Fr.grown ((Fr.refl _ _ _).alloc (Nat.le_refl _) _) hgrow (by simp) (fun q e => .inr e)
                have hk6 : w6.heap[fk]? = some (.cells #[.pointer (some ⟨B, off, none⟩), .int .i64 3] 73 (0, 0)) := (hf6.block fk le0 (fun e => (hJ.out.2.2.1 fk (by rw [HVO.out]; exact e)).2 rfl)).trans hJ.out.2.2.2
                have hF6 : Fr w.heap.size (fun q => vo.ownBlock = some q) w w6 := hJ.out.2.1.trans (hf6.mono hJ.out.2.1.size fun q hq e => (hJ.out.2.2.1 q (by rw [HVO.out]; exact e)).1.elim (fun h => h) (fun h => by omega))
                have hsz5 := hJ.out.2.1.size
                have hq6 : ∀ q, (Value.slice (some ⟨gg, 0, none⟩) (m + 1) cap').ownBlock = some q → (vo.ownBlock = some q ∨ w.heap.size ≤ q) ∧ q ≠ fk := fun q hq => by
                  simp [Value.ownBlock] at hq
                  subst hq
                  rcases hat with h | h
                  · exact hJ.out.2.2.1 gg (by rw [HVO.out]; exact h)
                  · exact ⟨.inr (by omega), by omega⟩
                have hl6 : (bs ++ putF (l.take j) ++ (fb x 3).take (2 + 1)).length = m + 1 := by rw [HTK.out, ← List.append_assoc, List.length_append, HM.out]; rfl
                have ho6 : w6.ownsRow base 5 1 (.slice (some ⟨gg, 0, none⟩) (m + 1) cap') (bs ++ putF (l.take j) ++ (fb x 3).take (2 + 1)).length (byV (bs ++ putF (l.take j) ++ (fb x 3).take (2 + 1))) := by
                  rw [hl6, HTK.out, ← List.append_assoc]
                  have := hown6
                  unfold byV at this ⊢
                  simpa using this
                have HFIN := Lib.hid (And.intro ho6 (And.intro hF6 (And.intro hq6 hk6)))
                clear hown6 hgrow hat hlt6 hf6 hk6 hF6 hq6 ho6 hl6
                go_wp2_with fail
                exact ⟨⟨2 + 1, _, by omega, rfl, by simp, Lib.hid HFIN.out⟩, by simp [intOf]⟩
            · obtain rfl : 3 = tt := by omega
              have hpl := putF_snoc l HP.out
              simp only at hpl
              have hfull : (fb x 3).take 3 = fb x 3 := List.take_of_length_le (Nat.le_of_eq (fb_len _ _))
              have hJ2 := hJ.out
              rw [hfull, List.append_assoc, ← hpl] at hJ2
              have HJ2 := Lib.hid hJ2
              clear hJ2 hfull hpl htb htt
              go_wp2_with fail
              exact ⟨⟨j + 1, _, by omega, rfl, by go_num, Lib.hid ⟨HFIT.out, HJ2.out.1, HJ2.out.2.1, fun q hq => (HJ2.out.2.2.1 q hq).1⟩⟩, by simp [intOf]; omega⟩
        · skip
          have hno : l.all Fd.fit = false := all_not HP.out (by show decide (0 ≤ x ∧ x < (256:Int) ^ 3) = false; rw [show (256:Int) ^ 3 = 16777216 from by decide]; exact decide_eq_false fun h => hxC h.2)
          have hdv : (x / 16777216 != 0) = true := by simp; omega
          have HQ := Lib.hid (show ∀ nq, PutPost base l vo bs w (.returned (.tuple #[.slice none 0 0, .bool false])) (w3.drewN nq) from fun nq => by
            unfold PutPost
            exact ⟨_, by rw [hno], .inr ⟨hno, rfl⟩, HF3.out.drewN nq⟩)
          clear hno
          go_quiet (fail)
          go_wp2_with fail
          refine bodyPost_ret (results_tmp2 rfl _ _ _) rfl ?_
          exact HQ.out nq
    · obtain rfl : n = j := by omega
      have hall : l.take n = l := by rw [← HN.out]; exact List.take_length
      have hI2 := hI.out
      rw [hall] at hI2
      have hyes := hI2.1
      have HQ := Lib.hid (show PutPost base l vo bs w (.returned (.tuple #[u0, .bool true])) wr from by
        unfold PutPost
        exact ⟨_, by rw [hyes], .inl ⟨hyes, hI2.2.1⟩, hI2.2.2.1⟩)
      clear hall hI2 hlt hj hyes
      go_wp2_with fail
      refine bodyPost_ret (results_tmp2 rfl _ _ _) rfl ?_
      exact HQ.out
end Go.Proofs.Ytghfdiaaonjofaa
