/-
  The pool's each, Take, Give.
-/
import Derived.Test.YtdmbjjladkdphaaPool3
set_option linter.unusedVariables false
set_option linter.unusedSimpArgs false
namespace Go.Proofs.Ytdmbjjladkdphaa
open Go.RowKit Go.Maps

/-- one slot -/
def oneF (op : Nat → Fe → Sl → Int × Fe) (A fr : List Fe) (s : Sl) : Int × List Fe :=
  if s.cpus < 0 then (1, fr) else match posF A s.spot with
    | none => (3, fr)
    | some k => match fr[k]? with
      | none => (3, fr)
      | some f => ((op k f s).1, fr.set k (op k f s).2)
/-- slots, one by one, till one fails -/
def eachGo (op : Nat → Fe → Sl → Int × Fe) (A : List Fe) : List Fe → List Sl → Int × List Fe
  | fr, [] => (0, fr)
  | fr, s :: r => if (oneF op A fr s).1 ≠ 0 then oneF op A fr s else eachGo op A (oneF op A fr s).2 r
def eachF (op : Nat → Fe → Sl → Int × Fe) (A fr : List Fe) (xs : List Sl) : Int × List Fe :=
  if (eachGo op A fr xs).1 = 0 then eachGo op A fr xs else ((eachGo op A fr xs).1, fr)
theorem oneF_len (op : Nat → Fe → Sl → Int × Fe) (A fr : List Fe) (s : Sl) : (oneF op A fr s).2.length = fr.length := by
  unfold oneF
  split
  · rfl
  · split
    · rfl
    · split
      · rfl
      · simp
theorem eachGo_len (op : Nat → Fe → Sl → Int × Fe) (A : List Fe) : ∀ (xs : List Sl) (fr : List Fe), (eachGo op A fr xs).2.length = fr.length
  | [], fr => rfl
  | s :: r, fr => by
    unfold eachGo
    split
    · exact oneF_len op A fr s
    · rw [eachGo_len op A r, oneF_len]
theorem eachF_len (op : Nat → Fe → Sl → Int × Fe) (A : List Fe) (xs : List Sl) (fr : List Fe) : (eachF op A fr xs).2.length = fr.length := by
  unfold eachF
  split
  · exact eachGo_len op A xs fr
  · rfl
variable {w w' : World} {p T R cap M nn F D : Nat} {A fr fr1 : List Fe} {dr : List Int}
theorem PoolAt.back (h : PoolAt w p T R cap M nn A F D fr1 dr) {B0 : Nat} (hB : w.heap[B0]? = some (.cells (fr.flatMap Fe.cells).toArray 45 (0, 0))) (hl : fr.length = A.length) (hd : B0 ≠ p ∧ B0 ≠ D ∧ B0 ≠ T ∧ B0 ≠ R ∧ B0 ≠ M) :
    PoolAt (w.setCell ⟨p, 1, none⟩ (.slice (some ⟨B0, 0, none⟩) fr.length fr.length)) p T R cap M nn A B0 D fr dr := by
  obtain ⟨h1, h2, h3, h4, h5⟩ := hd
  have ha := h.apart
  obtain ⟨es, c, m1, m2⟩ := h.drn
  have same : ∀ q, q ≠ p → (w.setCell ⟨p, 1, none⟩ (.slice (some ⟨B0, 0, none⟩) fr.length fr.length)).heap[q]? = w.heap[q]? := fun q hq => setCell_other (p := ⟨p, 1, none⟩) _ hq
  refine ⟨?_, h.topo.frame (same T ha.2.1.1.symm) (same R ha.2.1.2.1.symm) (same M ha.2.1.2.2.symm), (same B0 h1).trans hB, ⟨es, c, (same D ha.1.2.1.symm).trans m1, m2⟩, ⟨⟨h1.symm, ha.1.2.1, h2⟩, ha.2.1, ⟨h3, h4, h5⟩, ha.2.2.2⟩, hl⟩
  exact setCell_block h.head 1 _
def EachPost (p T R cap M nn : Nat) (A : List Fe) (F D : Nat) (dr : List Int) (r : Int × List Fe) (w : World) (e : Ending) (w' : World) : Prop :=
  e = .returned (.int .i64 r.1) ∧ ∃ F', PoolAt w' p T R cap M nn A F' D r.2 dr ∧ Fr w.heap.size (fun q => q = p ∨ q = F) w w' ∧ (F' = F ∨ w.heap.size ≤ F')
theorem EachPost.fail (h : PoolAt w p T R cap M nn A F D fr dr) {w1 w2 : World} (hb : Below w.heap.size w w1) (hf : Fr w1.heap.size (fun q => q = F) w1 w2) (h1 : PoolAt w2 p T R cap M nn A F D fr1 dr) (hB : w2.heap[w.heap.size]? = some (.cells (fr.flatMap Fe.cells).toArray 45 (0, 0))) (e : Int) (n : Nat) (hn : fr.length = n) :
    EachPost p T R cap M nn A F D dr (e, fr) w (.returned (.int .i64 e)) (w2.setCell ⟨p, 1, none⟩ (.slice (some ⟨w.heap.size, 0, none⟩) n n)) := by
  subst hn
  have lt := fun q hq => h.lt (q := q) hq
  have ne : ∀ q, PF p T R M F D q → w.heap.size ≠ q := fun q hq e => by have := lt q hq; omega
  refine ⟨rfl, w.heap.size, h1.back hB h.len ⟨ne p (.inl (.inl rfl)), ne D (.inl (.inr (.inr rfl))), ne T (.inr (.inl rfl)), ne R (.inr (.inr (.inl rfl))), ne M (.inr (.inr (.inr rfl)))⟩, ?_, .inr (Nat.le_refl _)⟩
  exact ((Fr.of_below hb _).trans (hf.mono hb.size fun q _ e => .inr e)).setCell (.inr (.inl rfl)) _

/-- what holds ahead of each slot -/
structure EI (op : Nat → Fe → Sl → Int × Fe) (p T R cap M nn : Nat) (A : List Fe) (F D : Nat) (fr : List Fe) (dr : List Int) (xs : List Sl) (w w1 : World) (k : Nat) (fr1 : List Fe) (wr : World) : Prop where
  at_ : PoolAt wr p T R cap M nn A F D fr1 dr
  go : eachGo op A fr xs = eachGo op A fr1 (xs.drop k)
  fr_ : Fr w1.heap.size (fun q => q = F) w1 wr

set_option maxRecDepth 100000 in
set_option maxHeartbeats 4000000 in
theorem each_any (op : Nat → Fe → Sl → Int × Fe) (FN : FuncId) (caps : Array Value) (hF : ∀ (args : Array Value) (w : World), (callFunc FN args).run Try.prog w = .ok (.enter FN args) w) (h : PoolAt w p T R cap M nn A F D fr dr) (v : Value) (xs : List Sl) (hs : SlRow w v xs) (hv : ∀ q, v.ownBlock = some q → xs ≠ [] → q < w.heap.size ∧ ¬ q = F)
    (hok : ∀ s ∈ xs, SlOk s) (hl : fr.length ≤ 1000000)
    (hcall : ∀ (w1 : World) (fr1 : List Fe) (k : Nat) (f : Fe) (s : Sl), s ∈ xs → fr1[k]? = some f → posF A s.spot = some k → PoolAt w1 p T R cap M nn A F D fr1 dr → Fr w.heap.size (fun q => q = F) w w1 → Calls Try.prog FN (#[.pointer (some ⟨F, k * 4, none⟩), .agg #[.int .i64 s.spot.node, .int .i64 s.spot.domain, .int .u64 s.mask, .int .i64 s.cpus]] ++ caps) w1 (ClPost p T R cap M nn A F D fr1 dr k (op k f s) w1)) :
    Calls Try.prog 31 #[.pointer (some ⟨p, 0, none⟩), v, .func (.func FN) #[] caps] w (EachPost p T R cap M nn A F D dr (eachF op A fr xs) w) := by
  obtain ⟨av, capv, rfl, hm, hc⟩ := id hs
  obtain ⟨n, hn⟩ : ∃ n, xs.length = n := ⟨_, rfl⟩
  obtain ⟨la, hla⟩ : ∃ la, fr.length = la := ⟨_, rfl⟩
  have HLA := Lib.hid hla; have HN := Lib.hid hn; have H := Lib.hid h; have HS := Lib.hid hs; have HV := Lib.hid hv; have HOK := Lib.hid hok; have HCALL := Lib.hid hcall
  have HFREE := Lib.hid (free_any h hl)
  have lp := h.lt (.inl (.inl rfl))
  have HLF := Lib.hid (h.lt (.inl (.inr (.inl rfl))))
  have hmx : n ≤ 9223372036854775807 := by rw [hn] at hm; unfold maxLen at hm; omega
  rw [hla] at HFREE
  obtain ⟨re, hre⟩ : ∃ re, eachF op A fr xs = re := ⟨_, rfl⟩
  have HRE := Lib.hid hre
  rw [hn, hre]
  clear h hs hv hok hcall hn hla hm hc hre
  go_enter Try.func31, Try.ntmps31
  go_wp2_with fail
  refine HFREE.out.mono ?_
  rintro e w1 ⟨rfl, hB0, hb1⟩
  have HB0 := Lib.hid hB0; have HB1 := Lib.hid hb1
  have HWB := Lib.hid (lt_of_block hB0)
  clear hB0 hb1
  obtain ⟨B0, hB00⟩ : ∃ B0, w.heap.size = B0 := ⟨_, rfl⟩
  have HBB := Lib.hid hB00
  rw [hB00] at HB0 HWB ⊢
  clear hB00
  go_wp2_with fail
  go_loopw [17] (fun i wr => ∃ (k : Nat) (fr1 : List Fe), k ≤ n ∧ i = .int .i64 k ∧ Hid (EI op p T R cap M nn A F D fr dr xs w w1 k fr1 wr)) (fun i _ => n - (intOf i).toNat)
  case atStart => exact ⟨0, fr, Nat.zero_le _, rfl, Lib.hid ⟨H.out.later HB1.out, by simp, Fr.refl _ _ _⟩⟩
  case round =>
    obtain ⟨k, fr1, hk, rfl, HI⟩ := hrel
    have hp1 := HI.out.at_
    have HLr := Lib.hid (show fr1.length = la by rw [hp1.len, ← H.out.len, HLA.out])
    have c0 := cell_of_block hp1.head 0
    have c1 := cell_of_block hp1.head 1
    have zp := frozen_of_block hp1.head 1
    have lpr := hp1.lt (.inl (.inl rfl))
    have HFW := Lib.hid ((Fr.of_below HB1.out (fun q => q = F)).trans (HI.out.fr_.mono HB1.out.size fun _ _ e => e))
    have HKB := Lib.hid ((HI.out.fr_.block B0 HWB.out (fun e => by have := HLF.out; have := HBB.out; omega)).trans HB0.out)
    rw [HLr.out] at c1
    clear hp1
    by_cases hlt : k < n
    · have hkl : k < xs.length := by rw [HN.out]; exact hlt
      obtain ⟨s, hsx⟩ : ∃ s, xs[k] = s := ⟨_, rfl⟩
      have HMEM := Lib.hid (show s ∈ xs from hsx ▸ List.getElem_mem hkl)
      have HDROP := Lib.hid (show xs.drop k = s :: xs.drop (k + 1) by rw [List.drop_eq_getElem_cons hkl, hsx])
      obtain ⟨av', capv', hav, _, hc⟩ := HS.out.fr HFW.out (fun q hq => HV.out q hq (fun e => by rw [e] at hkl; simp at hkl))
      simp only [Value.slice.injEq] at hav
      obtain ⟨rfl, -, rfl⟩ := hav
      obtain ⟨b, o, rfl, hb, hcs⟩ := hc k hkl
      rw [hsx] at hcs
      have s0 : wr.cell? ⟨b, o + k * 4, none⟩ = some (.int .i64 s.spot.node) := hcs 0 (by omega)
      have s1 : wr.cell? ⟨b, o + k * 4 + 1, none⟩ = some (.int .i64 s.spot.domain) := by rw [Nat.add_assoc]; exact hcs 1 (by omega)
      have s2 : wr.cell? ⟨b, o + k * 4 + 2, none⟩ = some (.int .u64 s.mask) := by rw [Nat.add_assoc]; exact hcs 2 (by omega)
      have s3 : wr.cell? ⟨b, o + k * 4 + 3, none⟩ = some (.int .i64 s.cpus) := by rw [Nat.add_assoc]; exact hcs 3 (by omega)
      clear hc hcs hsx hkl
      have b0 := (Below.refl wr.heap.size wr).alloc (Nat.le_refl _) (.cells #[.int .i64 s.spot.node, .int .i64 s.spot.domain, .int .u64 s.mask, .int .i64 s.cpus] 44)
      have k0 := World.alloc_heap_new wr (.cells #[.int .i64 s.spot.node, .int .i64 s.spot.domain, .int .u64 s.mask, .int .i64 s.cpus] 44)
      have HP5 := Lib.hid (HI.out.at_.later b0)
      have HK5 := Lib.hid k0
      have HB5 := Lib.hid b0
      have HF5 := Lib.hid (HI.out.fr_.trans ((Fr.of_below b0 (fun q => q = F)).mono HI.out.fr_.size fun _ _ e => e))
      have HKB5 := Lib.hid ((b0.block _ (lt_of_block HKB.out)).trans HKB.out)
      have lp5 := Nat.lt_of_lt_of_le lpr b0.size
      go_upto_region 5 with fail
      obtain ⟨B1, hB1⟩ : ∃ B1, wr.heap.size = B1 := ⟨_, rfl⟩
      have HK5L := Lib.hid (show wr.heap.size = B1 from hB1)
      rw [hB1] at HK5 ⊢
      generalize wr.alloc (.cells #[.int .i64 s.spot.node, .int .i64 s.spot.domain, .int .u64 s.mask, .int .i64 s.cpus] 44) = w5 at HP5 HK5 HB5 HF5 HKB5 lp5 ⊢
      clear b0 k0 s0 s1 s2 s3 c0 c1 zp lpr hB1
      have c0 := cell_of_block HP5.out.head 0
      have c1 := cell_of_block HP5.out.head 1
      have zp := frozen_of_block HP5.out.head 1
      rw [HLr.out] at c1
      have k3 := cell_of_block HK5.out 3
      have lk := lt_of_block HK5.out
      by_cases hcp : s.cpus < 0
      · have HO := Lib.hid (show oneF op A fr1 s = (1, fr1) by unfold oneF; rw [if_pos hcp])
        have HR := Lib.hid (show re = (1, fr) by
          rw [← HRE.out]; unfold eachF; rw [HI.out.go, HDROP.out]; unfold eachGo; rw [HO.out]; simp)
        have hc2 : decide (0 ≤ s.cpus) = false := by simpa using hcp
        clear hcp
        go_wp2_with fail
        go_ret
        rw [HR.out]
        have hend := EachPost.fail H.out HB1.out HF5.out HP5.out (by rw [HBB.out]; exact HKB5.out) 1 la HLA.out
        rw [HBB.out] at hend
        exact hend
      · have hc2 : decide (0 ≤ s.cpus) = true := by simpa using hcp
        have HCP := Lib.hid hcp
        clear hcp
        go_upto_region 8 with fail
        have d0 : ∀ y : Later w5, y.wd.cell? ⟨p, 0, none⟩ = some (.pointer (some ⟨T, 0, none⟩)) := fun y => (y.cell lp5).trans (cell_of_block HP5.out.head 0)
        have d1 : ∀ y : Later w5, y.wd.cell? ⟨B1, 0, none⟩ = some (.int .i64 s.spot.node) := fun y => (y.cell (lt_of_block HK5.out)).trans (cell_of_block HK5.out 0)
        have d2 : ∀ y : Later w5, y.wd.cell? ⟨B1, 1, none⟩ = some (.int .i64 s.spot.domain) := fun y => (y.cell (lt_of_block HK5.out)).trans (cell_of_block HK5.out 1)
        cases hpos : posF A s.spot with
        | none =>
          have HO := Lib.hid (show oneF op A fr1 s = (3, fr1) by unfold oneF; rw [if_neg HCP.out, hpos])
          have HR := Lib.hid (show re = (3, fr) by
            rw [← HRE.out]; unfold eachF; rw [HI.out.go, HDROP.out]; unfold eachGo; rw [HO.out]; simp)
          have HIX := Lib.hid (show ∀ y : Later w5, Calls Try.prog 43 #[.pointer (some ⟨T, 0, none⟩), .agg #[.int .i64 s.spot.node, .int .i64 s.spot.domain]] y.wd fun e w' => e = .returned (.tuple #[.int .i64 0, .bool false]) ∧ Below y.wd.heap.size y.wd w' from fun y => index_none T R cap M nn A s.spot (HOK.out s HMEM.out).1 hpos y.wd (HP5.out.topo.later y.bel))
          clear hpos c0 c1 zp
          refine wp_region_later (by kernel_rfl) (by kernel_rfl) ?_
          repeat (quiet_step (first | (go_at_call 43; exact Calls.later (HIX.out _))))
          refine wpQuiet_nil ?_
          rintro w6 ⟨⟨_, hb6⟩, rfl⟩
          clear d0 d1 d2
          have HP6 := Lib.hid (HP5.out.later hb6)
          have HF6 := Lib.hid (HF5.out.trans ((Fr.of_below hb6 (fun q => q = F)).mono HF5.out.size fun _ _ e => e))
          have HK6 := Lib.hid ((hb6.block _ (lt_of_block HKB5.out)).trans HKB5.out)
          have c1 := cell_of_block HP6.out.head 1
          have zp := frozen_of_block HP6.out.head 1
          have lp6 := Nat.lt_of_lt_of_le lp5 hb6.size
          rw [HLr.out] at c1
          clear hb6 k3 lk
          go_wp2_with fail
          go_ret
          rw [HR.out]
          have hend := EachPost.fail H.out HB1.out HF6.out HP6.out (by rw [HBB.out]; exact HK6.out) 3 la HLA.out
          rw [HBB.out] at hend
          exact hend
        | some kk =>
          have hkA := (posF_some hpos).1
          have hkf : kk < fr1.length := by rw [HP5.out.len]; exact hkA
          obtain ⟨f, hf⟩ : ∃ f, fr1[kk]? = some f := ⟨fr1[kk], List.getElem?_eq_getElem hkf⟩
          have HO := Lib.hid (show oneF op A fr1 s = ((op kk f s).1, fr1.set kk (op kk f s).2) by unfold oneF; rw [if_neg HCP.out, hpos]; simp only [hf])
          obtain ⟨⟨e0, y0⟩, hop⟩ : ∃ z, op kk f s = z := ⟨_, rfl⟩
          rw [hop] at HO
          have HOP := Lib.hid hop
          have HIX := Lib.hid (show ∀ y : Later w5, Calls Try.prog 43 #[.pointer (some ⟨T, 0, none⟩), .agg #[.int .i64 s.spot.node, .int .i64 s.spot.domain]] y.wd fun e w' => e = .returned (.tuple #[.int .i64 kk, .bool true]) ∧ Below y.wd.heap.size y.wd w' from fun y => index_some T R cap M nn A s.spot (HOK.out s HMEM.out).1 kk hpos y.wd (HP5.out.topo.later y.bel))
          have i0 : (kk : Int) < la := by have := HLr.out; omega
          have HPOS := Lib.hid hpos; have HFK := Lib.hid hf
          clear hpos c0 c1 zp hkA hkf hf hop
          refine wp_region_later (by kernel_rfl) (by kernel_rfl) ?_
          repeat (quiet_step (first | (go_at_call 43; exact Calls.later (HIX.out _))))
          refine wpQuiet_nil ?_
          rintro w6 ⟨⟨_, hb6⟩, rfl⟩
          clear d0 d1 d2
          have HP6 := Lib.hid (HP5.out.later hb6)
          have HF6 := Lib.hid (HF5.out.trans ((Fr.of_below hb6 (fun q => q = F)).mono HF5.out.size fun _ _ e => e))
          have HK6 := Lib.hid ((hb6.block _ (lt_of_block HKB5.out)).trans HKB5.out)
          have HKS := Lib.hid ((hb6.block _ (lt_of_block HK5.out)).trans HK5.out)
          have lp6 := Nat.lt_of_lt_of_le lp5 hb6.size
          clear hb6 k3 lk
          go_upto_region 10 with fail
          have HBF := Lib.hid (show B1 ≠ F from fun e => by have h1 := HK5L.out; have h2 := HLF.out; have h3 := HB1.out.size; have h4 := HI.out.fr_.size; omega)
          have hpF : p ≠ F := HP6.out.apart.1.1
          have g0 : ∀ y : LaterF w6 (fun q => q = F), y.wd.cell? ⟨p, 1, none⟩ = some (.slice (some ⟨F, 0, none⟩) la la) := fun y => by
            have := (y.cell lp6 hpF).trans (cell_of_block HP6.out.head 1)
            rw [HLr.out] at this
            exact this
          have g1 : ∀ y : LaterF w6 (fun q => q = F), y.wd.cell? ⟨B1, 0, none⟩ = some (.int .i64 s.spot.node) := fun y => (y.cell (lt_of_block HKS.out) HBF.out).trans (cell_of_block HKS.out 0)
          have g2 : ∀ y : LaterF w6 (fun q => q = F), y.wd.cell? ⟨B1, 1, none⟩ = some (.int .i64 s.spot.domain) := fun y => (y.cell (lt_of_block HKS.out) HBF.out).trans (cell_of_block HKS.out 1)
          have g3 : ∀ y : LaterF w6 (fun q => q = F), y.wd.cell? ⟨B1, 2, none⟩ = some (.int .u64 s.mask) := fun y => (y.cell (lt_of_block HKS.out) HBF.out).trans (cell_of_block HKS.out 2)
          have g4 : ∀ y : LaterF w6 (fun q => q = F), y.wd.cell? ⟨B1, 3, none⟩ = some (.int .i64 s.cpus) := fun y => (y.cell (lt_of_block HKS.out) HBF.out).trans (cell_of_block HKS.out 3)
          have hcg : ∀ w' : World, (callFunc FN (#[.pointer (some ⟨F, kk * 4, none⟩), .agg #[.int .i64 s.spot.node, .int .i64 s.spot.domain, .int .u64 s.mask, .int .i64 s.cpus]] ++ caps)).run Try.prog w' = .ok (.enter FN (#[.pointer (some ⟨F, kk * 4, none⟩), .agg #[.int .i64 s.spot.node, .int .i64 s.spot.domain, .int .u64 s.mask, .int .i64 s.cpus]] ++ caps)) w' := fun w' => hF _ _
          have fx0 := (Below.refl w6.heap.size w6).drew
          have lF6 := HP6.out.lt (.inl (.inr (.inl rfl)))
          refine Rg.wp_region_pick (by kernel_rfl) [0, 1, 2, 3, 4, 5, 6, 7] [8, 9] 9 (by kernel_rfl) (by kernel_rfl) (by kernel_rfl) (fun w' => ∃ y : LaterF w6 (fun q => q = F), w' = y.wd) (fun c a a' w hd h => ⟨hd.symm.trans h.1, h.2⟩) ⟨⟨_, Fr.of_below fx0 _⟩, rfl⟩ ?_
          simp only [Rg.picks, List.getElem?_cons_succ, List.getElem?_cons_zero, Option.toList, List.cons_append, List.nil_append]
          repeat (quiet_step (fail))
          refine wpQuiet_nil ?_
          clear g0 g1 g2 g3 g4
          simp only [Rg.pickn, List.getElem?_cons_succ, List.getElem?_cons_zero, Option.toList, List.map_cons, List.map_nil, List.cons_append, List.nil_append]
          have HP7 := Lib.hid (HP6.out.later fx0)
          have HF7 := Lib.hid (HF6.out.trans ((Fr.of_below fx0 (fun q => q = F)).mono HF6.out.size fun _ _ e => e))
          have HK7 := Lib.hid ((fx0.block _ (lt_of_block HK6.out)).trans HK6.out)
          have HX7 := Lib.hid (Fr.of_below fx0 (fun q => q = F))
          clear fx0
          generalize w6.drew = w7 at HP7 HF7 HK7 HX7 ⊢
          have HW7 := Lib.hid ((Fr.of_below HB1.out (fun q => q = F)).trans (HF7.out.mono HB1.out.size fun _ _ e => e))
          refine Rg.wpN_step (fun K hK => ?_) ⟨⟨_, HX7.out⟩, rfl⟩
          go_simp
          refine (HCALL.out w7 fr1 kk f s HMEM.out HFK.out HPOS.out HP7.out HW7.out).mono ?_
          rintro e w8 hcl
          unfold ClPost at hcl
          rw [HOP.out] at hcl
          obtain ⟨rfl, hp8, hf8⟩ := hcl
          have HX8 := Lib.hid (HX7.out.trans (hf8.mono HX7.out.size fun _ _ e => e))
          refine hK _ _ (fun _ => ⟨⟨_, HX8.out⟩, rfl⟩) ?_
          clear hK K
          refine Rg.wpN_list (by simp) ?_
          simp only [List.map_cons, List.map_nil]
          have HP8 := Lib.hid hp8
          have HF8 := Lib.hid (HF7.out.trans (hf8.mono HF7.out.size fun _ _ e => e))
          have HK8 := Lib.hid ((hf8.block B0 (lt_of_block HK7.out) (fun e => by have := HLF.out; have := HBB.out; omega)).trans HK7.out)
          have lp8 := hp8.lt (.inl (.inl rfl))
          have c1 := cell_of_block hp8.head 1
          have zp := frozen_of_block hp8.head 1
          rw [show (fr1.set kk y0).length = la by rw [List.length_set, HLr.out]] at c1
          clear hp8 hf8
          by_cases he : e0 = 0
          · subst he
            have HGO := Lib.hid (show eachGo op A fr xs = eachGo op A (fr1.set kk y0) (xs.drop (k + 1)) by
              rw [HI.out.go, HDROP.out]; conv => lhs; unfold eachGo
              rw [HO.out]; simp)
            go_wp2_with fail
            exact ⟨⟨k + 1, _, by omega, by go_num, Lib.hid ⟨HP8.out, HGO.out, HF8.out⟩⟩, by simp [intOf]; omega⟩
          · have HR := Lib.hid (show re = (e0, fr) by
              rw [← HRE.out]; unfold eachF; rw [HI.out.go, HDROP.out]; unfold eachGo; rw [HO.out]; simp [he])
            have he2 : (e0 != 0) = true := by simpa using he
            clear he
            go_wp2_with fail
            go_ret
            rw [HR.out]
            have hend := EachPost.fail H.out HB1.out HF8.out HP8.out (by rw [HBB.out]; exact HK8.out) e0 la HLA.out
            rw [HBB.out] at hend
            exact hend
    · obtain rfl : k = n := by omega
      have HR := Lib.hid (show re = (0, fr1) by
        rw [← HRE.out]; unfold eachF; rw [HI.out.go, List.drop_eq_nil_of_le (by rw [HN.out]; exact Nat.le_refl _)]; simp [eachGo])
      clear hlt
      go_wp2
      go_ret
      rw [HR.out]
      exact ⟨rfl, F, HI.out.at_, HFW.out.mono (Nat.le_refl _) fun q _ e => .inr e, .inl rfl⟩
end Go.Proofs.Ytdmbjjladkdphaa
