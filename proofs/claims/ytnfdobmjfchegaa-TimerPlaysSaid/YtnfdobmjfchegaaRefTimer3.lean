/-
  The document's timer: Set.
-/
import Derived.Test.YtnfdobmjfchegaaRefTimer2
import Derived.Test.YtnfdobmjfchegaaRegions4
set_option linter.unusedVariables false
set_option linter.unusedSimpArgs false
namespace Go.Proofs.Ytnfdobmjfchegaa
open Go.RowKit Go.Maps

variable {w w' : World} {pm : Nat} {v : Value} {s : List En}
theorem tw_at : ∀ {s : List En} {x : En} {k : Nat}, k ≤ s.length → (∀ j, j < k → ∀ y, s[j]? = some y → ltE y x = true) → (∀ y, s[k]? = some y → ltE y x = false) → insE x s = s.take k ++ x :: s.drop k
  | [], x, k, hk, _, _ => by simp at hk; subst hk; rfl
  | y :: r, x, 0, _, _, h => by
    have h0 := h y (by simp)
    rw [insE_ge h0]; rfl
  | y :: r, x, k + 1, hk, hb, h => by
    have h0 := hb 0 (by omega) y (by simp)
    rw [insE_lt h0, tw_at (s := r) (k := k) (by simpa using hk) (fun j hj z hz => hb (j + 1) (by omega) z (by simpa using hz)) (fun z hz => h z (by simpa using hz))]
    rfl
/-- what is there is taken out and put in again -/
theorem ins_out : ∀ {s : List En} {x : En}, Row s → x ∈ s → insE x (outE s x.id) = s
  | [], _, _, h => by simp at h
  | y :: r, x, hr, h => by
    by_cases e : y = x
    · subst e
      rw [(out_head hr).1]
      cases r with
      | nil => rfl
      | cons z q =>
        have hlt := (List.pairwise_cons.1 hr.sorted).1 z (List.mem_cons_self ..)
        rw [insE_ge (ltE_tot.asym _ _ hlt)]
    · have hx : x ∈ r := (List.mem_cons.1 h).resolve_left fun e' => e e'.symm
      have hne : y.id ≠ x.id := fun e' => by
        have hn := hr.ids
        simp only [List.map_cons, List.nodup_cons] at hn
        exact hn.1 (e' ▸ List.mem_map_of_mem hx)
      have hlt := (List.pairwise_cons.1 hr.sorted).1 x hx
      have ih := ins_out hr.tail hx
      have ho : outE (y :: r) x.id = y :: outE r x.id := by unfold outE; rw [List.filter_cons_of_pos (by simpa using hne)]
      rw [ho, insE_lt hlt, ih]

theorem ownsMade3 (w2 : World) {o1 : Obj} : ((w2.alloc o1).drew.alloc (.cells #[] 47)).ownsRow w2.heap.size 47 2 (.slice (some ⟨w2.heap.size + 1, 0, none⟩) 0 0) 0 [] := by
  have h := World.alloc_heap_new (w2.alloc o1).drew (.cells #[] 47)
  have e : (w2.alloc o1).drew.heap.size = w2.heap.size + 1 := World.size_alloc _ _
  rw [e] at h
  exact ⟨rfl, .inr ⟨w2.heap.size + 1, 0, #[], rfl, by omega, h, by omega, by unfold maxLen; omega, rfl, rfl⟩⟩
set_option maxRecDepth 100000 in
set_option maxHeartbeats 8000000 in
theorem refSet_go (h : RefAt w pm v s) (hr : Row s) (id tick : Int) (hl : s.length ≤ 1000000) (ht : 0 ≤ tick ∧ tick ≤ 1073741824) (hfull : idxN s id = none → s.length < 4096) :
    Calls Try.prog 15 #[.pointer (some ⟨pm, 0, none⟩), .int .i64 id, .int .i64 tick] w (RefPost pm v (insE ⟨tick, id⟩ (outE s id)) (.int .i64 0) w) := by
  have H := Lib.hid h
  have HF := Lib.hid (find_any h id hl)
  have ht1 : decide (tick < 0) = false := by simp; omega
  have ht2 : decide ((1073741824 : Int) < tick) = false := by simp; omega
  have HO := Lib.hid (show (dropE s id).2 = outE s id by
    unfold dropE
    cases hk : lookE s id with
    | none =>
      simp only
      unfold outE
      symm
      rw [List.filter_eq_self]
      intro e he
      simpa using lookE_none.1 hk e he
    | some e => rfl)
  have HOL := Lib.hid (show (outE s id).length ≤ 1000000 from Nat.le_trans (List.length_filter_le _ _) hl)
  have HROW := Lib.hid hr
  obtain ⟨a, cap, hv, hlc, hcm, hc⟩ := h.row
  obtain ⟨c0, hc0⟩ : ∃ c0, idxV s id = c0 := ⟨_, rfl⟩
  have HC0 := Lib.hid hc0
  have hcase : (c0 < 0 ∧ s.length < 4096) ∨ 0 ≤ c0 := by
    rw [← hc0]
    unfold idxV
    cases hk : idxN s id with
    | none => exact .inl ⟨by simp, hfull hk⟩
    | some k => exact .inr (by simp)
  have HV := Lib.hid hv
  clear h ht hfull hr hc hlc hcm hc0
  have hdrop : ∀ w1, Below w.heap.size w w1 → Calls Try.prog 16 #[.pointer (some ⟨pm, 0, none⟩), .int .i64 id] w1 (RefPost pm v (outE s id) (.int .i64 (dropE s id).1) w1) := fun w1 hb => by
    have := refDrop_any (H.out.later hb) HROW.out id hl
    rwa [HO.out] at this
  have HDROP := Lib.hid hdrop
  clear hdrop hl
  obtain ⟨s1, hs1⟩ : ∃ s1, outE s id = s1 := ⟨_, rfl⟩
  have HS1E := Lib.hid hs1
  rw [hs1] at HDROP HOL ⊢
  clear hs1
  go_enter Try.func15, Try.ntmps15
  go_wp2_with fail
  refine HF.out.mono ?_
  rintro e w1 ⟨rfl, hb⟩
  rw [HC0.out]
  have h1 := H.out.later hb
  have q0 := cell_of_block h1.head 0
  rw [HV.out] at q0
  have lp := lt_of_block h1.head
  have HB := Lib.hid hb
  clear hb h1
  rcases hcase with ⟨hc1, hc2⟩ | hc1
  · have hcd : decide (c0 < 0) = true := by simpa using hc1
    have hcl : decide ((4096 : Int) ≤ (s.length : Int)) = false := by simp; omega
    clear hc1 hc2
    go_wp2_with fail
    refine (HDROP.out w1 HB.out).mono ?_
    rintro e w2 ⟨rfl, v2, hR, hf, hn⟩
    have HR2 := Lib.hid hR
    have HF2 := Lib.hid (show Fr w.heap.size (fun q => q = pm) w w2 from (Fr.of_below HB.out _).trans (hf.mono HB.out.size fun _ _ e => e))
    have hnil := hR.nil
    obtain ⟨a2, cap, rfl, hlc, hcm, hc⟩ := hR.row
    obtain ⟨n, hn1⟩ : ∃ n, s1.length = n := ⟨_, rfl⟩
    have HN := Lib.hid hn1
    have hh := hR.head
    have HSP := Lib.hid (show ∀ ad0, a2 = some ad0 → ∃ b o, ad0 = ⟨b, o, none⟩ from fun ad0 e => by subst e; obtain ⟨b, o, sp⟩ := ad0; have h := hR.spot _ _ _ rfl; simp only at h; subst h; exact ⟨b, o, rfl⟩)
    rw [hn1] at hlc hh
    have HNIL := Lib.hid (show a2 = none → n = 0 ∧ cap = 0 from fun e => by subst e; exact hn1 ▸ hnil _ _ rfl)
    have hn6 : n ≤ 1000000 := by have := HOL.out; omega
    have HH := Lib.hid hh; have HC := Lib.hid hc
    have lp := lt_of_block hh
    clear hR hf hn hn1 hh hc hnil
    have q0 := cell_of_block HH.out 0
    go_wp2_with fail
    rename_i K0 hKa
    have hK : ∀ (k : Nat) (u3 u4 u5 u8 u9 u10 u11 u12 u13 u14 u15 u16 u17 u18 u19 u20 u21 u22 u23 u24 u25 u26 u27 u28 u29 u30 u31 u32 u33 u34 u35 u36 u37 u38 u39 u40 u41 u42 u43 u44 u45 u46 u47 u48 u49 u50 u51 u52 u53 u54 u55 u56 u57 u58 u59 u60 u61 u62 u63 u64 u65 u66 u67 u68 u69 u70 u71 u72 u73 u74 u75 u76 u77 u78 u79 u80 u81 u82 u83 u84 u85 u86 u87 u88 u89 u90 u91 u92 u93 u94 u95 u96 : Value), k ≤ n → insE ⟨tick, id⟩ s1 = s1.take k ++ ⟨tick, id⟩ :: s1.drop k → K0 { tmps := #[.pointer (some ⟨pm, 0, none⟩), .int .i64 id, .int .i64 tick, u3, u4, u5, .int .i64 0, .int .i64 k, u8, u9, u10, u11, u12, u13, u14, u15, u16, u17, u18, u19, u20, u21, u22, u23, u24, u25, u26, u27, u28, u29, u30, u31, u32, u33, u34, u35, u36, u37, u38, u39, u40, u41, u42, u43, u44, u45, u46, u47, u48, u49, u50, u51, u52, u53, u54, u55, u56, u57, u58, u59, u60, u61, u62, u63, u64, u65, u66, u67, u68, u69, u70, u71, u72, u73, u74, u75, u76, u77, u78, u79, u80, u81, u82, u83, u84, u85, u86, u87, u88, u89, u90, u91, u92, u93, u94, u95, u96], defers := [] } w2 := by
      intro k u3 u4 u5 u8 u9 u10 u11 u12 u13 u14 u15 u16 u17 u18 u19 u20 u21 u22 u23 u24 u25 u26 u27 u28 u29 u30 u31 u32 u33 u34 u35 u36 u37 u38 u39 u40 u41 u42 u43 u44 u45 u46 u47 u48 u49 u50 u51 u52 u53 u54 u55 u56 u57 u58 u59 u60 u61 u62 u63 u64 u65 u66 u67 u68 u69 u70 u71 u72 u73 u74 u75 u76 u77 u78 u79 u80 u81 u82 u83 u84 u85 u86 u87 u88 u89 u90 u91 u92 u93 u94 u95 u96 hk hins
      refine hKa _ _ ?_
      clear hKa
      have hfin : ∀ (v9 : Value) (w9 : World), w9.ownsRow w2.heap.size 47 2 v9 (k + 1 + (n - k)) ((s1.take k).flatMap En.cells ++ (En.cells ⟨tick, id⟩ ++ (s1.drop k).flatMap En.cells)) → Below w2.heap.size w2 w9 → RefPost pm v (insE ⟨tick, id⟩ s1) (.int .i64 0) w (.returned (.int .i64 0)) (w9.setCell ⟨pm, 0, none⟩ v9) := fun v9 w9 ho hb => by
        rw [hins]
        have hl : (s1.take k ++ ⟨tick, id⟩ :: s1.drop k).length = k + 1 + (n - k) := by rw [List.length_append, List.length_take, List.length_cons, List.length_drop, HN.out]; omega
        have ho' : w9.ownsRow w2.heap.size 47 2 v9 (s1.take k ++ ⟨tick, id⟩ :: s1.drop k).length ((s1.take k ++ ⟨tick, id⟩ :: s1.drop k).flatMap En.cells) := by rw [hl, List.flatMap_append, List.flatMap_cons]; exact ho
        have hv : v9.ownBlock ≠ some pm := fun e => by have := (ho'.lt _ e).1; omega
        refine ⟨rfl, v9, RefAt.of (ownsRow_setCell_other ho' (a := ⟨pm, 0, none⟩) hv _) lp (setCell_block ((hb.block _ lp).trans HH.out) 0 v9), ?_, fun q hq => .inr ⟨Nat.le_trans HF2.out.size (ho'.lt q hq).1, by simpa [World.setCell] using (ho'.lt q hq).2⟩⟩
        exact Fr.setCell (F := fun q => q = pm) (HF2.out.trans ((Fr.of_below hb _).mono HF2.out.size fun _ _ e => e)) (p := ⟨pm, 0, none⟩) (.inr rfl) _
      obtain ⟨s1f, hs1f⟩ : ∃ f, (s1.take k).flatMap En.cells = f := ⟨_, rfl⟩
      obtain ⟨s2f, hs2f⟩ : ∃ f, (s1.drop k).flatMap En.cells = f := ⟨_, rfl⟩
      have HB1 := Lib.hid (hs1f ▸ ens_one (s1.take k)); have HB2 := Lib.hid (hs2f ▸ ens_one (s1.drop k))
      cases a2 with
      | none =>
        obtain ⟨rfl, rfl⟩ := HNIL.out rfl
        obtain rfl : k = 0 := by omega
        have hnl : s1 = [] := List.length_eq_zero_iff.1 HN.out
        rw [hs1f, hs2f] at hfin
        have HS1 := Lib.hid (show Src w2 2 none 0 0 s1f from .inl ⟨rfl, rfl, rfl, by rw [← hs1f, hnl]; rfl⟩)
        have HS2 := Lib.hid (show Src w2 2 none (0 - 0) 0 s2f from .inl ⟨rfl, rfl, rfl, by rw [← hs2f, hnl]; rfl⟩)
        have q0 : ∀ y : Later w2, y.wd.cell? ⟨pm, 0, none⟩ = some (.slice none 0 0) := fun y => (y.cell lp).trans (cell_of_block HH.out 0)
        clear hnl hins hs1f hs2f
        obtain ⟨i0, hi0, hz0, hz1, hz2⟩ := info_parts infoRef
        have fx0 := (Below.refl w2.heap.size w2).drew
        go_wp2_with fail
        refine Rg.wp_region_plan (by kernel_rfl) [0, 2, 3, 4, 5, 6, 7, 9, 10, 11, 14, 15, 16, 17, 18, 19] (.two 1 (.two 8 (.one 12 (.fin [13, 20, 21, 22, 23])) 12 (.one 8 (.fin [13, 20, 21, 22, 23]))) 12 (.one 1 (.one 8 (.fin [13, 20, 21, 22, 23])))) 21 (by kernel_rfl) (by kernel_rfl) (by kernel_rfl) (fun w' => ∃ y : Later w2, w' = y.wd) (fun c a a' w hd h => ⟨hd.symm.trans h.1, h.2⟩) ⟨⟨_, fx0⟩, rfl⟩ ?_
        simp only [Rg.picks, List.getElem?_cons_succ, List.getElem?_cons_zero, Option.toList, List.cons_append, List.nil_append]
        repeat (quiet_step (fail))
        refine wpQuiet_nil ?_
        clear q0
        try simp only [Rg.wpP, Rg.pickn, List.getElem?_cons_succ, List.getElem?_cons_zero, Option.toList, List.map_cons, List.map_nil, List.cons_append, List.nil_append]
        constructor
        · as_aux_lemma =>
            refine Rg.wp1_step (fun K hK => ?_) ⟨⟨_, fx0⟩, rfl⟩
            go_simp
            have B6 : Below w2.heap.size w2 (w2.alloc (.cells #[] 47)).drew := ((Below.refl _ _).alloc (Nat.le_refl _) _).drew
            refine hK _ _ (fun _ => ⟨⟨_, B6⟩, rfl⟩) ?_
            clear hK K
            try simp only [Rg.wpP, Rg.pickn, List.getElem?_cons_succ, List.getElem?_cons_zero, Option.toList, List.map_cons, List.map_nil, List.cons_append, List.nil_append]
            constructor
            · refine Rg.wp1_step (fun K hK => ?_) ⟨⟨_, B6⟩, rfl⟩
              refine step_append_src _ (by rfl) _ _ _ (by rfl) w2.heap.size 47 i0 _ 2 16 Try.underlying41 hi0 hz0 hz1 hz2 rfl (by omega) (.slice (some ⟨w2.heap.size, 0, none⟩) 0 0) 0 [] (by rfl) ((World.ownsRow_made w2 _ 0 (Nat.le_refl _) (by unfold maxLen; omega) rfl).drew)
                (none) 0 0 (s1f) (by rfl) (HS1.out.later B6) HB1.out (by unfold maxLen; omega) (by omega) (by simp) ?_
              intro v7 w7 hown7 hg7 hat7
              have B7 : Below w2.heap.size w2 w7 := ((Fr.refl w2.heap.size (fun _ => False) w2).alloc (Nat.le_refl _) _).drew.grown hg7 (by simp <;> omega) (fun k e => .inl (by simp [Value.ownBlock] at e; omega)) |>.below (Nat.le_refl _) (fun _ h => h.elim)
              refine hK _ _ (fun _ => ⟨⟨_, B7⟩, rfl⟩) ?_
              clear hK K
              try simp only [Rg.wpP, Rg.pickn, List.getElem?_cons_succ, List.getElem?_cons_zero, Option.toList, List.map_cons, List.map_nil, List.cons_append, List.nil_append]
              refine Rg.wp1_step (fun K hK => ?_) ⟨⟨_, B7⟩, rfl⟩
              go_simp
              have BM : Below w2.heap.size w2 (w7.alloc (.cells #[.int .i64 tick, .int .i64 id] 47)) := B7.alloc B7.size _
              refine hK _ _ (fun _ => ⟨⟨_, BM⟩, rfl⟩) ?_
              clear hK K
              have HRM := World.alloc_heap_new w7 (.cells #[.int .i64 tick, .int .i64 id] 47)
              have HOM := ownsRow_below hown7 ((Below.refl w7.heap.size w7).alloc (Nat.le_refl _) (.cells #[.int .i64 tick, .int .i64 id] 47))
              try simp only [Rg.wpP, Rg.pickn, List.getElem?_cons_succ, List.getElem?_cons_zero, Option.toList, List.map_cons, List.map_nil, List.cons_append, List.nil_append]
              refine Rg.wpN_step (fun K hK => ?_) ⟨⟨_, BM⟩, rfl⟩
              refine step_append_src _ (by rfl) _ _ _ (by rfl) w2.heap.size 47 i0 _ 2 16 Try.underlying41 hi0 hz0 hz1 hz2 rfl (by omega) v7 (0 + 0) ([] ++ _) (by rfl) HOM
                (some ⟨w7.heap.size, 0, none⟩) 1 1 (En.cells ⟨tick, id⟩) (by rfl) (.inr ⟨_, rfl, by simp [En.cells], World.news_of_block (cs := #[.int .i64 tick, .int .i64 id]) (t := 47) (fr := (0, 0)) HRM⟩) (by simp [En.cells, Value.oneCell']) (by unfold maxLen; omega) (by omega) BM.size ?_
              intro v8 w8 hown8 hg8 hat8
              have B8 : Below w2.heap.size w2 w8 := (Fr.of_below BM (fun _ => False)).grown hg8 BM.size (fun k e => .inl ((HOM.lt k e).1)) |>.below (Nat.le_refl _) (fun _ h => h.elim)
              refine hK _ _ (fun _ => ⟨⟨_, B8⟩, rfl⟩) ?_
              clear hK K
              refine Rg.wpN_step (fun K hK => ?_) ⟨⟨_, B8⟩, rfl⟩
              refine step_append_src _ (by rfl) _ _ _ (by rfl) w2.heap.size 47 i0 _ 2 16 Try.underlying41 hi0 hz0 hz1 hz2 rfl (by omega) v8 (0 + 0 + 1) _ (by rfl) hown8
                (none) (0 - 0) 0 (s2f) (by rfl) (HS2.out.later B8) HB2.out (by unfold maxLen; omega) (by omega) B8.size ?_
              intro v9 w9 hown9 hg9 hat9
              have B9 : Below w2.heap.size w2 w9 := (Fr.of_below B8 (fun _ => False)).grown hg9 B8.size (fun k e => .inl ((hown8.lt k e).1)) |>.below (Nat.le_refl _) (fun _ h => h.elim)
              refine hK _ _ (fun _ => ⟨⟨_, B9⟩, rfl⟩) ?_
              clear hK K
              refine Rg.wpN_list (by decide) ?_
              simp only [List.map_cons, List.map_nil]
              obtain ⟨a9, c9, hva⟩ := own_form hown9
              have Q := hfin v9 w9 (by simpa using hown9) B9
              have hh9 := (B9.block _ lp).trans HH.out
              obtain ⟨m9, hm9⟩ : ∃ m9, 0 + 0 + 1 + (0 - 0) = m9 := ⟨_, rfl⟩
              rw [hm9] at hva
              rw [hva] at Q ⊢
              have HQ := Lib.hid Q
              have e0 := cell_of_block hh9 0; have e1 := frozen_of_block hh9 0
              have lp9 := lt_of_block hh9
              clear HOM HRM hown8 hown9 hg8 hg9 hat8 hat9 hh9 Q BM B8 B9 hva hfin hm9
              go_wp2_with fail
              go_ret
              exact HQ.out
            · refine Rg.wp1_step (fun K hK => ?_) ⟨⟨_, B6⟩, rfl⟩
              go_simp
              have B6' : Below w2.heap.size w2 ((w2.alloc (.cells #[] 47)).drew.alloc (.cells #[.int .i64 tick, .int .i64 id] 47)) := B6.alloc B6.size _
              refine hK _ _ (fun _ => ⟨⟨_, B6'⟩, rfl⟩) ?_
              clear hK K
              have hrow6 := World.alloc_heap_new (w2.alloc (.cells #[] 47)).drew (.cells #[.int .i64 tick, .int .i64 id] 47)
              try simp only [Rg.wpP, Rg.pickn, List.getElem?_cons_succ, List.getElem?_cons_zero, Option.toList, List.map_cons, List.map_nil, List.cons_append, List.nil_append]
              refine Rg.wp1_step (fun K hK => ?_) ⟨⟨_, B6'⟩, rfl⟩
              refine step_append_src _ (by rfl) _ _ _ (by rfl) w2.heap.size 47 i0 _ 2 16 Try.underlying41 hi0 hz0 hz1 hz2 rfl (by omega) (.slice (some ⟨w2.heap.size, 0, none⟩) 0 0) 0 [] (by rfl) (ownsRow_below ((World.ownsRow_made w2 _ 0 (Nat.le_refl _) (by unfold maxLen; omega) rfl).drew) ((Below.refl _ _).alloc (Nat.le_refl _) _))
                (none) 0 0 (s1f) (by rfl) (HS1.out.later B6') HB1.out (by unfold maxLen; omega) (by omega) (by simp; omega) ?_
              intro v7 w7 hown7 hg7 hat7
              have BM : Below w2.heap.size w2 w7 := (Fr.of_below B6' (fun _ => False)).grown hg7 (by simp <;> omega) (fun k e => .inl (by simp [Value.ownBlock] at e; omega)) |>.below (Nat.le_refl _) (fun _ h => h.elim)
              refine hK _ _ (fun _ => ⟨⟨_, BM⟩, rfl⟩) ?_
              clear hK K
              have HOM := hown7
              have HRM : w7.heap[w2.heap.size + 1]? = some (.cells #[.int .i64 tick, .int .i64 id] 47) := (hg7.block _ (by simp) (by simp [Value.ownBlock])).trans (alloc2_at _ _ _)
              try simp only [Rg.wpP, Rg.pickn, List.getElem?_cons_succ, List.getElem?_cons_zero, Option.toList, List.map_cons, List.map_nil, List.cons_append, List.nil_append]
              refine Rg.wpN_step (fun K hK => ?_) ⟨⟨_, BM⟩, rfl⟩
              refine step_append_src _ (by rfl) _ _ _ (by rfl) w2.heap.size 47 i0 _ 2 16 Try.underlying41 hi0 hz0 hz1 hz2 rfl (by omega) v7 (0 + 0) ([] ++ _) (by rfl) HOM
                (some ⟨w2.heap.size + 1, 0, none⟩) 1 1 (En.cells ⟨tick, id⟩) (by rfl) (.inr ⟨_, rfl, by simp [En.cells], World.news_of_block (cs := #[.int .i64 tick, .int .i64 id]) (t := 47) (fr := (0, 0)) HRM⟩) (by simp [En.cells, Value.oneCell']) (by unfold maxLen; omega) (by omega) BM.size ?_
              intro v8 w8 hown8 hg8 hat8
              have B8 : Below w2.heap.size w2 w8 := (Fr.of_below BM (fun _ => False)).grown hg8 BM.size (fun k e => .inl ((HOM.lt k e).1)) |>.below (Nat.le_refl _) (fun _ h => h.elim)
              refine hK _ _ (fun _ => ⟨⟨_, B8⟩, rfl⟩) ?_
              clear hK K
              refine Rg.wpN_step (fun K hK => ?_) ⟨⟨_, B8⟩, rfl⟩
              refine step_append_src _ (by rfl) _ _ _ (by rfl) w2.heap.size 47 i0 _ 2 16 Try.underlying41 hi0 hz0 hz1 hz2 rfl (by omega) v8 (0 + 0 + 1) _ (by rfl) hown8
                (none) (0 - 0) 0 (s2f) (by rfl) (HS2.out.later B8) HB2.out (by unfold maxLen; omega) (by omega) B8.size ?_
              intro v9 w9 hown9 hg9 hat9
              have B9 : Below w2.heap.size w2 w9 := (Fr.of_below B8 (fun _ => False)).grown hg9 B8.size (fun k e => .inl ((hown8.lt k e).1)) |>.below (Nat.le_refl _) (fun _ h => h.elim)
              refine hK _ _ (fun _ => ⟨⟨_, B9⟩, rfl⟩) ?_
              clear hK K
              refine Rg.wpN_list (by decide) ?_
              simp only [List.map_cons, List.map_nil]
              obtain ⟨a9, c9, hva⟩ := own_form hown9
              have Q := hfin v9 w9 (by simpa using hown9) B9
              have hh9 := (B9.block _ lp).trans HH.out
              obtain ⟨m9, hm9⟩ : ∃ m9, 0 + 0 + 1 + (0 - 0) = m9 := ⟨_, rfl⟩
              rw [hm9] at hva
              rw [hva] at Q ⊢
              have HQ := Lib.hid Q
              have e0 := cell_of_block hh9 0; have e1 := frozen_of_block hh9 0
              have lp9 := lt_of_block hh9
              clear HOM HRM hown8 hown9 hg8 hg9 hat8 hat9 hh9 Q BM B8 B9 hva hfin hm9
              go_wp2_with fail
              go_ret
              exact HQ.out
        · as_aux_lemma =>
            refine Rg.wp1_step (fun K hK => ?_) ⟨⟨_, fx0⟩, rfl⟩
            go_simp
            have B6 : Below w2.heap.size w2 (w2.alloc (.cells #[.int .i64 tick, .int .i64 id] 47)).drew := ((Below.refl _ _).alloc (Nat.le_refl _) _).drew
            have hrow6 := World.alloc_heap_new w2 (.cells #[.int .i64 tick, .int .i64 id] 47)
            refine hK _ _ (fun _ => ⟨⟨_, B6⟩, rfl⟩) ?_
            clear hK K
            try simp only [Rg.wpP, Rg.pickn, List.getElem?_cons_succ, List.getElem?_cons_zero, Option.toList, List.map_cons, List.map_nil, List.cons_append, List.nil_append]
            refine Rg.wp1_step (fun K hK => ?_) ⟨⟨_, B6⟩, rfl⟩
            go_simp
            have B6' : Below w2.heap.size w2 ((w2.alloc (.cells #[.int .i64 tick, .int .i64 id] 47)).drew.alloc (.cells #[] 47)) := B6.alloc B6.size _
            refine hK _ _ (fun _ => ⟨⟨_, B6'⟩, rfl⟩) ?_
            clear hK K
            try simp only [Rg.wpP, Rg.pickn, List.getElem?_cons_succ, List.getElem?_cons_zero, Option.toList, List.map_cons, List.map_nil, List.cons_append, List.nil_append]
            refine Rg.wp1_step (fun K hK => ?_) ⟨⟨_, B6'⟩, rfl⟩
            refine step_append_src _ (by rfl) _ _ _ (by rfl) w2.heap.size 47 i0 _ 2 16 Try.underlying41 hi0 hz0 hz1 hz2 rfl (by omega) (.slice (some ⟨w2.heap.size + 1, 0, none⟩) 0 0) 0 [] (by rfl) (ownsMade3 w2)
              (none) 0 0 (s1f) (by rfl) (HS1.out.later B6') HB1.out (by unfold maxLen; omega) (by omega) (by simp; omega) ?_
            intro v7 w7 hown7 hg7 hat7
            have BM : Below w2.heap.size w2 w7 := (Fr.of_below B6' (fun _ => False)).grown hg7 (by simp <;> omega) (fun k e => .inl (by simp [Value.ownBlock] at e; omega)) |>.below (Nat.le_refl _) (fun _ h => h.elim)
            refine hK _ _ (fun _ => ⟨⟨_, BM⟩, rfl⟩) ?_
            clear hK K
            have HOM := hown7
            have HRM : w7.heap[w2.heap.size]? = some (.cells #[.int .i64 tick, .int .i64 id] 47) := (hg7.block _ (by simp <;> omega) (by simp [Value.ownBlock])).trans (alloc_other (World.alloc_heap_new w2 _))
            try simp only [Rg.wpP, Rg.pickn, List.getElem?_cons_succ, List.getElem?_cons_zero, Option.toList, List.map_cons, List.map_nil, List.cons_append, List.nil_append]
            refine Rg.wpN_step (fun K hK => ?_) ⟨⟨_, BM⟩, rfl⟩
            refine step_append_src _ (by rfl) _ _ _ (by rfl) w2.heap.size 47 i0 _ 2 16 Try.underlying41 hi0 hz0 hz1 hz2 rfl (by omega) v7 (0 + 0) ([] ++ _) (by rfl) HOM
              (some ⟨w2.heap.size, 0, none⟩) 1 1 (En.cells ⟨tick, id⟩) (by rfl) (.inr ⟨_, rfl, by simp [En.cells], World.news_of_block (cs := #[.int .i64 tick, .int .i64 id]) (t := 47) (fr := (0, 0)) HRM⟩) (by simp [En.cells, Value.oneCell']) (by unfold maxLen; omega) (by omega) BM.size ?_
            intro v8 w8 hown8 hg8 hat8
            have B8 : Below w2.heap.size w2 w8 := (Fr.of_below BM (fun _ => False)).grown hg8 BM.size (fun k e => .inl ((HOM.lt k e).1)) |>.below (Nat.le_refl _) (fun _ h => h.elim)
            refine hK _ _ (fun _ => ⟨⟨_, B8⟩, rfl⟩) ?_
            clear hK K
            refine Rg.wpN_step (fun K hK => ?_) ⟨⟨_, B8⟩, rfl⟩
            refine step_append_src _ (by rfl) _ _ _ (by rfl) w2.heap.size 47 i0 _ 2 16 Try.underlying41 hi0 hz0 hz1 hz2 rfl (by omega) v8 (0 + 0 + 1) _ (by rfl) hown8
              (none) (0 - 0) 0 (s2f) (by rfl) (HS2.out.later B8) HB2.out (by unfold maxLen; omega) (by omega) B8.size ?_
            intro v9 w9 hown9 hg9 hat9
            have B9 : Below w2.heap.size w2 w9 := (Fr.of_below B8 (fun _ => False)).grown hg9 B8.size (fun k e => .inl ((hown8.lt k e).1)) |>.below (Nat.le_refl _) (fun _ h => h.elim)
            refine hK _ _ (fun _ => ⟨⟨_, B9⟩, rfl⟩) ?_
            clear hK K
            refine Rg.wpN_list (by decide) ?_
            simp only [List.map_cons, List.map_nil]
            obtain ⟨a9, c9, hva⟩ := own_form hown9
            have Q := hfin v9 w9 (by simpa using hown9) B9
            have hh9 := (B9.block _ lp).trans HH.out
            obtain ⟨m9, hm9⟩ : ∃ m9, 0 + 0 + 1 + (0 - 0) = m9 := ⟨_, rfl⟩
            rw [hm9] at hva
            rw [hva] at Q ⊢
            have HQ := Lib.hid Q
            have e0 := cell_of_block hh9 0; have e1 := frozen_of_block hh9 0
            have lp9 := lt_of_block hh9
            clear HOM HRM hown8 hown9 hg8 hg9 hat8 hat9 hh9 Q BM B8 B9 hva hfin hm9
            go_wp2_with fail
            go_ret
            exact HQ.out
      | some ad0 =>
        have hsp : ∃ b o, ad0 = ⟨b, o, none⟩ := HSP.out ad0 rfl
        obtain ⟨b, o, rfl⟩ := hsp
        obtain ⟨ad, hif⟩ : ∃ ad, (if cap = k then (some ⟨b, o, none⟩ : Option Addr) else some ⟨b, o + k * 2, none⟩) = some ad := by split <;> exact ⟨_, rfl⟩
        have hs1 := HR2.out.src rfl 0 k (by rw [HN.out]; omega) ⟨b, o, none⟩ cap (fun b' o' e => by cases e; simp)
        rw [List.drop_zero, show (s1.take k).length = k by rw [List.length_take, HN.out]; omega] at hs1
        have hs2 : Src w2 2 (some ad) (n - k) (cap - k) ((s1.drop k).flatMap En.cells) := by
          by_cases hc : cap = k
          · have hnil : s1.drop k = [] := List.drop_eq_nil_of_le (by rw [HN.out]; omega)
            rw [hnil]
            exact .inr ⟨ad, rfl, by simp; omega, fun j u hu => by simp at hu⟩
          · have h2 := HR2.out.src rfl k n (by rw [HN.out]; omega) ad (cap - k) (fun b' o' e => by
              cases e
              rw [if_neg hc] at hif; exact (Option.some.inj hif).symm)
            rw [show s1.take n = s1 by rw [← HN.out]; exact List.take_length, show (s1.drop k).length = n - k by rw [List.length_drop, HN.out]] at h2
            exact h2
        rw [hs1f, hs2f] at hfin
        rw [hs1f] at hs1; rw [hs2f] at hs2
        have HS1 := Lib.hid hs1; have HS2 := Lib.hid hs2
        have hkc : k ≤ cap := by omega
        have q0 : ∀ y : Later w2, y.wd.cell? ⟨pm, 0, none⟩ = some (.slice (some ⟨b, o, none⟩) n cap) := fun y => (y.cell lp).trans (cell_of_block HH.out 0)
        clear hs1 hs2 hins hs1f hs2f
        obtain ⟨i0, hi0, hz0, hz1, hz2⟩ := info_parts infoRef
        have fx0 := (Below.refl w2.heap.size w2).drew
        go_wp2_with fail
        refine Rg.wp_region_plan (by kernel_rfl) [0, 2, 3, 4, 5, 6, 7, 9, 10, 11, 14, 15, 16, 17, 18, 19] (.two 1 (.two 8 (.one 12 (.fin [13, 20, 21, 22, 23])) 12 (.one 8 (.fin [13, 20, 21, 22, 23]))) 12 (.one 1 (.one 8 (.fin [13, 20, 21, 22, 23])))) 21 (by kernel_rfl) (by kernel_rfl) (by kernel_rfl) (fun w' => ∃ y : Later w2, w' = y.wd) (fun c a a' w hd h => ⟨hd.symm.trans h.1, h.2⟩) ⟨⟨_, fx0⟩, rfl⟩ ?_
        simp only [Rg.picks, List.getElem?_cons_succ, List.getElem?_cons_zero, Option.toList, List.cons_append, List.nil_append]
        repeat (quiet_step (fail))
        refine wpQuiet_nil ?_
        clear q0
        try simp only [Rg.wpP, Rg.pickn, List.getElem?_cons_succ, List.getElem?_cons_zero, Option.toList, List.map_cons, List.map_nil, List.cons_append, List.nil_append]
        constructor
        · as_aux_lemma =>
            refine Rg.wp1_step (fun K hK => ?_) ⟨⟨_, fx0⟩, rfl⟩
            go_simp
            have B6 : Below w2.heap.size w2 (w2.alloc (.cells #[] 47)).drew := ((Below.refl _ _).alloc (Nat.le_refl _) _).drew
            refine hK _ _ (fun _ => ⟨⟨_, B6⟩, rfl⟩) ?_
            clear hK K
            try simp only [Rg.wpP, Rg.pickn, List.getElem?_cons_succ, List.getElem?_cons_zero, Option.toList, List.map_cons, List.map_nil, List.cons_append, List.nil_append]
            constructor
            · refine Rg.wp1_step (fun K hK => ?_) ⟨⟨_, B6⟩, rfl⟩
              refine step_append_src _ (by rfl) _ _ _ (by rfl) w2.heap.size 47 i0 _ 2 16 Try.underlying41 hi0 hz0 hz1 hz2 rfl (by omega) (.slice (some ⟨w2.heap.size, 0, none⟩) 0 0) 0 [] (by rfl) ((World.ownsRow_made w2 _ 0 (Nat.le_refl _) (by unfold maxLen; omega) rfl).drew)
                (some ⟨b, o, none⟩) k cap (s1f) (by rfl) (HS1.out.later B6) HB1.out (by unfold maxLen; omega) (by omega) (by simp) ?_
              intro v7 w7 hown7 hg7 hat7
              have B7 : Below w2.heap.size w2 w7 := ((Fr.refl w2.heap.size (fun _ => False) w2).alloc (Nat.le_refl _) _).drew.grown hg7 (by simp <;> omega) (fun k e => .inl (by simp [Value.ownBlock] at e; omega)) |>.below (Nat.le_refl _) (fun _ h => h.elim)
              refine hK _ _ (fun _ => ⟨⟨_, B7⟩, rfl⟩) ?_
              clear hK K
              try simp only [Rg.wpP, Rg.pickn, List.getElem?_cons_succ, List.getElem?_cons_zero, Option.toList, List.map_cons, List.map_nil, List.cons_append, List.nil_append]
              refine Rg.wp1_step (fun K hK => ?_) ⟨⟨_, B7⟩, rfl⟩
              go_simp
              have BM : Below w2.heap.size w2 (w7.alloc (.cells #[.int .i64 tick, .int .i64 id] 47)) := B7.alloc B7.size _
              refine hK _ _ (fun _ => ⟨⟨_, BM⟩, rfl⟩) ?_
              clear hK K
              have HRM := World.alloc_heap_new w7 (.cells #[.int .i64 tick, .int .i64 id] 47)
              have HOM := ownsRow_below hown7 ((Below.refl w7.heap.size w7).alloc (Nat.le_refl _) (.cells #[.int .i64 tick, .int .i64 id] 47))
              try simp only [Rg.wpP, Rg.pickn, List.getElem?_cons_succ, List.getElem?_cons_zero, Option.toList, List.map_cons, List.map_nil, List.cons_append, List.nil_append]
              refine Rg.wpN_step (fun K hK => ?_) ⟨⟨_, BM⟩, rfl⟩
              refine step_append_src _ (by rfl) _ _ _ (by rfl) w2.heap.size 47 i0 _ 2 16 Try.underlying41 hi0 hz0 hz1 hz2 rfl (by omega) v7 (0 + k) ([] ++ _) (by rfl) HOM
                (some ⟨w7.heap.size, 0, none⟩) 1 1 (En.cells ⟨tick, id⟩) (by rfl) (.inr ⟨_, rfl, by simp [En.cells], World.news_of_block (cs := #[.int .i64 tick, .int .i64 id]) (t := 47) (fr := (0, 0)) HRM⟩) (by simp [En.cells, Value.oneCell']) (by unfold maxLen; omega) (by omega) BM.size ?_
              intro v8 w8 hown8 hg8 hat8
              have B8 : Below w2.heap.size w2 w8 := (Fr.of_below BM (fun _ => False)).grown hg8 BM.size (fun k e => .inl ((HOM.lt k e).1)) |>.below (Nat.le_refl _) (fun _ h => h.elim)
              refine hK _ _ (fun _ => ⟨⟨_, B8⟩, rfl⟩) ?_
              clear hK K
              refine Rg.wpN_step (fun K hK => ?_) ⟨⟨_, B8⟩, rfl⟩
              refine step_append_src _ (by rfl) _ _ _ (by rfl) w2.heap.size 47 i0 _ 2 16 Try.underlying41 hi0 hz0 hz1 hz2 rfl (by omega) v8 (0 + k + 1) _ (by rfl) hown8
                (some ad) (n - k) (cap - k) (s2f) (by rfl) (HS2.out.later B8) HB2.out (by unfold maxLen; omega) (by omega) B8.size ?_
              intro v9 w9 hown9 hg9 hat9
              have B9 : Below w2.heap.size w2 w9 := (Fr.of_below B8 (fun _ => False)).grown hg9 B8.size (fun k e => .inl ((hown8.lt k e).1)) |>.below (Nat.le_refl _) (fun _ h => h.elim)
              refine hK _ _ (fun _ => ⟨⟨_, B9⟩, rfl⟩) ?_
              clear hK K
              refine Rg.wpN_list (by decide) ?_
              simp only [List.map_cons, List.map_nil]
              obtain ⟨a9, c9, hva⟩ := own_form hown9
              have Q := hfin v9 w9 (by simpa using hown9) B9
              have hh9 := (B9.block _ lp).trans HH.out
              obtain ⟨m9, hm9⟩ : ∃ m9, 0 + k + 1 + (n - k) = m9 := ⟨_, rfl⟩
              rw [hm9] at hva
              rw [hva] at Q ⊢
              have HQ := Lib.hid Q
              have e0 := cell_of_block hh9 0; have e1 := frozen_of_block hh9 0
              have lp9 := lt_of_block hh9
              clear HOM HRM hown8 hown9 hg8 hg9 hat8 hat9 hh9 Q BM B8 B9 hva hfin hm9
              go_wp2_with fail
              go_ret
              exact HQ.out
            · refine Rg.wp1_step (fun K hK => ?_) ⟨⟨_, B6⟩, rfl⟩
              go_simp
              have B6' : Below w2.heap.size w2 ((w2.alloc (.cells #[] 47)).drew.alloc (.cells #[.int .i64 tick, .int .i64 id] 47)) := B6.alloc B6.size _
              refine hK _ _ (fun _ => ⟨⟨_, B6'⟩, rfl⟩) ?_
              clear hK K
              have hrow6 := World.alloc_heap_new (w2.alloc (.cells #[] 47)).drew (.cells #[.int .i64 tick, .int .i64 id] 47)
              try simp only [Rg.wpP, Rg.pickn, List.getElem?_cons_succ, List.getElem?_cons_zero, Option.toList, List.map_cons, List.map_nil, List.cons_append, List.nil_append]
              refine Rg.wp1_step (fun K hK => ?_) ⟨⟨_, B6'⟩, rfl⟩
              refine step_append_src _ (by rfl) _ _ _ (by rfl) w2.heap.size 47 i0 _ 2 16 Try.underlying41 hi0 hz0 hz1 hz2 rfl (by omega) (.slice (some ⟨w2.heap.size, 0, none⟩) 0 0) 0 [] (by rfl) (ownsRow_below ((World.ownsRow_made w2 _ 0 (Nat.le_refl _) (by unfold maxLen; omega) rfl).drew) ((Below.refl _ _).alloc (Nat.le_refl _) _))
                (some ⟨b, o, none⟩) k cap (s1f) (by rfl) (HS1.out.later B6') HB1.out (by unfold maxLen; omega) (by omega) (by simp; omega) ?_
              intro v7 w7 hown7 hg7 hat7
              have BM : Below w2.heap.size w2 w7 := (Fr.of_below B6' (fun _ => False)).grown hg7 (by simp <;> omega) (fun k e => .inl (by simp [Value.ownBlock] at e; omega)) |>.below (Nat.le_refl _) (fun _ h => h.elim)
              refine hK _ _ (fun _ => ⟨⟨_, BM⟩, rfl⟩) ?_
              clear hK K
              have HOM := hown7
              have HRM : w7.heap[w2.heap.size + 1]? = some (.cells #[.int .i64 tick, .int .i64 id] 47) := (hg7.block _ (by simp) (by simp [Value.ownBlock])).trans (alloc2_at _ _ _)
              try simp only [Rg.wpP, Rg.pickn, List.getElem?_cons_succ, List.getElem?_cons_zero, Option.toList, List.map_cons, List.map_nil, List.cons_append, List.nil_append]
              refine Rg.wpN_step (fun K hK => ?_) ⟨⟨_, BM⟩, rfl⟩
              refine step_append_src _ (by rfl) _ _ _ (by rfl) w2.heap.size 47 i0 _ 2 16 Try.underlying41 hi0 hz0 hz1 hz2 rfl (by omega) v7 (0 + k) ([] ++ _) (by rfl) HOM
                (some ⟨w2.heap.size + 1, 0, none⟩) 1 1 (En.cells ⟨tick, id⟩) (by rfl) (.inr ⟨_, rfl, by simp [En.cells], World.news_of_block (cs := #[.int .i64 tick, .int .i64 id]) (t := 47) (fr := (0, 0)) HRM⟩) (by simp [En.cells, Value.oneCell']) (by unfold maxLen; omega) (by omega) BM.size ?_
              intro v8 w8 hown8 hg8 hat8
              have B8 : Below w2.heap.size w2 w8 := (Fr.of_below BM (fun _ => False)).grown hg8 BM.size (fun k e => .inl ((HOM.lt k e).1)) |>.below (Nat.le_refl _) (fun _ h => h.elim)
              refine hK _ _ (fun _ => ⟨⟨_, B8⟩, rfl⟩) ?_
              clear hK K
              refine Rg.wpN_step (fun K hK => ?_) ⟨⟨_, B8⟩, rfl⟩
              refine step_append_src _ (by rfl) _ _ _ (by rfl) w2.heap.size 47 i0 _ 2 16 Try.underlying41 hi0 hz0 hz1 hz2 rfl (by omega) v8 (0 + k + 1) _ (by rfl) hown8
                (some ad) (n - k) (cap - k) (s2f) (by rfl) (HS2.out.later B8) HB2.out (by unfold maxLen; omega) (by omega) B8.size ?_
              intro v9 w9 hown9 hg9 hat9
              have B9 : Below w2.heap.size w2 w9 := (Fr.of_below B8 (fun _ => False)).grown hg9 B8.size (fun k e => .inl ((hown8.lt k e).1)) |>.below (Nat.le_refl _) (fun _ h => h.elim)
              refine hK _ _ (fun _ => ⟨⟨_, B9⟩, rfl⟩) ?_
              clear hK K
              refine Rg.wpN_list (by decide) ?_
              simp only [List.map_cons, List.map_nil]
              obtain ⟨a9, c9, hva⟩ := own_form hown9
              have Q := hfin v9 w9 (by simpa using hown9) B9
              have hh9 := (B9.block _ lp).trans HH.out
              obtain ⟨m9, hm9⟩ : ∃ m9, 0 + k + 1 + (n - k) = m9 := ⟨_, rfl⟩
              rw [hm9] at hva
              rw [hva] at Q ⊢
              have HQ := Lib.hid Q
              have e0 := cell_of_block hh9 0; have e1 := frozen_of_block hh9 0
              have lp9 := lt_of_block hh9
              clear HOM HRM hown8 hown9 hg8 hg9 hat8 hat9 hh9 Q BM B8 B9 hva hfin hm9
              go_wp2_with fail
              go_ret
              exact HQ.out
        · as_aux_lemma =>
            refine Rg.wp1_step (fun K hK => ?_) ⟨⟨_, fx0⟩, rfl⟩
            go_simp
            have B6 : Below w2.heap.size w2 (w2.alloc (.cells #[.int .i64 tick, .int .i64 id] 47)).drew := ((Below.refl _ _).alloc (Nat.le_refl _) _).drew
            have hrow6 := World.alloc_heap_new w2 (.cells #[.int .i64 tick, .int .i64 id] 47)
            refine hK _ _ (fun _ => ⟨⟨_, B6⟩, rfl⟩) ?_
            clear hK K
            try simp only [Rg.wpP, Rg.pickn, List.getElem?_cons_succ, List.getElem?_cons_zero, Option.toList, List.map_cons, List.map_nil, List.cons_append, List.nil_append]
            refine Rg.wp1_step (fun K hK => ?_) ⟨⟨_, B6⟩, rfl⟩
            go_simp
            have B6' : Below w2.heap.size w2 ((w2.alloc (.cells #[.int .i64 tick, .int .i64 id] 47)).drew.alloc (.cells #[] 47)) := B6.alloc B6.size _
            refine hK _ _ (fun _ => ⟨⟨_, B6'⟩, rfl⟩) ?_
            clear hK K
            try simp only [Rg.wpP, Rg.pickn, List.getElem?_cons_succ, List.getElem?_cons_zero, Option.toList, List.map_cons, List.map_nil, List.cons_append, List.nil_append]
            refine Rg.wp1_step (fun K hK => ?_) ⟨⟨_, B6'⟩, rfl⟩
            refine step_append_src _ (by rfl) _ _ _ (by rfl) w2.heap.size 47 i0 _ 2 16 Try.underlying41 hi0 hz0 hz1 hz2 rfl (by omega) (.slice (some ⟨w2.heap.size + 1, 0, none⟩) 0 0) 0 [] (by rfl) (ownsMade3 w2)
              (some ⟨b, o, none⟩) k cap (s1f) (by rfl) (HS1.out.later B6') HB1.out (by unfold maxLen; omega) (by omega) (by simp; omega) ?_
            intro v7 w7 hown7 hg7 hat7
            have BM : Below w2.heap.size w2 w7 := (Fr.of_below B6' (fun _ => False)).grown hg7 (by simp <;> omega) (fun k e => .inl (by simp [Value.ownBlock] at e; omega)) |>.below (Nat.le_refl _) (fun _ h => h.elim)
            refine hK _ _ (fun _ => ⟨⟨_, BM⟩, rfl⟩) ?_
            clear hK K
            have HOM := hown7
            have HRM : w7.heap[w2.heap.size]? = some (.cells #[.int .i64 tick, .int .i64 id] 47) := (hg7.block _ (by simp <;> omega) (by simp [Value.ownBlock])).trans (alloc_other (World.alloc_heap_new w2 _))
            try simp only [Rg.wpP, Rg.pickn, List.getElem?_cons_succ, List.getElem?_cons_zero, Option.toList, List.map_cons, List.map_nil, List.cons_append, List.nil_append]
            refine Rg.wpN_step (fun K hK => ?_) ⟨⟨_, BM⟩, rfl⟩
            refine step_append_src _ (by rfl) _ _ _ (by rfl) w2.heap.size 47 i0 _ 2 16 Try.underlying41 hi0 hz0 hz1 hz2 rfl (by omega) v7 (0 + k) ([] ++ _) (by rfl) HOM
              (some ⟨w2.heap.size, 0, none⟩) 1 1 (En.cells ⟨tick, id⟩) (by rfl) (.inr ⟨_, rfl, by simp [En.cells], World.news_of_block (cs := #[.int .i64 tick, .int .i64 id]) (t := 47) (fr := (0, 0)) HRM⟩) (by simp [En.cells, Value.oneCell']) (by unfold maxLen; omega) (by omega) BM.size ?_
            intro v8 w8 hown8 hg8 hat8
            have B8 : Below w2.heap.size w2 w8 := (Fr.of_below BM (fun _ => False)).grown hg8 BM.size (fun k e => .inl ((HOM.lt k e).1)) |>.below (Nat.le_refl _) (fun _ h => h.elim)
            refine hK _ _ (fun _ => ⟨⟨_, B8⟩, rfl⟩) ?_
            clear hK K
            refine Rg.wpN_step (fun K hK => ?_) ⟨⟨_, B8⟩, rfl⟩
            refine step_append_src _ (by rfl) _ _ _ (by rfl) w2.heap.size 47 i0 _ 2 16 Try.underlying41 hi0 hz0 hz1 hz2 rfl (by omega) v8 (0 + k + 1) _ (by rfl) hown8
              (some ad) (n - k) (cap - k) (s2f) (by rfl) (HS2.out.later B8) HB2.out (by unfold maxLen; omega) (by omega) B8.size ?_
            intro v9 w9 hown9 hg9 hat9
            have B9 : Below w2.heap.size w2 w9 := (Fr.of_below B8 (fun _ => False)).grown hg9 B8.size (fun k e => .inl ((hown8.lt k e).1)) |>.below (Nat.le_refl _) (fun _ h => h.elim)
            refine hK _ _ (fun _ => ⟨⟨_, B9⟩, rfl⟩) ?_
            clear hK K
            refine Rg.wpN_list (by decide) ?_
            simp only [List.map_cons, List.map_nil]
            obtain ⟨a9, c9, hva⟩ := own_form hown9
            have Q := hfin v9 w9 (by simpa using hown9) B9
            have hh9 := (B9.block _ lp).trans HH.out
            obtain ⟨m9, hm9⟩ : ∃ m9, 0 + k + 1 + (n - k) = m9 := ⟨_, rfl⟩
            rw [hm9] at hva
            rw [hva] at Q ⊢
            have HQ := Lib.hid Q
            have e0 := cell_of_block hh9 0; have e1 := frozen_of_block hh9 0
            have lp9 := lt_of_block hh9
            clear HOM HRM hown8 hown9 hg8 hg9 hat8 hat9 hh9 Q BM B8 B9 hva hfin hm9
            go_wp2_with fail
            go_ret
            exact HQ.out
    clear hKa
    go_loopw [7] (fun i wr => w2 = wr ∧ ∃ k : Nat, k ≤ n ∧ i = .int .i64 k ∧ Hid (∀ j, j < k → ∀ y : En, s1[j]? = some y → ltE y ⟨tick, id⟩ = true)) (fun i _ => n - (intOf i).toNat)
    case atStart => exact ⟨rfl, 0, Nat.zero_le _, rfl, Lib.hid fun j hj => by omega⟩
    case round =>
      obtain ⟨rfl, k, hk, rfl, hI⟩ := hrel
      by_cases hlt : k < n
      · obtain ⟨y, hy⟩ : ∃ y, s1[k]? = some y := ⟨_, List.getElem?_eq_getElem (by rw [HN.out]; exact hlt)⟩
        obtain ⟨b, o, rfl, hb, hbpm, c1, c2⟩ := HC.out k y hy
        have HY := Lib.hid hy
        clear hy
        by_cases hA : y.tick < tick
        · have hA1 : decide (y.tick < tick) = true := by simpa using hA
          have HL := Lib.hid (show ltE y ⟨tick, id⟩ = true by unfold ltE; rw [if_neg (by simp only; omega)]; simpa using hA)
          clear hA
          go_wp2_with fail
          refine ⟨⟨trivial, k + 1, by omega, by go_num, Lib.hid fun j hj z hz => ?_⟩, by simp [intOf]; omega⟩
          by_cases e : j = k
          · subst e; rw [HY.out] at hz; cases hz; exact HL.out
          · exact hI.out j (by omega) z hz
        · have hA1 : decide (y.tick < tick) = false := by simpa using hA
          by_cases hB : y.tick = tick
          · have hB1 : (y.tick == tick) = true := by simpa using hB
            by_cases hC : y.id < id
            · have hC1 : decide (y.id < id) = true := by simpa using hC
              have HL := Lib.hid (show ltE y ⟨tick, id⟩ = true by unfold ltE; rw [if_pos hB]; simpa using hC)
              clear hA hB hC
              go_wp2_with fail
              refine ⟨⟨trivial, k + 1, by omega, by go_num, Lib.hid fun j hj z hz => ?_⟩, by simp [intOf]; omega⟩
              by_cases e : j = k
              · subst e; rw [HY.out] at hz; cases hz; exact HL.out
              · exact hI.out j (by omega) z hz
            · have hC1 : decide (y.id < id) = false := by simpa using hC
              have HT := tw_at (s := s1) (x := ⟨tick, id⟩) (k := k) (by rw [HN.out]; omega) hI.out (fun z hz => by rw [HY.out] at hz; cases hz; unfold ltE; rw [if_pos hB]; simpa using hC)
              clear hA hB hC
              have HT := Lib.hid HT
              go_wp2_with fail
              apply hK <;> first | exact HT.out | omega
          · have hB1 : (y.tick == tick) = false := by simpa using hB
            have HT := Lib.hid (tw_at (s := s1) (x := ⟨tick, id⟩) (k := k) (by rw [HN.out]; omega) hI.out (fun z hz => by rw [HY.out] at hz; cases hz; unfold ltE; rw [if_neg hB]; simpa using hA))
            clear hA hB
            go_wp2_with fail
            apply hK <;> first | exact HT.out | omega
      · obtain rfl : n = k := by omega
        have HT := Lib.hid (tw_at (s := s1) (x := ⟨tick, id⟩) (k := n) (by rw [HN.out]; omega) hI.out (fun z hz => by have := (List.getElem?_eq_some_iff.1 hz).1; rw [HN.out] at this; omega))
        clear hlt hk
        go_wp2_with fail
        apply hK <;> first | exact HT.out | omega
  · have hcd : decide (c0 < 0) = false := by simpa using hc1
    clear hc1
    go_wp2_with fail
    refine (HDROP.out w1 HB.out).mono ?_
    rintro e w2 ⟨rfl, v2, hR, hf, hn⟩
    have HR2 := Lib.hid hR
    have HF2 := Lib.hid (show Fr w.heap.size (fun q => q = pm) w w2 from (Fr.of_below HB.out _).trans (hf.mono HB.out.size fun _ _ e => e))
    have hnil := hR.nil
    obtain ⟨a2, cap, rfl, hlc, hcm, hc⟩ := hR.row
    obtain ⟨n, hn1⟩ : ∃ n, s1.length = n := ⟨_, rfl⟩
    have HN := Lib.hid hn1
    have hh := hR.head
    have HSP := Lib.hid (show ∀ ad0, a2 = some ad0 → ∃ b o, ad0 = ⟨b, o, none⟩ from fun ad0 e => by subst e; obtain ⟨b, o, sp⟩ := ad0; have h := hR.spot _ _ _ rfl; simp only at h; subst h; exact ⟨b, o, rfl⟩)
    rw [hn1] at hlc hh
    have HNIL := Lib.hid (show a2 = none → n = 0 ∧ cap = 0 from fun e => by subst e; exact hn1 ▸ hnil _ _ rfl)
    have hn6 : n ≤ 1000000 := by have := HOL.out; omega
    have HH := Lib.hid hh; have HC := Lib.hid hc
    have lp := lt_of_block hh
    clear hR hf hn hn1 hh hc hnil
    have q0 := cell_of_block HH.out 0
    go_wp2_with fail
    rename_i K0 hKa
    have hK : ∀ (k : Nat) (u3 u4 u5 u8 u9 u10 u11 u12 u13 u14 u15 u16 u17 u18 u19 u20 u21 u22 u23 u24 u25 u26 u27 u28 u29 u30 u31 u32 u33 u34 u35 u36 u37 u38 u39 u40 u41 u42 u43 u44 u45 u46 u47 u48 u49 u50 u51 u52 u53 u54 u55 u56 u57 u58 u59 u60 u61 u62 u63 u64 u65 u66 u67 u68 u69 u70 u71 u72 u73 u74 u75 u76 u77 u78 u79 u80 u81 u82 u83 u84 u85 u86 u87 u88 u89 u90 u91 u92 u93 u94 u95 u96 : Value), k ≤ n → insE ⟨tick, id⟩ s1 = s1.take k ++ ⟨tick, id⟩ :: s1.drop k → K0 { tmps := #[.pointer (some ⟨pm, 0, none⟩), .int .i64 id, .int .i64 tick, u3, u4, u5, .int .i64 0, .int .i64 k, u8, u9, u10, u11, u12, u13, u14, u15, u16, u17, u18, u19, u20, u21, u22, u23, u24, u25, u26, u27, u28, u29, u30, u31, u32, u33, u34, u35, u36, u37, u38, u39, u40, u41, u42, u43, u44, u45, u46, u47, u48, u49, u50, u51, u52, u53, u54, u55, u56, u57, u58, u59, u60, u61, u62, u63, u64, u65, u66, u67, u68, u69, u70, u71, u72, u73, u74, u75, u76, u77, u78, u79, u80, u81, u82, u83, u84, u85, u86, u87, u88, u89, u90, u91, u92, u93, u94, u95, u96], defers := [] } w2 := by
      intro k u3 u4 u5 u8 u9 u10 u11 u12 u13 u14 u15 u16 u17 u18 u19 u20 u21 u22 u23 u24 u25 u26 u27 u28 u29 u30 u31 u32 u33 u34 u35 u36 u37 u38 u39 u40 u41 u42 u43 u44 u45 u46 u47 u48 u49 u50 u51 u52 u53 u54 u55 u56 u57 u58 u59 u60 u61 u62 u63 u64 u65 u66 u67 u68 u69 u70 u71 u72 u73 u74 u75 u76 u77 u78 u79 u80 u81 u82 u83 u84 u85 u86 u87 u88 u89 u90 u91 u92 u93 u94 u95 u96 hk hins
      refine hKa _ _ ?_
      clear hKa
      have hfin : ∀ (v9 : Value) (w9 : World), w9.ownsRow w2.heap.size 47 2 v9 (k + 1 + (n - k)) ((s1.take k).flatMap En.cells ++ (En.cells ⟨tick, id⟩ ++ (s1.drop k).flatMap En.cells)) → Below w2.heap.size w2 w9 → RefPost pm v (insE ⟨tick, id⟩ s1) (.int .i64 0) w (.returned (.int .i64 0)) (w9.setCell ⟨pm, 0, none⟩ v9) := fun v9 w9 ho hb => by
        rw [hins]
        have hl : (s1.take k ++ ⟨tick, id⟩ :: s1.drop k).length = k + 1 + (n - k) := by rw [List.length_append, List.length_take, List.length_cons, List.length_drop, HN.out]; omega
        have ho' : w9.ownsRow w2.heap.size 47 2 v9 (s1.take k ++ ⟨tick, id⟩ :: s1.drop k).length ((s1.take k ++ ⟨tick, id⟩ :: s1.drop k).flatMap En.cells) := by rw [hl, List.flatMap_append, List.flatMap_cons]; exact ho
        have hv : v9.ownBlock ≠ some pm := fun e => by have := (ho'.lt _ e).1; omega
        refine ⟨rfl, v9, RefAt.of (ownsRow_setCell_other ho' (a := ⟨pm, 0, none⟩) hv _) lp (setCell_block ((hb.block _ lp).trans HH.out) 0 v9), ?_, fun q hq => .inr ⟨Nat.le_trans HF2.out.size (ho'.lt q hq).1, by simpa [World.setCell] using (ho'.lt q hq).2⟩⟩
        exact Fr.setCell (F := fun q => q = pm) (HF2.out.trans ((Fr.of_below hb _).mono HF2.out.size fun _ _ e => e)) (p := ⟨pm, 0, none⟩) (.inr rfl) _
      obtain ⟨s1f, hs1f⟩ : ∃ f, (s1.take k).flatMap En.cells = f := ⟨_, rfl⟩
      obtain ⟨s2f, hs2f⟩ : ∃ f, (s1.drop k).flatMap En.cells = f := ⟨_, rfl⟩
      have HB1 := Lib.hid (hs1f ▸ ens_one (s1.take k)); have HB2 := Lib.hid (hs2f ▸ ens_one (s1.drop k))
      cases a2 with
      | none =>
        obtain ⟨rfl, rfl⟩ := HNIL.out rfl
        obtain rfl : k = 0 := by omega
        have hnl : s1 = [] := List.length_eq_zero_iff.1 HN.out
        rw [hs1f, hs2f] at hfin
        have HS1 := Lib.hid (show Src w2 2 none 0 0 s1f from .inl ⟨rfl, rfl, rfl, by rw [← hs1f, hnl]; rfl⟩)
        have HS2 := Lib.hid (show Src w2 2 none (0 - 0) 0 s2f from .inl ⟨rfl, rfl, rfl, by rw [← hs2f, hnl]; rfl⟩)
        have q0 : ∀ y : Later w2, y.wd.cell? ⟨pm, 0, none⟩ = some (.slice none 0 0) := fun y => (y.cell lp).trans (cell_of_block HH.out 0)
        clear hnl hins hs1f hs2f
        obtain ⟨i0, hi0, hz0, hz1, hz2⟩ := info_parts infoRef
        have fx0 := (Below.refl w2.heap.size w2).drew
        go_wp2_with fail
        refine Rg.wp_region_plan (by kernel_rfl) [0, 2, 3, 4, 5, 6, 7, 9, 10, 11, 14, 15, 16, 17, 18, 19] (.two 1 (.two 8 (.one 12 (.fin [13, 20, 21, 22, 23])) 12 (.one 8 (.fin [13, 20, 21, 22, 23]))) 12 (.one 1 (.one 8 (.fin [13, 20, 21, 22, 23])))) 21 (by kernel_rfl) (by kernel_rfl) (by kernel_rfl) (fun w' => ∃ y : Later w2, w' = y.wd) (fun c a a' w hd h => ⟨hd.symm.trans h.1, h.2⟩) ⟨⟨_, fx0⟩, rfl⟩ ?_
        simp only [Rg.picks, List.getElem?_cons_succ, List.getElem?_cons_zero, Option.toList, List.cons_append, List.nil_append]
        repeat (quiet_step (fail))
        refine wpQuiet_nil ?_
        clear q0
        try simp only [Rg.wpP, Rg.pickn, List.getElem?_cons_succ, List.getElem?_cons_zero, Option.toList, List.map_cons, List.map_nil, List.cons_append, List.nil_append]
        constructor
        · as_aux_lemma =>
            refine Rg.wp1_step (fun K hK => ?_) ⟨⟨_, fx0⟩, rfl⟩
            go_simp
            have B6 : Below w2.heap.size w2 (w2.alloc (.cells #[] 47)).drew := ((Below.refl _ _).alloc (Nat.le_refl _) _).drew
            refine hK _ _ (fun _ => ⟨⟨_, B6⟩, rfl⟩) ?_
            clear hK K
            try simp only [Rg.wpP, Rg.pickn, List.getElem?_cons_succ, List.getElem?_cons_zero, Option.toList, List.map_cons, List.map_nil, List.cons_append, List.nil_append]
            constructor
            · refine Rg.wp1_step (fun K hK => ?_) ⟨⟨_, B6⟩, rfl⟩
              refine step_append_src _ (by rfl) _ _ _ (by rfl) w2.heap.size 47 i0 _ 2 16 Try.underlying41 hi0 hz0 hz1 hz2 rfl (by omega) (.slice (some ⟨w2.heap.size, 0, none⟩) 0 0) 0 [] (by rfl) ((World.ownsRow_made w2 _ 0 (Nat.le_refl _) (by unfold maxLen; omega) rfl).drew)
                (none) 0 0 (s1f) (by rfl) (HS1.out.later B6) HB1.out (by unfold maxLen; omega) (by omega) (by simp) ?_
              intro v7 w7 hown7 hg7 hat7
              have B7 : Below w2.heap.size w2 w7 := ((Fr.refl w2.heap.size (fun _ => False) w2).alloc (Nat.le_refl _) _).drew.grown hg7 (by simp <;> omega) (fun k e => .inl (by simp [Value.ownBlock] at e; omega)) |>.below (Nat.le_refl _) (fun _ h => h.elim)
              refine hK _ _ (fun _ => ⟨⟨_, B7⟩, rfl⟩) ?_
              clear hK K
              try simp only [Rg.wpP, Rg.pickn, List.getElem?_cons_succ, List.getElem?_cons_zero, Option.toList, List.map_cons, List.map_nil, List.cons_append, List.nil_append]
              refine Rg.wp1_step (fun K hK => ?_) ⟨⟨_, B7⟩, rfl⟩
              go_simp
              have BM : Below w2.heap.size w2 (w7.alloc (.cells #[.int .i64 tick, .int .i64 id] 47)) := B7.alloc B7.size _
              refine hK _ _ (fun _ => ⟨⟨_, BM⟩, rfl⟩) ?_
              clear hK K
              have HRM := World.alloc_heap_new w7 (.cells #[.int .i64 tick, .int .i64 id] 47)
              have HOM := ownsRow_below hown7 ((Below.refl w7.heap.size w7).alloc (Nat.le_refl _) (.cells #[.int .i64 tick, .int .i64 id] 47))
              try simp only [Rg.wpP, Rg.pickn, List.getElem?_cons_succ, List.getElem?_cons_zero, Option.toList, List.map_cons, List.map_nil, List.cons_append, List.nil_append]
              refine Rg.wpN_step (fun K hK => ?_) ⟨⟨_, BM⟩, rfl⟩
              refine step_append_src _ (by rfl) _ _ _ (by rfl) w2.heap.size 47 i0 _ 2 16 Try.underlying41 hi0 hz0 hz1 hz2 rfl (by omega) v7 (0 + 0) ([] ++ _) (by rfl) HOM
                (some ⟨w7.heap.size, 0, none⟩) 1 1 (En.cells ⟨tick, id⟩) (by rfl) (.inr ⟨_, rfl, by simp [En.cells], World.news_of_block (cs := #[.int .i64 tick, .int .i64 id]) (t := 47) (fr := (0, 0)) HRM⟩) (by simp [En.cells, Value.oneCell']) (by unfold maxLen; omega) (by omega) BM.size ?_
              intro v8 w8 hown8 hg8 hat8
              have B8 : Below w2.heap.size w2 w8 := (Fr.of_below BM (fun _ => False)).grown hg8 BM.size (fun k e => .inl ((HOM.lt k e).1)) |>.below (Nat.le_refl _) (fun _ h => h.elim)
              refine hK _ _ (fun _ => ⟨⟨_, B8⟩, rfl⟩) ?_
              clear hK K
              refine Rg.wpN_step (fun K hK => ?_) ⟨⟨_, B8⟩, rfl⟩
              refine step_append_src _ (by rfl) _ _ _ (by rfl) w2.heap.size 47 i0 _ 2 16 Try.underlying41 hi0 hz0 hz1 hz2 rfl (by omega) v8 (0 + 0 + 1) _ (by rfl) hown8
                (none) (0 - 0) 0 (s2f) (by rfl) (HS2.out.later B8) HB2.out (by unfold maxLen; omega) (by omega) B8.size ?_
              intro v9 w9 hown9 hg9 hat9
              have B9 : Below w2.heap.size w2 w9 := (Fr.of_below B8 (fun _ => False)).grown hg9 B8.size (fun k e => .inl ((hown8.lt k e).1)) |>.below (Nat.le_refl _) (fun _ h => h.elim)
              refine hK _ _ (fun _ => ⟨⟨_, B9⟩, rfl⟩) ?_
              clear hK K
              refine Rg.wpN_list (by decide) ?_
              simp only [List.map_cons, List.map_nil]
              obtain ⟨a9, c9, hva⟩ := own_form hown9
              have Q := hfin v9 w9 (by simpa using hown9) B9
              have hh9 := (B9.block _ lp).trans HH.out
              obtain ⟨m9, hm9⟩ : ∃ m9, 0 + 0 + 1 + (0 - 0) = m9 := ⟨_, rfl⟩
              rw [hm9] at hva
              rw [hva] at Q ⊢
              have HQ := Lib.hid Q
              have e0 := cell_of_block hh9 0; have e1 := frozen_of_block hh9 0
              have lp9 := lt_of_block hh9
              clear HOM HRM hown8 hown9 hg8 hg9 hat8 hat9 hh9 Q BM B8 B9 hva hfin hm9
              go_wp2_with fail
              go_ret
              exact HQ.out
            · refine Rg.wp1_step (fun K hK => ?_) ⟨⟨_, B6⟩, rfl⟩
              go_simp
              have B6' : Below w2.heap.size w2 ((w2.alloc (.cells #[] 47)).drew.alloc (.cells #[.int .i64 tick, .int .i64 id] 47)) := B6.alloc B6.size _
              refine hK _ _ (fun _ => ⟨⟨_, B6'⟩, rfl⟩) ?_
              clear hK K
              have hrow6 := World.alloc_heap_new (w2.alloc (.cells #[] 47)).drew (.cells #[.int .i64 tick, .int .i64 id] 47)
              try simp only [Rg.wpP, Rg.pickn, List.getElem?_cons_succ, List.getElem?_cons_zero, Option.toList, List.map_cons, List.map_nil, List.cons_append, List.nil_append]
              refine Rg.wp1_step (fun K hK => ?_) ⟨⟨_, B6'⟩, rfl⟩
              refine step_append_src _ (by rfl) _ _ _ (by rfl) w2.heap.size 47 i0 _ 2 16 Try.underlying41 hi0 hz0 hz1 hz2 rfl (by omega) (.slice (some ⟨w2.heap.size, 0, none⟩) 0 0) 0 [] (by rfl) (ownsRow_below ((World.ownsRow_made w2 _ 0 (Nat.le_refl _) (by unfold maxLen; omega) rfl).drew) ((Below.refl _ _).alloc (Nat.le_refl _) _))
                (none) 0 0 (s1f) (by rfl) (HS1.out.later B6') HB1.out (by unfold maxLen; omega) (by omega) (by simp; omega) ?_
              intro v7 w7 hown7 hg7 hat7
              have BM : Below w2.heap.size w2 w7 := (Fr.of_below B6' (fun _ => False)).grown hg7 (by simp <;> omega) (fun k e => .inl (by simp [Value.ownBlock] at e; omega)) |>.below (Nat.le_refl _) (fun _ h => h.elim)
              refine hK _ _ (fun _ => ⟨⟨_, BM⟩, rfl⟩) ?_
              clear hK K
              have HOM := hown7
              have HRM : w7.heap[w2.heap.size + 1]? = some (.cells #[.int .i64 tick, .int .i64 id] 47) := (hg7.block _ (by simp) (by simp [Value.ownBlock])).trans (alloc2_at _ _ _)
              try simp only [Rg.wpP, Rg.pickn, List.getElem?_cons_succ, List.getElem?_cons_zero, Option.toList, List.map_cons, List.map_nil, List.cons_append, List.nil_append]
              refine Rg.wpN_step (fun K hK => ?_) ⟨⟨_, BM⟩, rfl⟩
              refine step_append_src _ (by rfl) _ _ _ (by rfl) w2.heap.size 47 i0 _ 2 16 Try.underlying41 hi0 hz0 hz1 hz2 rfl (by omega) v7 (0 + 0) ([] ++ _) (by rfl) HOM
                (some ⟨w2.heap.size + 1, 0, none⟩) 1 1 (En.cells ⟨tick, id⟩) (by rfl) (.inr ⟨_, rfl, by simp [En.cells], World.news_of_block (cs := #[.int .i64 tick, .int .i64 id]) (t := 47) (fr := (0, 0)) HRM⟩) (by simp [En.cells, Value.oneCell']) (by unfold maxLen; omega) (by omega) BM.size ?_
              intro v8 w8 hown8 hg8 hat8
              have B8 : Below w2.heap.size w2 w8 := (Fr.of_below BM (fun _ => False)).grown hg8 BM.size (fun k e => .inl ((HOM.lt k e).1)) |>.below (Nat.le_refl _) (fun _ h => h.elim)
              refine hK _ _ (fun _ => ⟨⟨_, B8⟩, rfl⟩) ?_
              clear hK K
              refine Rg.wpN_step (fun K hK => ?_) ⟨⟨_, B8⟩, rfl⟩
              refine step_append_src _ (by rfl) _ _ _ (by rfl) w2.heap.size 47 i0 _ 2 16 Try.underlying41 hi0 hz0 hz1 hz2 rfl (by omega) v8 (0 + 0 + 1) _ (by rfl) hown8
                (none) (0 - 0) 0 (s2f) (by rfl) (HS2.out.later B8) HB2.out (by unfold maxLen; omega) (by omega) B8.size ?_
              intro v9 w9 hown9 hg9 hat9
              have B9 : Below w2.heap.size w2 w9 := (Fr.of_below B8 (fun _ => False)).grown hg9 B8.size (fun k e => .inl ((hown8.lt k e).1)) |>.below (Nat.le_refl _) (fun _ h => h.elim)
              refine hK _ _ (fun _ => ⟨⟨_, B9⟩, rfl⟩) ?_
              clear hK K
              refine Rg.wpN_list (by decide) ?_
              simp only [List.map_cons, List.map_nil]
              obtain ⟨a9, c9, hva⟩ := own_form hown9
              have Q := hfin v9 w9 (by simpa using hown9) B9
              have hh9 := (B9.block _ lp).trans HH.out
              obtain ⟨m9, hm9⟩ : ∃ m9, 0 + 0 + 1 + (0 - 0) = m9 := ⟨_, rfl⟩
              rw [hm9] at hva
              rw [hva] at Q ⊢
              have HQ := Lib.hid Q
              have e0 := cell_of_block hh9 0; have e1 := frozen_of_block hh9 0
              have lp9 := lt_of_block hh9
              clear HOM HRM hown8 hown9 hg8 hg9 hat8 hat9 hh9 Q BM B8 B9 hva hfin hm9
              go_wp2_with fail
              go_ret
              exact HQ.out
        · as_aux_lemma =>
            refine Rg.wp1_step (fun K hK => ?_) ⟨⟨_, fx0⟩, rfl⟩
            go_simp
            have B6 : Below w2.heap.size w2 (w2.alloc (.cells #[.int .i64 tick, .int .i64 id] 47)).drew := ((Below.refl _ _).alloc (Nat.le_refl _) _).drew
            have hrow6 := World.alloc_heap_new w2 (.cells #[.int .i64 tick, .int .i64 id] 47)
            refine hK _ _ (fun _ => ⟨⟨_, B6⟩, rfl⟩) ?_
            clear hK K
            try simp only [Rg.wpP, Rg.pickn, List.getElem?_cons_succ, List.getElem?_cons_zero, Option.toList, List.map_cons, List.map_nil, List.cons_append, List.nil_append]
            refine Rg.wp1_step (fun K hK => ?_) ⟨⟨_, B6⟩, rfl⟩
            go_simp
            have B6' : Below w2.heap.size w2 ((w2.alloc (.cells #[.int .i64 tick, .int .i64 id] 47)).drew.alloc (.cells #[] 47)) := B6.alloc B6.size _
            refine hK _ _ (fun _ => ⟨⟨_, B6'⟩, rfl⟩) ?_
            clear hK K
            try simp only [Rg.wpP, Rg.pickn, List.getElem?_cons_succ, List.getElem?_cons_zero, Option.toList, List.map_cons, List.map_nil, List.cons_append, List.nil_append]
            refine Rg.wp1_step (fun K hK => ?_) ⟨⟨_, B6'⟩, rfl⟩
            refine step_append_src _ (by rfl) _ _ _ (by rfl) w2.heap.size 47 i0 _ 2 16 Try.underlying41 hi0 hz0 hz1 hz2 rfl (by omega) (.slice (some ⟨w2.heap.size + 1, 0, none⟩) 0 0) 0 [] (by rfl) (ownsMade3 w2)
              (none) 0 0 (s1f) (by rfl) (HS1.out.later B6') HB1.out (by unfold maxLen; omega) (by omega) (by simp; omega) ?_
            intro v7 w7 hown7 hg7 hat7
            have BM : Below w2.heap.size w2 w7 := (Fr.of_below B6' (fun _ => False)).grown hg7 (by simp <;> omega) (fun k e => .inl (by simp [Value.ownBlock] at e; omega)) |>.below (Nat.le_refl _) (fun _ h => h.elim)
            refine hK _ _ (fun _ => ⟨⟨_, BM⟩, rfl⟩) ?_
            clear hK K
            have HOM := hown7
            have HRM : w7.heap[w2.heap.size]? = some (.cells #[.int .i64 tick, .int .i64 id] 47) := (hg7.block _ (by simp <;> omega) (by simp [Value.ownBlock])).trans (alloc_other (World.alloc_heap_new w2 _))
            try simp only [Rg.wpP, Rg.pickn, List.getElem?_cons_succ, List.getElem?_cons_zero, Option.toList, List.map_cons, List.map_nil, List.cons_append, List.nil_append]
            refine Rg.wpN_step (fun K hK => ?_) ⟨⟨_, BM⟩, rfl⟩
            refine step_append_src _ (by rfl) _ _ _ (by rfl) w2.heap.size 47 i0 _ 2 16 Try.underlying41 hi0 hz0 hz1 hz2 rfl (by omega) v7 (0 + 0) ([] ++ _) (by rfl) HOM
              (some ⟨w2.heap.size, 0, none⟩) 1 1 (En.cells ⟨tick, id⟩) (by rfl) (.inr ⟨_, rfl, by simp [En.cells], World.news_of_block (cs := #[.int .i64 tick, .int .i64 id]) (t := 47) (fr := (0, 0)) HRM⟩) (by simp [En.cells, Value.oneCell']) (by unfold maxLen; omega) (by omega) BM.size ?_
            intro v8 w8 hown8 hg8 hat8
            have B8 : Below w2.heap.size w2 w8 := (Fr.of_below BM (fun _ => False)).grown hg8 BM.size (fun k e => .inl ((HOM.lt k e).1)) |>.below (Nat.le_refl _) (fun _ h => h.elim)
            refine hK _ _ (fun _ => ⟨⟨_, B8⟩, rfl⟩) ?_
            clear hK K
            refine Rg.wpN_step (fun K hK => ?_) ⟨⟨_, B8⟩, rfl⟩
            refine step_append_src _ (by rfl) _ _ _ (by rfl) w2.heap.size 47 i0 _ 2 16 Try.underlying41 hi0 hz0 hz1 hz2 rfl (by omega) v8 (0 + 0 + 1) _ (by rfl) hown8
              (none) (0 - 0) 0 (s2f) (by rfl) (HS2.out.later B8) HB2.out (by unfold maxLen; omega) (by omega) B8.size ?_
            intro v9 w9 hown9 hg9 hat9
            have B9 : Below w2.heap.size w2 w9 := (Fr.of_below B8 (fun _ => False)).grown hg9 B8.size (fun k e => .inl ((hown8.lt k e).1)) |>.below (Nat.le_refl _) (fun _ h => h.elim)
            refine hK _ _ (fun _ => ⟨⟨_, B9⟩, rfl⟩) ?_
            clear hK K
            refine Rg.wpN_list (by decide) ?_
            simp only [List.map_cons, List.map_nil]
            obtain ⟨a9, c9, hva⟩ := own_form hown9
            have Q := hfin v9 w9 (by simpa using hown9) B9
            have hh9 := (B9.block _ lp).trans HH.out
            obtain ⟨m9, hm9⟩ : ∃ m9, 0 + 0 + 1 + (0 - 0) = m9 := ⟨_, rfl⟩
            rw [hm9] at hva
            rw [hva] at Q ⊢
            have HQ := Lib.hid Q
            have e0 := cell_of_block hh9 0; have e1 := frozen_of_block hh9 0
            have lp9 := lt_of_block hh9
            clear HOM HRM hown8 hown9 hg8 hg9 hat8 hat9 hh9 Q BM B8 B9 hva hfin hm9
            go_wp2_with fail
            go_ret
            exact HQ.out
      | some ad0 =>
        have hsp : ∃ b o, ad0 = ⟨b, o, none⟩ := HSP.out ad0 rfl
        obtain ⟨b, o, rfl⟩ := hsp
        obtain ⟨ad, hif⟩ : ∃ ad, (if cap = k then (some ⟨b, o, none⟩ : Option Addr) else some ⟨b, o + k * 2, none⟩) = some ad := by split <;> exact ⟨_, rfl⟩
        have hs1 := HR2.out.src rfl 0 k (by rw [HN.out]; omega) ⟨b, o, none⟩ cap (fun b' o' e => by cases e; simp)
        rw [List.drop_zero, show (s1.take k).length = k by rw [List.length_take, HN.out]; omega] at hs1
        have hs2 : Src w2 2 (some ad) (n - k) (cap - k) ((s1.drop k).flatMap En.cells) := by
          by_cases hc : cap = k
          · have hnil : s1.drop k = [] := List.drop_eq_nil_of_le (by rw [HN.out]; omega)
            rw [hnil]
            exact .inr ⟨ad, rfl, by simp; omega, fun j u hu => by simp at hu⟩
          · have h2 := HR2.out.src rfl k n (by rw [HN.out]; omega) ad (cap - k) (fun b' o' e => by
              cases e
              rw [if_neg hc] at hif; exact (Option.some.inj hif).symm)
            rw [show s1.take n = s1 by rw [← HN.out]; exact List.take_length, show (s1.drop k).length = n - k by rw [List.length_drop, HN.out]] at h2
            exact h2
        rw [hs1f, hs2f] at hfin
        rw [hs1f] at hs1; rw [hs2f] at hs2
        have HS1 := Lib.hid hs1; have HS2 := Lib.hid hs2
        have hkc : k ≤ cap := by omega
        have q0 : ∀ y : Later w2, y.wd.cell? ⟨pm, 0, none⟩ = some (.slice (some ⟨b, o, none⟩) n cap) := fun y => (y.cell lp).trans (cell_of_block HH.out 0)
        clear hs1 hs2 hins hs1f hs2f
        obtain ⟨i0, hi0, hz0, hz1, hz2⟩ := info_parts infoRef
        have fx0 := (Below.refl w2.heap.size w2).drew
        go_wp2_with fail
        refine Rg.wp_region_plan (by kernel_rfl) [0, 2, 3, 4, 5, 6, 7, 9, 10, 11, 14, 15, 16, 17, 18, 19] (.two 1 (.two 8 (.one 12 (.fin [13, 20, 21, 22, 23])) 12 (.one 8 (.fin [13, 20, 21, 22, 23]))) 12 (.one 1 (.one 8 (.fin [13, 20, 21, 22, 23])))) 21 (by kernel_rfl) (by kernel_rfl) (by kernel_rfl) (fun w' => ∃ y : Later w2, w' = y.wd) (fun c a a' w hd h => ⟨hd.symm.trans h.1, h.2⟩) ⟨⟨_, fx0⟩, rfl⟩ ?_
        simp only [Rg.picks, List.getElem?_cons_succ, List.getElem?_cons_zero, Option.toList, List.cons_append, List.nil_append]
        repeat (quiet_step (fail))
        refine wpQuiet_nil ?_
        clear q0
        try simp only [Rg.wpP, Rg.pickn, List.getElem?_cons_succ, List.getElem?_cons_zero, Option.toList, List.map_cons, List.map_nil, List.cons_append, List.nil_append]
        constructor
        · as_aux_lemma =>
            refine Rg.wp1_step (fun K hK => ?_) ⟨⟨_, fx0⟩, rfl⟩
            go_simp
            have B6 : Below w2.heap.size w2 (w2.alloc (.cells #[] 47)).drew := ((Below.refl _ _).alloc (Nat.le_refl _) _).drew
            refine hK _ _ (fun _ => ⟨⟨_, B6⟩, rfl⟩) ?_
            clear hK K
            try simp only [Rg.wpP, Rg.pickn, List.getElem?_cons_succ, List.getElem?_cons_zero, Option.toList, List.map_cons, List.map_nil, List.cons_append, List.nil_append]
            constructor
            · refine Rg.wp1_step (fun K hK => ?_) ⟨⟨_, B6⟩, rfl⟩
              refine step_append_src _ (by rfl) _ _ _ (by rfl) w2.heap.size 47 i0 _ 2 16 Try.underlying41 hi0 hz0 hz1 hz2 rfl (by omega) (.slice (some ⟨w2.heap.size, 0, none⟩) 0 0) 0 [] (by rfl) ((World.ownsRow_made w2 _ 0 (Nat.le_refl _) (by unfold maxLen; omega) rfl).drew)
                (some ⟨b, o, none⟩) k cap (s1f) (by rfl) (HS1.out.later B6) HB1.out (by unfold maxLen; omega) (by omega) (by simp) ?_
              intro v7 w7 hown7 hg7 hat7
              have B7 : Below w2.heap.size w2 w7 := ((Fr.refl w2.heap.size (fun _ => False) w2).alloc (Nat.le_refl _) _).drew.grown hg7 (by simp <;> omega) (fun k e => .inl (by simp [Value.ownBlock] at e; omega)) |>.below (Nat.le_refl _) (fun _ h => h.elim)
              refine hK _ _ (fun _ => ⟨⟨_, B7⟩, rfl⟩) ?_
              clear hK K
              try simp only [Rg.wpP, Rg.pickn, List.getElem?_cons_succ, List.getElem?_cons_zero, Option.toList, List.map_cons, List.map_nil, List.cons_append, List.nil_append]
              refine Rg.wp1_step (fun K hK => ?_) ⟨⟨_, B7⟩, rfl⟩
              go_simp
              have BM : Below w2.heap.size w2 (w7.alloc (.cells #[.int .i64 tick, .int .i64 id] 47)) := B7.alloc B7.size _
              refine hK _ _ (fun _ => ⟨⟨_, BM⟩, rfl⟩) ?_
              clear hK K
              have HRM := World.alloc_heap_new w7 (.cells #[.int .i64 tick, .int .i64 id] 47)
              have HOM := ownsRow_below hown7 ((Below.refl w7.heap.size w7).alloc (Nat.le_refl _) (.cells #[.int .i64 tick, .int .i64 id] 47))
              try simp only [Rg.wpP, Rg.pickn, List.getElem?_cons_succ, List.getElem?_cons_zero, Option.toList, List.map_cons, List.map_nil, List.cons_append, List.nil_append]
              refine Rg.wpN_step (fun K hK => ?_) ⟨⟨_, BM⟩, rfl⟩
              refine step_append_src _ (by rfl) _ _ _ (by rfl) w2.heap.size 47 i0 _ 2 16 Try.underlying41 hi0 hz0 hz1 hz2 rfl (by omega) v7 (0 + k) ([] ++ _) (by rfl) HOM
                (some ⟨w7.heap.size, 0, none⟩) 1 1 (En.cells ⟨tick, id⟩) (by rfl) (.inr ⟨_, rfl, by simp [En.cells], World.news_of_block (cs := #[.int .i64 tick, .int .i64 id]) (t := 47) (fr := (0, 0)) HRM⟩) (by simp [En.cells, Value.oneCell']) (by unfold maxLen; omega) (by omega) BM.size ?_
              intro v8 w8 hown8 hg8 hat8
              have B8 : Below w2.heap.size w2 w8 := (Fr.of_below BM (fun _ => False)).grown hg8 BM.size (fun k e => .inl ((HOM.lt k e).1)) |>.below (Nat.le_refl _) (fun _ h => h.elim)
              refine hK _ _ (fun _ => ⟨⟨_, B8⟩, rfl⟩) ?_
              clear hK K
              refine Rg.wpN_step (fun K hK => ?_) ⟨⟨_, B8⟩, rfl⟩
              refine step_append_src _ (by rfl) _ _ _ (by rfl) w2.heap.size 47 i0 _ 2 16 Try.underlying41 hi0 hz0 hz1 hz2 rfl (by omega) v8 (0 + k + 1) _ (by rfl) hown8
                (some ad) (n - k) (cap - k) (s2f) (by rfl) (HS2.out.later B8) HB2.out (by unfold maxLen; omega) (by omega) B8.size ?_
              intro v9 w9 hown9 hg9 hat9
              have B9 : Below w2.heap.size w2 w9 := (Fr.of_below B8 (fun _ => False)).grown hg9 B8.size (fun k e => .inl ((hown8.lt k e).1)) |>.below (Nat.le_refl _) (fun _ h => h.elim)
              refine hK _ _ (fun _ => ⟨⟨_, B9⟩, rfl⟩) ?_
              clear hK K
              refine Rg.wpN_list (by decide) ?_
              simp only [List.map_cons, List.map_nil]
              obtain ⟨a9, c9, hva⟩ := own_form hown9
              have Q := hfin v9 w9 (by simpa using hown9) B9
              have hh9 := (B9.block _ lp).trans HH.out
              obtain ⟨m9, hm9⟩ : ∃ m9, 0 + k + 1 + (n - k) = m9 := ⟨_, rfl⟩
              rw [hm9] at hva
              rw [hva] at Q ⊢
              have HQ := Lib.hid Q
              have e0 := cell_of_block hh9 0; have e1 := frozen_of_block hh9 0
              have lp9 := lt_of_block hh9
              clear HOM HRM hown8 hown9 hg8 hg9 hat8 hat9 hh9 Q BM B8 B9 hva hfin hm9
              go_wp2_with fail
              go_ret
              exact HQ.out
            · refine Rg.wp1_step (fun K hK => ?_) ⟨⟨_, B6⟩, rfl⟩
              go_simp
              have B6' : Below w2.heap.size w2 ((w2.alloc (.cells #[] 47)).drew.alloc (.cells #[.int .i64 tick, .int .i64 id] 47)) := B6.alloc B6.size _
              refine hK _ _ (fun _ => ⟨⟨_, B6'⟩, rfl⟩) ?_
              clear hK K
              have hrow6 := World.alloc_heap_new (w2.alloc (.cells #[] 47)).drew (.cells #[.int .i64 tick, .int .i64 id] 47)
              try simp only [Rg.wpP, Rg.pickn, List.getElem?_cons_succ, List.getElem?_cons_zero, Option.toList, List.map_cons, List.map_nil, List.cons_append, List.nil_append]
              refine Rg.wp1_step (fun K hK => ?_) ⟨⟨_, B6'⟩, rfl⟩
              refine step_append_src _ (by rfl) _ _ _ (by rfl) w2.heap.size 47 i0 _ 2 16 Try.underlying41 hi0 hz0 hz1 hz2 rfl (by omega) (.slice (some ⟨w2.heap.size, 0, none⟩) 0 0) 0 [] (by rfl) (ownsRow_below ((World.ownsRow_made w2 _ 0 (Nat.le_refl _) (by unfold maxLen; omega) rfl).drew) ((Below.refl _ _).alloc (Nat.le_refl _) _))
                (some ⟨b, o, none⟩) k cap (s1f) (by rfl) (HS1.out.later B6') HB1.out (by unfold maxLen; omega) (by omega) (by simp; omega) ?_
              intro v7 w7 hown7 hg7 hat7
              have BM : Below w2.heap.size w2 w7 := (Fr.of_below B6' (fun _ => False)).grown hg7 (by simp <;> omega) (fun k e => .inl (by simp [Value.ownBlock] at e; omega)) |>.below (Nat.le_refl _) (fun _ h => h.elim)
              refine hK _ _ (fun _ => ⟨⟨_, BM⟩, rfl⟩) ?_
              clear hK K
              have HOM := hown7
              have HRM : w7.heap[w2.heap.size + 1]? = some (.cells #[.int .i64 tick, .int .i64 id] 47) := (hg7.block _ (by simp) (by simp [Value.ownBlock])).trans (alloc2_at _ _ _)
              try simp only [Rg.wpP, Rg.pickn, List.getElem?_cons_succ, List.getElem?_cons_zero, Option.toList, List.map_cons, List.map_nil, List.cons_append, List.nil_append]
              refine Rg.wpN_step (fun K hK => ?_) ⟨⟨_, BM⟩, rfl⟩
              refine step_append_src _ (by rfl) _ _ _ (by rfl) w2.heap.size 47 i0 _ 2 16 Try.underlying41 hi0 hz0 hz1 hz2 rfl (by omega) v7 (0 + k) ([] ++ _) (by rfl) HOM
                (some ⟨w2.heap.size + 1, 0, none⟩) 1 1 (En.cells ⟨tick, id⟩) (by rfl) (.inr ⟨_, rfl, by simp [En.cells], World.news_of_block (cs := #[.int .i64 tick, .int .i64 id]) (t := 47) (fr := (0, 0)) HRM⟩) (by simp [En.cells, Value.oneCell']) (by unfold maxLen; omega) (by omega) BM.size ?_
              intro v8 w8 hown8 hg8 hat8
              have B8 : Below w2.heap.size w2 w8 := (Fr.of_below BM (fun _ => False)).grown hg8 BM.size (fun k e => .inl ((HOM.lt k e).1)) |>.below (Nat.le_refl _) (fun _ h => h.elim)
              refine hK _ _ (fun _ => ⟨⟨_, B8⟩, rfl⟩) ?_
              clear hK K
              refine Rg.wpN_step (fun K hK => ?_) ⟨⟨_, B8⟩, rfl⟩
              refine step_append_src _ (by rfl) _ _ _ (by rfl) w2.heap.size 47 i0 _ 2 16 Try.underlying41 hi0 hz0 hz1 hz2 rfl (by omega) v8 (0 + k + 1) _ (by rfl) hown8
                (some ad) (n - k) (cap - k) (s2f) (by rfl) (HS2.out.later B8) HB2.out (by unfold maxLen; omega) (by omega) B8.size ?_
              intro v9 w9 hown9 hg9 hat9
              have B9 : Below w2.heap.size w2 w9 := (Fr.of_below B8 (fun _ => False)).grown hg9 B8.size (fun k e => .inl ((hown8.lt k e).1)) |>.below (Nat.le_refl _) (fun _ h => h.elim)
              refine hK _ _ (fun _ => ⟨⟨_, B9⟩, rfl⟩) ?_
              clear hK K
              refine Rg.wpN_list (by decide) ?_
              simp only [List.map_cons, List.map_nil]
              obtain ⟨a9, c9, hva⟩ := own_form hown9
              have Q := hfin v9 w9 (by simpa using hown9) B9
              have hh9 := (B9.block _ lp).trans HH.out
              obtain ⟨m9, hm9⟩ : ∃ m9, 0 + k + 1 + (n - k) = m9 := ⟨_, rfl⟩
              rw [hm9] at hva
              rw [hva] at Q ⊢
              have HQ := Lib.hid Q
              have e0 := cell_of_block hh9 0; have e1 := frozen_of_block hh9 0
              have lp9 := lt_of_block hh9
              clear HOM HRM hown8 hown9 hg8 hg9 hat8 hat9 hh9 Q BM B8 B9 hva hfin hm9
              go_wp2_with fail
              go_ret
              exact HQ.out
        · as_aux_lemma =>
            refine Rg.wp1_step (fun K hK => ?_) ⟨⟨_, fx0⟩, rfl⟩
            go_simp
            have B6 : Below w2.heap.size w2 (w2.alloc (.cells #[.int .i64 tick, .int .i64 id] 47)).drew := ((Below.refl _ _).alloc (Nat.le_refl _) _).drew
            have hrow6 := World.alloc_heap_new w2 (.cells #[.int .i64 tick, .int .i64 id] 47)
            refine hK _ _ (fun _ => ⟨⟨_, B6⟩, rfl⟩) ?_
            clear hK K
            try simp only [Rg.wpP, Rg.pickn, List.getElem?_cons_succ, List.getElem?_cons_zero, Option.toList, List.map_cons, List.map_nil, List.cons_append, List.nil_append]
            refine Rg.wp1_step (fun K hK => ?_) ⟨⟨_, B6⟩, rfl⟩
            go_simp
            have B6' : Below w2.heap.size w2 ((w2.alloc (.cells #[.int .i64 tick, .int .i64 id] 47)).drew.alloc (.cells #[] 47)) := B6.alloc B6.size _
            refine hK _ _ (fun _ => ⟨⟨_, B6'⟩, rfl⟩) ?_
            clear hK K
            try simp only [Rg.wpP, Rg.pickn, List.getElem?_cons_succ, List.getElem?_cons_zero, Option.toList, List.map_cons, List.map_nil, List.cons_append, List.nil_append]
            refine Rg.wp1_step (fun K hK => ?_) ⟨⟨_, B6'⟩, rfl⟩
            refine step_append_src _ (by rfl) _ _ _ (by rfl) w2.heap.size 47 i0 _ 2 16 Try.underlying41 hi0 hz0 hz1 hz2 rfl (by omega) (.slice (some ⟨w2.heap.size + 1, 0, none⟩) 0 0) 0 [] (by rfl) (ownsMade3 w2)
              (some ⟨b, o, none⟩) k cap (s1f) (by rfl) (HS1.out.later B6') HB1.out (by unfold maxLen; omega) (by omega) (by simp; omega) ?_
            intro v7 w7 hown7 hg7 hat7
            have BM : Below w2.heap.size w2 w7 := (Fr.of_below B6' (fun _ => False)).grown hg7 (by simp <;> omega) (fun k e => .inl (by simp [Value.ownBlock] at e; omega)) |>.below (Nat.le_refl _) (fun _ h => h.elim)
            refine hK _ _ (fun _ => ⟨⟨_, BM⟩, rfl⟩) ?_
            clear hK K
            have HOM := hown7
            have HRM : w7.heap[w2.heap.size]? = some (.cells #[.int .i64 tick, .int .i64 id] 47) := (hg7.block _ (by simp <;> omega) (by simp [Value.ownBlock])).trans (alloc_other (World.alloc_heap_new w2 _))
            try simp only [Rg.wpP, Rg.pickn, List.getElem?_cons_succ, List.getElem?_cons_zero, Option.toList, List.map_cons, List.map_nil, List.cons_append, List.nil_append]
            refine Rg.wpN_step (fun K hK => ?_) ⟨⟨_, BM⟩, rfl⟩
            refine step_append_src _ (by rfl) _ _ _ (by rfl) w2.heap.size 47 i0 _ 2 16 Try.underlying41 hi0 hz0 hz1 hz2 rfl (by omega) v7 (0 + k) ([] ++ _) (by rfl) HOM
              (some ⟨w2.heap.size, 0, none⟩) 1 1 (En.cells ⟨tick, id⟩) (by rfl) (.inr ⟨_, rfl, by simp [En.cells], World.news_of_block (cs := #[.int .i64 tick, .int .i64 id]) (t := 47) (fr := (0, 0)) HRM⟩) (by simp [En.cells, Value.oneCell']) (by unfold maxLen; omega) (by omega) BM.size ?_
            intro v8 w8 hown8 hg8 hat8
            have B8 : Below w2.heap.size w2 w8 := (Fr.of_below BM (fun _ => False)).grown hg8 BM.size (fun k e => .inl ((HOM.lt k e).1)) |>.below (Nat.le_refl _) (fun _ h => h.elim)
            refine hK _ _ (fun _ => ⟨⟨_, B8⟩, rfl⟩) ?_
            clear hK K
            refine Rg.wpN_step (fun K hK => ?_) ⟨⟨_, B8⟩, rfl⟩
            refine step_append_src _ (by rfl) _ _ _ (by rfl) w2.heap.size 47 i0 _ 2 16 Try.underlying41 hi0 hz0 hz1 hz2 rfl (by omega) v8 (0 + k + 1) _ (by rfl) hown8
              (some ad) (n - k) (cap - k) (s2f) (by rfl) (HS2.out.later B8) HB2.out (by unfold maxLen; omega) (by omega) B8.size ?_
            intro v9 w9 hown9 hg9 hat9
            have B9 : Below w2.heap.size w2 w9 := (Fr.of_below B8 (fun _ => False)).grown hg9 B8.size (fun k e => .inl ((hown8.lt k e).1)) |>.below (Nat.le_refl _) (fun _ h => h.elim)
            refine hK _ _ (fun _ => ⟨⟨_, B9⟩, rfl⟩) ?_
            clear hK K
            refine Rg.wpN_list (by decide) ?_
            simp only [List.map_cons, List.map_nil]
            obtain ⟨a9, c9, hva⟩ := own_form hown9
            have Q := hfin v9 w9 (by simpa using hown9) B9
            have hh9 := (B9.block _ lp).trans HH.out
            obtain ⟨m9, hm9⟩ : ∃ m9, 0 + k + 1 + (n - k) = m9 := ⟨_, rfl⟩
            rw [hm9] at hva
            rw [hva] at Q ⊢
            have HQ := Lib.hid Q
            have e0 := cell_of_block hh9 0; have e1 := frozen_of_block hh9 0
            have lp9 := lt_of_block hh9
            clear HOM HRM hown8 hown9 hg8 hg9 hat8 hat9 hh9 Q BM B8 B9 hva hfin hm9
            go_wp2_with fail
            go_ret
            exact HQ.out
    clear hKa
    go_loopw [7] (fun i wr => w2 = wr ∧ ∃ k : Nat, k ≤ n ∧ i = .int .i64 k ∧ Hid (∀ j, j < k → ∀ y : En, s1[j]? = some y → ltE y ⟨tick, id⟩ = true)) (fun i _ => n - (intOf i).toNat)
    case atStart => exact ⟨rfl, 0, Nat.zero_le _, rfl, Lib.hid fun j hj => by omega⟩
    case round =>
      obtain ⟨rfl, k, hk, rfl, hI⟩ := hrel
      by_cases hlt : k < n
      · obtain ⟨y, hy⟩ : ∃ y, s1[k]? = some y := ⟨_, List.getElem?_eq_getElem (by rw [HN.out]; exact hlt)⟩
        obtain ⟨b, o, rfl, hb, hbpm, c1, c2⟩ := HC.out k y hy
        have HY := Lib.hid hy
        clear hy
        by_cases hA : y.tick < tick
        · have hA1 : decide (y.tick < tick) = true := by simpa using hA
          have HL := Lib.hid (show ltE y ⟨tick, id⟩ = true by unfold ltE; rw [if_neg (by simp only; omega)]; simpa using hA)
          clear hA
          go_wp2_with fail
          refine ⟨⟨trivial, k + 1, by omega, by go_num, Lib.hid fun j hj z hz => ?_⟩, by simp [intOf]; omega⟩
          by_cases e : j = k
          · subst e; rw [HY.out] at hz; cases hz; exact HL.out
          · exact hI.out j (by omega) z hz
        · have hA1 : decide (y.tick < tick) = false := by simpa using hA
          by_cases hB : y.tick = tick
          · have hB1 : (y.tick == tick) = true := by simpa using hB
            by_cases hC : y.id < id
            · have hC1 : decide (y.id < id) = true := by simpa using hC
              have HL := Lib.hid (show ltE y ⟨tick, id⟩ = true by unfold ltE; rw [if_pos hB]; simpa using hC)
              clear hA hB hC
              go_wp2_with fail
              refine ⟨⟨trivial, k + 1, by omega, by go_num, Lib.hid fun j hj z hz => ?_⟩, by simp [intOf]; omega⟩
              by_cases e : j = k
              · subst e; rw [HY.out] at hz; cases hz; exact HL.out
              · exact hI.out j (by omega) z hz
            · have hC1 : decide (y.id < id) = false := by simpa using hC
              have HT := tw_at (s := s1) (x := ⟨tick, id⟩) (k := k) (by rw [HN.out]; omega) hI.out (fun z hz => by rw [HY.out] at hz; cases hz; unfold ltE; rw [if_pos hB]; simpa using hC)
              clear hA hB hC
              have HT := Lib.hid HT
              go_wp2_with fail
              apply hK <;> first | exact HT.out | omega
          · have hB1 : (y.tick == tick) = false := by simpa using hB
            have HT := Lib.hid (tw_at (s := s1) (x := ⟨tick, id⟩) (k := k) (by rw [HN.out]; omega) hI.out (fun z hz => by rw [HY.out] at hz; cases hz; unfold ltE; rw [if_neg hB]; simpa using hA))
            clear hA hB
            go_wp2_with fail
            apply hK <;> first | exact HT.out | omega
      · obtain rfl : n = k := by omega
        have HT := Lib.hid (tw_at (s := s1) (x := ⟨tick, id⟩) (k := n) (by rw [HN.out]; omega) hI.out (fun z hz => by have := (List.getElem?_eq_some_iff.1 hz).1; rw [HN.out] at this; omega))
        clear hlt hk
        go_wp2_with fail
        apply hK <;> first | exact HT.out | omega
end Go.Proofs.Ytnfdobmjfchegaa
