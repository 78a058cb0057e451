/-
  timer: down.
-/
import Derived.Test.YtnfdobmjfchegaaTimer
set_option linter.unusedVariables false
set_option linter.unusedSimpArgs false
namespace Go.Proofs.Ytnfdobmjfchegaa
open Go.RowKit Go.Maps

set_option maxHeartbeats 2000000 in
theorem down_any (base p : Nat) (u : Value) (R n cap : Nat) (l : List En) (w : World) (h : HpAt w base p u (.slice (some ⟨R, 0, none⟩) n cap) l) (hn : l.length = n) (hr : Hp.Sinking ltE l 0) (hl : n ≤ 1000000) :
    Calls Try.prog 25 #[.pointer (some ⟨p, 0, none⟩), .int .i64 0] w fun e w' => e = .returned (.tuple #[]) ∧ ∃ l', HpAt w' base p u (.slice (some ⟨R, 0, none⟩) n cap) l' ∧ l'.length = n ∧ Hp.Heap ltE l' ∧ (∀ z, z ∈ l' ↔ z ∈ l) ∧ Fr w.heap.size (fun q => q = R) w w' := by
  have HN := Lib.hid hn; have H := Lib.hid h; have HR := Lib.hid hr
  clear h hr hn
  go_enter Try.func25, Try.ntmps25
  go_wp2_with fail
  go_loopw [1] (fun i wr => ∃ (k : Nat) (l' : List En), (k < n ∨ k = 0) ∧ i = .int .i64 k ∧ HpAt wr base p u (.slice (some ⟨R, 0, none⟩) n cap) l' ∧ Hid (l'.length = n ∧ Hp.Sinking ltE l' k ∧ (∀ z, z ∈ l' ↔ z ∈ l) ∧ Fr w.heap.size (fun q => q = R) w wr)) (fun i _ => n - (intOf i).toNat)
  case atStart => exact ⟨0, l, .inr rfl, rfl, H.out, Lib.hid ⟨HN.out, HR.out, fun _ => Iff.rfl, Fr.refl _ _ _⟩⟩
  case round =>
    obtain ⟨k, l', hk, rfl, hH, hI⟩ := hrel
    have hkl : (k : Int) ≤ 1000000 := by omega
    have HH := Lib.hid hH
    clear hH
    go_wp2_with fail
    go_loopw [4, 5] (fun bv cv wr2 => ∃ c b : Nat, 2 * k + 1 ≤ c ∧ c ≤ 2 * k + 3 ∧ (b < n ∨ b = k) ∧ k ≤ b ∧ bv = .int .i64 b ∧ cv = .int .i64 c ∧ HpAt wr2 base p u (.slice (some ⟨R, 0, none⟩) n cap) l' ∧ Hid (Hp.Best ltE l' k c b ∧ Fr w.heap.size (fun q => q = R) w wr2)) (fun _ cv _ => (2 * k + 3) - (intOf cv).toNat)
    case atStart => exact ⟨2 * k + 1, k, Nat.le_refl _, by omega, .inr rfl, Nat.le_refl _, rfl, by simp, HH.out, Lib.hid ⟨Hp.Best.start _ _ _, hI.out.2.2.2⟩⟩
    case round =>
      obtain ⟨c, b, hc1, hc2, hb1, hb2', rfl, rfl, hH2, hI2⟩ := hrel
      have lp := lt_of_block hH2.head
      have q0 := cell_of_block hH2.head 0
      have HH2 := Lib.hid hH2
      clear hH2
      by_cases hc3 : c ≤ 2 * k + 2
      · by_cases hc4 : c < n
        · have hbn : b < n := by omega
          obtain ⟨y, hy⟩ : ∃ y, l'[b]? = some y := ⟨_, List.getElem?_eq_getElem (by rw [hI.out.1]; exact hbn)⟩
          obtain ⟨z, hz⟩ : ∃ z, l'[c]? = some z := ⟨_, List.getElem?_eq_getElem (by rw [hI.out.1]; exact hc4)⟩
          have hvv : (Value.slice (some ⟨R, 0, none⟩) n cap) = .slice (some ⟨R, 0, none⟩) l'.length cap := by rw [hI.out.1]
          obtain ⟨c0, c1, f0, f1, lR⟩ := HH2.out.cellsOf hvv hz
          obtain ⟨d0, d1, g0, g1, _⟩ := HH2.out.cellsOf hvv hy
          have q1 : ∀ y : Later wr, y.wd.cell? ⟨p, 0, none⟩ = some (.slice (some ⟨R, 0, none⟩) n cap) := fun y => (y.cell lp).trans q0
          have e0 : ∀ o : Later wr, o.wd.cell? ⟨R, c * 2, none⟩ = some (.int .i64 z.tick) := fun o => (o.cell lR).trans c0
          have e1 : ∀ o : Later wr, o.wd.cell? ⟨R, c * 2 + 1, none⟩ = some (.int .i64 z.id) := fun o => (o.cell lR).trans c1
          have e2 : ∀ o : Later wr, o.wd.cell? ⟨R, b * 2, none⟩ = some (.int .i64 y.tick) := fun o => (o.cell lR).trans d0
          have e3 : ∀ o : Later wr, o.wd.cell? ⟨R, b * 2 + 1, none⟩ = some (.int .i64 y.id) := fun o => (o.cell lR).trans d1
          have hmeth : ∀ (a b : Value) (w' : World), (method 184 62 (.agg #[a, b]) "ensemble/timer.ahead").run Try.prog w' = .ok (41, .agg #[a, b]) w' := fun a b w' => by kernel_rfl
          have HY := Lib.hid hy; have HZ := Lib.hid hz
          clear c0 c1 d0 d1 hy hz hvv
          go_wp2_with fail
          refine wp_region_later (by kernel_rfl) (by kernel_rfl) ?_
          repeat (quiet_step (exact Calls.later (ahead_any z y _)))
          refine wpQuiet_nil ?_
          rintro w2 ⟨⟨_, hb2⟩, rfl⟩
          have H2 := Lib.hid (HH2.out.later hb2)
          obtain ⟨b0, hb0⟩ : ∃ b0, ltE z y = b0 := ⟨_, rfl⟩
          rw [hb0]
          have HB0 := Lib.hid hb0
          clear hb0 e0 e1 e2 e3 q0 q1 hmeth
          have hfr := hI2.out.2.trans (Fr.of_below (hb2.mono hI2.out.2.size) _)
          cases b0 with
          | false =>
            go_wp2_with fail
            exact ⟨⟨c + 1, b, by omega, by omega, hb1, hb2', rfl, by go_num, H2.out, Lib.hid ⟨hI2.out.1.keep HZ.out HY.out HB0.out, hfr⟩⟩, by simp [intOf]; omega⟩
          | true =>
            go_wp2_with fail
            exact ⟨⟨c + 1, c, by omega, by omega, .inl hc4, by omega, rfl, by go_num, H2.out, Lib.hid ⟨hI2.out.1.take ltE_tot HZ.out HY.out HB0.out (by omega) (by omega), hfr⟩⟩, by simp [intOf]; omega⟩
        · have hc5 : decide ((c : Int) < (n : Int)) = false := by simp; omega
          have hch : ∀ i y, 0 < i → (i - 1) / 2 = k → l'[i]? = some y → i < c := fun i y h1 h2 h3 => by
            have := (List.getElem?_eq_some_iff.1 h3).1
            rw [hI.out.1] at this
            omega
          by_cases hbk : b = k
          · as_aux_lemma =>
              subst hbk
              go_wp2_with fail
              (first | go_end0 | (refine bodyPost_ret (results_none rfl _ _ _) rfl ?_))
              obtain ⟨hlen, hsi, hmem, _⟩ := hI.out
              refine ⟨rfl, l', HH2.out, hlen, ?_, hmem, hI2.out.2⟩
              rcases Nat.lt_or_ge b n with hbn | hbn
              · obtain ⟨y, hy⟩ : ∃ y, l'[b]? = some y := ⟨_, List.getElem?_eq_getElem (by omega)⟩
                exact hsi.heap hy fun i z h1 h2 h3 => hI2.out.1.top i z y h1 h2 (hch i z h1 h2 h3) h3 hy
              · intro i x y h1 h2 h3
                have := (List.getElem?_eq_some_iff.1 h3).1
                omega
          · as_aux_lemma =>
              have hbe : ((b : Int) == (k : Int)) = false := by simp; omega
              have hbn : b < n := by omega
              have hkn : k < n := by omega
              obtain ⟨hb0, hbp, _, x, y, hx, hy, hlt⟩ := hI2.out.1.here.resolve_left hbk
              have HX := Lib.hid hx; have HY := Lib.hid hy; have HLT := Lib.hid hlt
              have hvv : (Value.slice (some ⟨R, 0, none⟩) n cap) = .slice (some ⟨R, 0, none⟩) l'.length cap := by rw [hI.out.1]
              obtain ⟨c0, c1, f0, f1, lR⟩ := HH2.out.cellsOf hvv hx
              obtain ⟨d0, d1, g0, g1, _⟩ := HH2.out.cellsOf hvv hy
              have hne : (⟨R, b * 2, none⟩ : Addr) ≠ ⟨R, k * 2, none⟩ := by simp <;> omega
              clear hx hy hlt hvv
              go_wp2_with fail
              go_region
              go_wp2_with fail
              obtain ⟨hlen, hsi, hmem, _⟩ := hI.out
              obtain ⟨hs, hf⟩ := HH2.out.swap hlen HX.out HY.out
              refine ⟨⟨b, Hp.swap l' k b, .inl hbn, rfl, hs, Lib.hid ⟨by rw [Hp.swap_len, hlen], ?_, fun z => (Hp.swap_mem HX.out HY.out (by omega) z).trans (hmem z), hI2.out.2.trans (hf.mono hI2.out.2.size fun q _ e => e)⟩⟩, by simp [intOf]; omega⟩
              exact hsi.step ltE_tot hb0 hbp HX.out HY.out HLT.out fun i z h1 h2 h3 => hI2.out.1.top i z y h1 h2 (hch i z h1 h2 h3) h3 HY.out
      · have hc5 : decide ((c : Int) ≤ 2 * (k : Int) + 2) = false := by simp; omega
        have hch : ∀ i y, 0 < i → (i - 1) / 2 = k → l'[i]? = some y → i < c := fun i y h1 h2 h3 => by
          have := (List.getElem?_eq_some_iff.1 h3).1
          rw [hI.out.1] at this
          omega
        by_cases hbk : b = k
        · as_aux_lemma =>
            subst hbk
            go_wp2_with fail
            (first | go_end0 | (refine bodyPost_ret (results_none rfl _ _ _) rfl ?_))
            obtain ⟨hlen, hsi, hmem, _⟩ := hI.out
            refine ⟨rfl, l', HH2.out, hlen, ?_, hmem, hI2.out.2⟩
            rcases Nat.lt_or_ge b n with hbn | hbn
            · obtain ⟨y, hy⟩ : ∃ y, l'[b]? = some y := ⟨_, List.getElem?_eq_getElem (by omega)⟩
              exact hsi.heap hy fun i z h1 h2 h3 => hI2.out.1.top i z y h1 h2 (hch i z h1 h2 h3) h3 hy
            · intro i x y h1 h2 h3
              have := (List.getElem?_eq_some_iff.1 h3).1
              omega
        · as_aux_lemma =>
            have hbe : ((b : Int) == (k : Int)) = false := by simp; omega
            have hbn : b < n := by omega
            have hkn : k < n := by omega
            obtain ⟨hb0, hbp, _, x, y, hx, hy, hlt⟩ := hI2.out.1.here.resolve_left hbk
            have HX := Lib.hid hx; have HY := Lib.hid hy; have HLT := Lib.hid hlt
            have hvv : (Value.slice (some ⟨R, 0, none⟩) n cap) = .slice (some ⟨R, 0, none⟩) l'.length cap := by rw [hI.out.1]
            obtain ⟨c0, c1, f0, f1, lR⟩ := HH2.out.cellsOf hvv hx
            obtain ⟨d0, d1, g0, g1, _⟩ := HH2.out.cellsOf hvv hy
            have hne : (⟨R, b * 2, none⟩ : Addr) ≠ ⟨R, k * 2, none⟩ := by simp <;> omega
            clear hx hy hlt hvv
            go_wp2_with fail
            go_region
            go_wp2_with fail
            obtain ⟨hlen, hsi, hmem, _⟩ := hI.out
            obtain ⟨hs, hf⟩ := HH2.out.swap hlen HX.out HY.out
            refine ⟨⟨b, Hp.swap l' k b, .inl hbn, rfl, hs, Lib.hid ⟨by rw [Hp.swap_len, hlen], ?_, fun z => (Hp.swap_mem HX.out HY.out (by omega) z).trans (hmem z), hI2.out.2.trans (hf.mono hI2.out.2.size fun q _ e => e)⟩⟩, by simp [intOf]; omega⟩
            exact hsi.step ltE_tot hb0 hbp HX.out HY.out HLT.out fun i z h1 h2 h3 => hI2.out.1.top i z y h1 h2 (hch i z h1 h2 h3) h3 HY.out
end Go.Proofs.Ytnfdobmjfchegaa
