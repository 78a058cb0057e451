/-
  The document's book: Resize.
-/
import Derived.Test.YtaopekoehaccbaaRefGang2
set_option linter.unusedVariables false
set_option linter.unusedSimpArgs false
namespace Go.Proofs.Ytaopekoehaccbaa
open Go.RowKit Go.Maps
variable {w w' : World} {pm : Nat} {v : Value} {l : List Rc}
theorem RbPost.to {r : Value} {l' : List Rc} {w1 : World} {e : Ending} (hb : Below w.heap.size w w1) (h : RbPost pm v l' r w1 e w') : RbPost pm v l' r w e w' :=
  ⟨h.1, h.2.1, (Fr.of_below hb _).trans (h.2.2.mono hb.size fun _ _ e => e)⟩
theorem below_drewN (w : World) (n : Nat) : Below w.heap.size w (w.drewN n) := ⟨rfl, rfl, rfl, Nat.le_refl _, fun _ _ => rfl⟩
set_option maxHeartbeats 4000000 in
theorem refResize_any (h : RbAt w pm v l) (id b : Int) (hl : l.length ≤ 1000000) :
    Calls Try.prog 46 #[.pointer (some ⟨pm, 0, none⟩), .int .i64 id, .int .i64 b] w (RbPost pm v (modR l id (rResize b)).2 (.int .i64 (modR l id (rResize b)).1) w) := by
  have H := Lib.hid h
  have HF := Lib.hid (refFind_any h id hl)
  cases hf : findR l id with
  | none =>
    have HM := Lib.hid (modR_no (rResize b) hf)
    have HV := Lib.hid (show idV l id = -1 by unfold idV; rw [hf])
    clear h hf
    rw [HM.out]
    go_enter Try.func46, Try.ntmps46
    go_wp2_with fail
    refine HF.out.mono ?_
    rintro e w1 ⟨rfl, rfl⟩
    rw [HV.out]
    go_wp2_with fail
    go_ret
    exact RbPost.same H.out _
  | some k =>
    have q0 := cell_of_block h.head 0
    have lp := lt_of_block h.head
    obtain ⟨R, cap, x, rfl, ⟨hk, hx⟩, lR, hpR, hrec⟩ := h.open hf
    have HV := Lib.hid (show idV l id = k by unfold idV; rw [hf])
    have c6 : w.cell? ⟨R, k * 16 + 6, none⟩ = some (.int .i64 x.job.shape.mn) := (hrec 6 (by omega)).1
    have c7 : w.cell? ⟨R, k * 16 + 7, none⟩ = some (.int .i64 x.job.shape.mx) := (hrec 7 (by omega)).1
    have c8 : w.cell? ⟨R, k * 16 + 8, none⟩ = some (.int .i64 x.state) := (hrec 8 (by omega)).1
    have c11 : w.cell? ⟨R, k * 16 + 11, none⟩ = some (.int .i64 x.members) := (hrec 11 (by omega)).1
    have z11 := (hrec 11 (by omega)).2
    have HKEEP : Hid (∀ e, rResize b x = (e, x) → modR l id (rResize b) = (e, l)) := Lib.hid fun e he => modR_keep _ hf hk (by rw [hx]; exact he)
    have HSET : Hid (∀ y, rResize b x = (0, y) → modR l id (rResize b) = (0, l.set k y)) := Lib.hid fun y hy => by rw [modR_at' _ hf hk, hx, hy]
    have HP : Hid (∀ w' y, RecSet w w' R (k * 16) (fun _ => False) x y → ∀ r, RbPost pm (.slice (some ⟨R, 0, none⟩) l.length cap) (l.set k y) r w (.returned r) w') := Lib.hid fun w' y hs r => RbPost.set h hk (by rw [hx]; exact hs) r
    obtain ⟨n, hn⟩ : ∃ n, l.length = n := ⟨_, rfl⟩
    rw [hn] at q0 hk hl
    have HN := Lib.hid hn
    clear h hf hx hrec hn
    obtain ⟨mm, hmm⟩ : ∃ mm, wrap64 (x.members + b) = mm := ⟨_, rfl⟩
    have hwr : IntKind.i64.wrap (x.members + b) = mm := (wrap_eqI _).trans hmm
    have HMM := Lib.hid hmm
    by_cases hs : x.state = 3
    · have hsb : (x.state != 3) = false := by simpa using hs
      by_cases hb : b = 1 ∨ b = -1
      · have hcase : ((b != 1) = false) ∨ ((b != 1) = true ∧ (b != -1) = false) := by
          rcases hb with e | e
          · exact .inl (by simpa using e)
          · exact .inr ⟨by simp; omega, by simpa using e⟩
        by_cases h1 : mm < x.job.shape.mn
        · have h1b : decide (mm < x.job.shape.mn) = true := by simpa using h1
          rcases hcase with hb1 | ⟨hb1, hb2⟩
          · skip
            have hres : rResize b x = (1, x) := by unfold rResize; rw [HMM.out]; rw [if_neg (by simpa using hs), if_pos (.inr (.inl h1))]
            rw [HKEEP.out _ hres]
            clear hres hs hb h1
            go_enter Try.func46, Try.ntmps46
            go_wp2_with fail
            refine HF.out.mono ?_
            rintro e w1 ⟨rfl, rfl⟩
            rw [HV.out]
            go_wp2_with fail
            go_quiet (fail)
            have hBq := Lib.hid (below_drewN w1 nq)
            go_wp2_with fail
            go_ret
            exact ⟨rfl, H.out.later hBq.out, Fr.of_below hBq.out _⟩
          · skip
            have hres : rResize b x = (1, x) := by unfold rResize; rw [HMM.out]; rw [if_neg (by simpa using hs), if_pos (.inr (.inl h1))]
            rw [HKEEP.out _ hres]
            clear hres hs hb h1
            go_enter Try.func46, Try.ntmps46
            go_wp2_with fail
            refine HF.out.mono ?_
            rintro e w1 ⟨rfl, rfl⟩
            rw [HV.out]
            go_wp2_with fail
            go_quiet (fail)
            have hBq := Lib.hid (below_drewN w1 nq)
            go_wp2_with fail
            go_ret
            exact ⟨rfl, H.out.later hBq.out, Fr.of_below hBq.out _⟩
        · have h1b : decide (mm < x.job.shape.mn) = false := by simpa using h1
          by_cases h2 : x.job.shape.mx < mm
          · have h2b : decide (x.job.shape.mx < mm) = true := by simpa using h2
            rcases hcase with hb1 | ⟨hb1, hb2⟩
            · skip
              have hres : rResize b x = (1, x) := by unfold rResize; rw [HMM.out]; rw [if_neg (by simpa using hs), if_pos (.inr (.inr h2))]
              rw [HKEEP.out _ hres]
              clear hres hs hb h1 h2
              go_enter Try.func46, Try.ntmps46
              go_wp2_with fail
              refine HF.out.mono ?_
              rintro e w1 ⟨rfl, rfl⟩
              rw [HV.out]
              go_wp2_with fail
              go_quiet (fail)
              have hBq := Lib.hid (below_drewN w1 nq)
              go_wp2_with fail
              go_ret
              exact ⟨rfl, H.out.later hBq.out, Fr.of_below hBq.out _⟩
            · skip
              have hres : rResize b x = (1, x) := by unfold rResize; rw [HMM.out]; rw [if_neg (by simpa using hs), if_pos (.inr (.inr h2))]
              rw [HKEEP.out _ hres]
              clear hres hs hb h1 h2
              go_enter Try.func46, Try.ntmps46
              go_wp2_with fail
              refine HF.out.mono ?_
              rintro e w1 ⟨rfl, rfl⟩
              rw [HV.out]
              go_wp2_with fail
              go_quiet (fail)
              have hBq := Lib.hid (below_drewN w1 nq)
              go_wp2_with fail
              go_ret
              exact ⟨rfl, H.out.later hBq.out, Fr.of_below hBq.out _⟩
          · have h2b : decide (x.job.shape.mx < mm) = false := by simpa using h2
            rcases hcase with hb1 | ⟨hb1, hb2⟩
            · skip
              have hres : rResize b x = (0, { x with members := mm }) := by unfold rResize; rw [HMM.out]; rw [if_neg (by simpa using hs), if_neg (fun e => by omega)]
              rw [HSET.out _ hres]
              clear hres hs hb h1 h2
              go_enter Try.func46, Try.ntmps46
              go_wp2_with fail
              refine HF.out.mono ?_
              rintro e w1 ⟨rfl, rfl⟩
              rw [HV.out]
              go_wp2_with fail
              go_quiet (fail)
              have hBq := below_drewN w1 nq
              have c11 : (w1.drewN nq).cell? ⟨R, k * 16 + 11, none⟩ = some (.int .i64 x.members) := c11
              have z11 : (w1.drewN nq).frozen? ⟨R, k * 16 + 11, none⟩ = false := z11
              have lRq : R < (w1.drewN nq).heap.size := lR
              have HS := Lib.hid (show RecSet w1 (w1.drewN nq) R (k * 16) (fun _ => False) x x from (RecSet.refl w1 R (k * 16) (fun _ => False) x).later lR hBq)
              generalize w1.drewN nq = wq at hBq c11 z11 lRq HS ⊢
              go_wp2_with fail
              go_ret
              refine HP.out _ _ ?_ _
              exact HS.out.store 11 (by omega) _ rfl
            · skip
              have hres : rResize b x = (0, { x with members := mm }) := by unfold rResize; rw [HMM.out]; rw [if_neg (by simpa using hs), if_neg (fun e => by omega)]
              rw [HSET.out _ hres]
              clear hres hs hb h1 h2
              go_enter Try.func46, Try.ntmps46
              go_wp2_with fail
              refine HF.out.mono ?_
              rintro e w1 ⟨rfl, rfl⟩
              rw [HV.out]
              go_wp2_with fail
              go_quiet (fail)
              have hBq := below_drewN w1 nq
              have c11 : (w1.drewN nq).cell? ⟨R, k * 16 + 11, none⟩ = some (.int .i64 x.members) := c11
              have z11 : (w1.drewN nq).frozen? ⟨R, k * 16 + 11, none⟩ = false := z11
              have lRq : R < (w1.drewN nq).heap.size := lR
              have HS := Lib.hid (show RecSet w1 (w1.drewN nq) R (k * 16) (fun _ => False) x x from (RecSet.refl w1 R (k * 16) (fun _ => False) x).later lR hBq)
              generalize w1.drewN nq = wq at hBq c11 z11 lRq HS ⊢
              go_wp2_with fail
              go_ret
              refine HP.out _ _ ?_ _
              exact HS.out.store 11 (by omega) _ rfl
      · have hb1 : (b != 1) = true := by simp; omega
        have hb2 : (b != -1) = true := by simp; omega
        have hres : rResize b x = (1, x) := by unfold rResize; rw [HMM.out]; rw [if_neg (by simpa using hs), if_pos (.inl (by omega))]
        rw [HKEEP.out _ hres]
        clear hres hs hb
        go_enter Try.func46, Try.ntmps46
        go_wp2_with fail
        refine HF.out.mono ?_
        rintro e w1 ⟨rfl, rfl⟩
        rw [HV.out]
        go_wp2_with fail
        go_quiet (fail)
        have hBq := Lib.hid (below_drewN w1 nq)
        go_wp2_with fail
        go_ret
        exact ⟨rfl, H.out.later hBq.out, Fr.of_below hBq.out _⟩
    · have hsb : (x.state != 3) = true := by simpa using hs
      have hres : rResize b x = (8, x) := by unfold rResize; rw [HMM.out]; rw [if_pos hs]
      rw [HKEEP.out _ hres]
      clear hres hs
      go_enter Try.func46, Try.ntmps46
      go_wp2_with fail
      refine HF.out.mono ?_
      rintro e w1 ⟨rfl, rfl⟩
      rw [HV.out]
      go_wp2_with fail
      go_ret
      exact RbPost.same H.out _
end Go.Proofs.Ytaopekoehaccbaa
