/-
  queue: find.
-/
import Derived.Test.YtobdbjkhajinbaaQueue2
import Derived.WalkMore
set_option linter.unusedVariables false
set_option linter.unusedSimpArgs false
namespace Go.Proofs.Ytobdbjkhajinbaa
open Go.RowKit
/-- where one of an Id is; or it is nowhere -/
def FoundQ (rows : List (List Wt)) (id : Int) (r a : Int) (ok : Bool) : Prop :=
  (ok = true ∧ ∃ (i k : Nat) (hi : i < rows.length) (hk : k < rows[i].length), r = i ∧ a = k ∧ (rows[i][k]).job.id = id) ∨ (ok = false ∧ ∀ l ∈ rows, ∀ x ∈ l, x.job.id ≠ id)
section
variable {w w' : World} {base p R M : Nat} {vs : List Value} {rows : List (List Wt)} {rooms : List Int}
set_option maxHeartbeats 1000000 in
theorem find_any (h : QAt w base p R M vs rows rooms) (id : Int) :
    Calls Try.prog 30 #[.pointer (some ⟨p, 0, none⟩), .int .i64 id] w fun e w' => (∃ r a ok, e = .returned (.tuple #[.int .i64 r, .int .i64 a, .bool ok]) ∧ FoundQ rows id r a ok) ∧ w' = w := by
  obtain ⟨⟨cm, c0, c1⟩, lp, lR, lM⟩ := h.cells
  obtain ⟨n, hn⟩ : ∃ n, rooms.length = n := ⟨_, rfl⟩
  have hrl := h.rlen
  have hn8 := h.few
  rw [hn] at c0 hrl hn8
  have H := Lib.hid h; have HRL := Lib.hid hrl
  clear h c1 hn hrl lM
  go_enter Try.func30, Try.ntmps30
  go_wp2_with fail
  go_step3
  go_wp2_with fail
  go_step3
  go_wp2_with fail
  go_loopw [4, 5, 6, 12] (fun rv av ov iv wr => ∃ (k : Nat) (x y : Int), k ≤ n ∧ iv = .int .i64 k ∧ rv = .int .i64 x ∧ av = .int .i64 y ∧ ov = .bool false ∧ Hid (∀ l ∈ rows.take k, ∀ x ∈ l, x.job.id ≠ id) ∧ wr = w) (fun _ _ _ iv _ => n - (intOf iv).toNat)
  case atStart => exact ⟨0, 0, 0, Nat.zero_le _, rfl, rfl, rfl, rfl, Lib.hid (fun l h => by simp at h), rfl⟩
  case round =>
    obtain ⟨k, x, y, hk, rfl, rfl, rfl, rfl, hI, rfl⟩ := hrel
    by_cases hlt : k < n
    · have hkr : k < rows.length := by rw [HRL.out]; exact hlt
      obtain ⟨a, c, hc, hs, hlm⟩ := H.out.at hkr
      obtain ⟨l, hl⟩ : ∃ l, rows[k] = l := ⟨_, rfl⟩
      rw [hl] at hc hs hlm
      obtain ⟨m, hm⟩ : ∃ m, l.length = m := ⟨_, rfl⟩
      rw [hm] at hc hlm
      have hlm63 : m ≤ 9223372036854775807 := hlm
      have HS := Lib.hid hs; have HM := Lib.hid hm; have HL := Lib.hid hl
      clear hs hm hl hlm
      go_wp2_with fail
      go_loopw [5, 6, 23] (fun av ov jv wx => ∃ (j : Nat) (y : Int), j ≤ m ∧ jv = .int .i64 j ∧ av = .int .i64 y ∧ ov = .bool false ∧ Hid (∀ x ∈ l.take j, x.job.id ≠ id) ∧ wx = wr) (fun _ _ jv _ => m - (intOf jv).toNat)
      case atStart => exact ⟨0, y, Nat.zero_le _, rfl, rfl, rfl, Lib.hid (fun x h => by simp at h), rfl⟩
      case round =>
        obtain ⟨j, y2, hj, rfl, rfl, rfl, hJ, rfl⟩ := hrel
        by_cases hjt : j < m
        · have hjl : j < l.length := by rw [HM.out]; exact hjt
          obtain ⟨z, hz⟩ : ∃ z, l[j] = z := ⟨_, rfl⟩
          obtain ⟨b, off, cap, hv, _, _, hb, hat⟩ := Wt.at HS.out hjl hz
          rw [HM.out] at hv
          simp only [Value.slice.injEq] at hv
          obtain ⟨rfl, -, rfl⟩ := hv
          obtain ⟨e0, -⟩ := hat wr (Below.refl _ _)
          obtain ⟨zi, hzi⟩ : ∃ i, z.job.id = i := ⟨_, rfl⟩
          rw [hzi] at e0
          have HZ := Lib.hid hz; have HZI := Lib.hid hzi
          clear hz hat hzi
          by_cases heq : zi = id
          · subst heq
            have HF := Lib.hid (show FoundQ rows zi (k : Nat) (j : Nat) true from .inl ⟨rfl, k, j, hkr, by rw [HL.out]; exact hjl, rfl, rfl, by
              have h1 : (rows[k])[j]? = some z := by rw [HL.out, List.getElem?_eq_getElem hjl, HZ.out]
              obtain ⟨h2, h3⟩ := List.getElem?_eq_some_iff.1 h1
              rw [h3]; exact HZI.out⟩)
            go_wp2_with fail
            try rw [Exit.noGoto_ret]
            refine bodyPost_ret (results_tmp3 rfl _ _ _) rfl ?_
            exact ⟨⟨_, _, _, rfl, HF.out⟩, rfl⟩
          · have hd : decide (zi = id) = false := by simp [heq]
            have hd2 : (zi == id) = false := by simp [heq]
            have htk : l.take (j + 1) = l.take j ++ [z] := by rw [List.take_add_one, List.getElem?_eq_getElem hjl, HZ.out]; rfl
            have HNX := Lib.hid (show ∀ x ∈ l.take (j + 1), x.job.id ≠ id from fun x hx => by
              rw [htk] at hx
              rcases List.mem_append.1 hx with hx | hx
              · exact hJ.out x hx
              · simp only [List.mem_singleton] at hx; subst hx; rw [HZI.out]; exact heq)
            clear htk
            go_wp2_with fail
            exact ⟨⟨j + 1, _, by omega, by go_num, rfl, rfl, Lib.hid HNX.out, by first | rfl | trivial⟩, by simp [intOf]; omega⟩
        · obtain rfl : j = m := by omega
          have htk : rows.take (k + 1) = rows.take k ++ [l] := by rw [List.take_add_one, List.getElem?_eq_getElem hkr, HL.out]; rfl
          have HNX := Lib.hid (show ∀ r ∈ rows.take (k + 1), ∀ x ∈ r, x.job.id ≠ id from fun r hr => by
            rw [htk] at hr
            rcases List.mem_append.1 hr with hr | hr
            · exact hI.out r hr
            · simp only [List.mem_singleton] at hr
              subst hr
              have := hJ.out
              rwa [List.take_of_length_le (by rw [HM.out]; exact Nat.le_refl _)] at this)
          clear htk
          go_wp2_with fail
          exact ⟨⟨k + 1, _, _, by omega, by go_num, rfl, rfl, rfl, Lib.hid HNX.out, by first | rfl | trivial⟩, by simp [intOf]; omega⟩
    · obtain rfl : k = n := by omega
      have HF := Lib.hid (show FoundQ rows id x y false from .inr ⟨rfl, by have := hI.out; rwa [List.take_of_length_le (by rw [HRL.out]; exact Nat.le_refl _)] at this⟩)
      go_wp2_with fail
      try rw [Exit.noGoto_ret]
      refine bodyPost_ret (results_tmp3 rfl _ _ _) rfl ?_
      exact ⟨⟨_, _, _, rfl, HF.out⟩, rfl⟩
end
end Go.Proofs.Ytobdbjkhajinbaa
