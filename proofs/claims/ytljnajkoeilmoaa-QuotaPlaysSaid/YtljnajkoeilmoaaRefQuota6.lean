/-
  The document's accounts (ensembleref06): Act.
-/
import Derived.Test.YtljnajkoeilmoaaRefQuota5
set_option linter.unusedVariables false
set_option linter.unusedSimpArgs false
namespace Go.Proofs.Ytljnajkoeilmoaa
open Go.RowKit

set_option maxHeartbeats 400000 in
theorem ract_any (m rq ru capq capu : Nat) (st : List Ac) (sub : Bool) (q g c : Int) (w : World) (h : RAcc w m rq ru capq capu st) (hl : st.length ≤ 8) (hok : AllOk st) :
    Calls Try.prog 17 #[.pointer (some ⟨m, 0, none⟩), .agg #[.bool sub, .int .i64 q, .int .i64 g, .int .i64 c]] w (RTurnPost sub m rq ru capq capu st q g c w) := by
  have H := Lib.hid h; have HO := Lib.hid hok
  clear h hok
  cases sub with
  | true =>
    go_enter Try.func17, Try.ntmps17
    go_wp2_with fail
    refine (rsub_any m rq ru capq capu st q g c _ (H.out.later ((Below.refl _ _).alloc (Nat.le_refl _) _)) hl HO.out).mono ?_
    rintro e w' ⟨rfl, ha, hf⟩
    go_wp2
    go_ret
    exact ⟨rfl, ha, ((Fr.refl _ _ _).alloc (Nat.le_refl _) _).trans (hf.mono (by simp) fun _ _ h => h)⟩
  | false =>
    go_enter Try.func17, Try.ntmps17
    go_wp2_with fail
    refine (radd_any m rq ru capq capu st q g c _ (H.out.later ((Below.refl _ _).alloc (Nat.le_refl _) _)) hl HO.out).mono ?_
    rintro e w' ⟨rfl, ha, hf⟩
    go_wp2
    go_ret
    exact ⟨rfl, ha, ((Fr.refl _ _ _).alloc (Nat.le_refl _) _).trans (hf.mono (by simp) fun _ _ h => h)⟩
end Go.Proofs.Ytljnajkoeilmoaa
