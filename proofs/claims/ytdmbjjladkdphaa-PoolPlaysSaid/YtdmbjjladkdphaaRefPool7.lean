/-
  New of the given pool, with no bound on a cluster that is refused; what a right cluster gives.
-/
import Derived.Test.YtdmbjjladkdphaaRefPool6
import Derived.Test.YtdmbjjladkdphaaPoolLaw
import Derived.Test.YtdmbjjladkdphaaPoolLaw2
set_option linter.unusedVariables false
set_option linter.unusedSimpArgs false
namespace Go.Proofs.Ytdmbjjladkdphaa
open Go.RowKit Go.Maps
variable {W w w' : World} {L : List (Nat × Array Value × TypeId)}

set_option maxHeartbeats 1000000 in
theorem pnew2_any (v : Value) (ns : List (List Dm)) (w : World) (s : NodesOf w v ns) (hK : Kept W w L) : Calls Try.prog 12 #[.agg #[v]] w (PNew W L ns) := by
  have hmm := @run_makeMap Try.prog
  have b0 := (Below.refl w.heap.size w).alloc (Nat.le_refl _) (.cells #[v] 24)
  have hT := topoNew_any v ns _ (s.later b0)
  obtain ⟨a, cap, rfl⟩ := s.form
  have HT := Lib.hid hT; have HB := Lib.hid b0; have HK := Lib.hid hK
  clear s hT b0 hK
  go_enter Try.func12, Try.ntmps12
  go_wp2_with fail
  refine HT.out.mono ?_
  rintro e w1 hp
  unfold NewPost at hp
  obtain ⟨hok, rfl, hb1⟩ | ⟨hok, T, R, cp, M, rfl, hTA, h1, h2, h3, hb1⟩ := hp
  · have HB1 := Lib.hid (HB.out.trans (hb1.mono HB.out.size))
    have HOK := Lib.hid hok
    clear hb1 hok
    go_wp2
    refine bodyPost_ret (results_tmp2 rfl _ _ _) rfl ?_
    exact .inl ⟨HOK.out, rfl, HK.out.later HB1.out⟩
  · have HB1 := Lib.hid (HB.out.trans (hb1.mono HB.out.size))
    have hsz := HB.out.size
    have HTA := Lib.hid hTA; have HOK := Lib.hid hok
    have H1 := Lib.hid (Nat.le_trans hsz h1); have H2 := Lib.hid (Nat.le_trans hsz h2); have H3 := Lib.hid (Nat.le_trans hsz h3)
    have hl : (allG 0 ns).length ≤ 1000000 := by have := (allG_facts hok 0).2; omega
    clear hb1 hok hTA hsz h1 h2 h3
    go_wp2_with fail
    refine (allX_any T R cp M ns.length _ w1 HTA.out hl).mono ?_
    rintro e w2 ⟨rfl, hk2, hb2⟩
    have HB2 := Lib.hid (HB1.out.trans (hb2.mono HB1.out.size))
    have HTA2 := Lib.hid (HTA.out.later hb2)
    have HK2 := Lib.hid hk2
    have hF := lt_of_block hk2
    clear hb2 hk2
    go_wp2_with fail
    refine bodyPost_ret (results_tmp2 rfl _ _ _) rfl ?_
    have hb3 := (Below.refl w2.heap.size w2).alloc (Nat.le_refl _) (.map #[] 0)
    have hb4 := hb3.alloc hb3.size (.cells #[.pointer (some ⟨T, 0, none⟩), .slice (some ⟨w1.heap.size, 0, none⟩) (allG 0 ns).length (allG 0 ns).length, .map (some w2.heap.size)] 75)
    have lt := HTA.out.lt
    have hs1 := HB1.out.size
    have hsW := HK.out.size
    have g1 := H1.out; have g2 := H2.out; have g3 := H3.out
    have hkl := fun x hx => lt_of_block (HK.out.blk x hx)
    have hs2 := HB2.out.size
    refine .inr ⟨HOK.out, w2.heap.size + 1, by simp, ⟨T, R, cp, M, w1.heap.size, w2.heap.size, ⟨alloc2_new _ _ _, HTA2.out.later hb4, (hb4.block _ hF).trans HK2.out, ⟨#[], 0, alloc_other (World.alloc_heap_new _ _), Mp.Ents.nil⟩, ⟨⟨by omega, by omega, by omega⟩, ⟨by omega, by omega, by omega⟩, ⟨by omega, by omega, by omega⟩, by omega, by omega, by omega⟩, rfl⟩, fun q hq => ?_⟩, HK.out.later (HB2.out.trans (hb4.mono HB2.out.size))⟩
    have hge : w.heap.size ≤ q := by
      rcases hq with (rfl | rfl | rfl) | rfl | rfl | rfl <;> omega
    exact ⟨by omega, fun x hx => by have := hkl x hx; omega⟩
theorem allG_pos {ns : List (List Dm)} (h : nodesOk ns = true) : 0 < (allG 0 ns).length := by
  obtain ⟨h1, _, h3⟩ := nodesOk_parts h
  cases ns with
  | nil => simp at h1
  | cons d r =>
    have := (h3 d (List.mem_cons_self ..)).1
    simp only [allG, List.length_append, nodeG_len]
    omega
theorem allG_nodes {ns : List (List Dm)} : ∀ f ∈ allG 0 ns, 0 ≤ f.spot.node ∧ f.spot.node < ns.length := fun f hf => by
  have := allG_mem hf
  omega
theorem allG_spot {ns : List (List Dm)} (h : nodesOk ns = true) : ns.length ≤ 16 := (nodesOk_parts h).2.1
end Go.Proofs.Ytdmbjjladkdphaa
