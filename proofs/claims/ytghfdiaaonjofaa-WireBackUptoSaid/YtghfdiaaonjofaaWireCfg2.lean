/-
  wire: PutConfig.
-/
import Derived.Test.YtghfdiaaonjofaaWireCfg
import Derived.Test.YtghfdiaaonjofaaTopoRead
import Derived.Test.YtghfdiaaonjofaaFlatDm
import Derived.Test.YtghfdiaaonjofaaFlatQu
import Derived.Test.YtghfdiaaonjofaaRegions5
import Derived.Test.YtghfdiaaonjofaaFr
import Derived.Laws.BytesArg
set_option linter.unusedVariables false
set_option linter.unusedSimpArgs false
namespace Go.Proofs.Ytghfdiaaonjofaa
open Go.RowKit
variable {w0 w w1 w2 : World} {Lb : Nat} {v v2 : Value} {fs gs : List Fd} {L : List (Nat × Int)}

theorem infoFd : (Try.prog.info? 73).map (fun i => (i.zero, i.size, i.bytes)) = some (some (.agg #[.pointer none, .int .i64 0]), 2, 16) := by kernel_rfl
/-- the fields that are gathered, in the cell Lb -/
structure FIv (w0 w : World) (Lb : Nat) (v : Value) (fs : List Fd) : Prop where
  cell : w.heap[Lb]? = some (.cells #[v] 66 (0, 0))
  own : w.ownsRow (Lb + 1) 73 2 v fs.length (fs.flatMap Fd.cells)
  vals : ∀ f ∈ fs, f.blk < w.heap.size ∧ w.cell? ⟨f.blk, f.off, none⟩ = some (.int .i64 f.x) ∧ f.blk ≠ Lb ∧ v.ownBlock ≠ some f.blk
  base : w0.heap.size ≤ Lb
  bel : Below w0.heap.size w0 w
theorem FIv.later (h : FIv w0 w Lb v fs) (hb : Below w.heap.size w w1) : FIv w0 w1 Lb v fs :=
  ⟨(hb.block _ (lt_of_block h.cell)).trans h.cell, ownsRow_below h.own hb, fun f hf => by
    obtain ⟨h1, h2, h3⟩ := h.vals f hf
    exact ⟨Nat.lt_of_lt_of_le h1 hb.size, (hb.cell (p := ⟨f.blk, f.off, none⟩) h1).trans h2, h3⟩, h.base, h.bel.trans (hb.mono h.bel.size)⟩
theorem own_set {base B i n : Nat} {e : TypeId} {x : Value} {l : List Value} (h : w.ownsRow base e 2 v n l) (hB : v.ownBlock ≠ some B) : (w.setCell ⟨B, i, none⟩ x).ownsRow base e 2 v n l := by
  obtain ⟨h1, h2 | ⟨g, cap, cur, rfl, hg, hh, hn⟩⟩ := h
  · exact ⟨h1, .inl h2⟩
  · refine ⟨h1, .inr ⟨g, cap, cur, rfl, hg, (setCell_other _ (fun e => hB ?_)).trans hh, hn⟩⟩
    simp only at e
    rw [← e]; rfl
theorem FIv.push (h : FIv w0 w Lb v fs) (hb : Below w.heap.size w w1) (hg : ∀ g ∈ gs, (g.blk < Lb ∨ w.heap.size ≤ g.blk) ∧ g.blk < w1.heap.size ∧ w1.cell? ⟨g.blk, g.off, none⟩ = some (.int .i64 g.x))
    (hf : Fr w1.heap.size (fun q => v.ownBlock = some q) w1 w2) (ho : w2.ownsRow (Lb + 1) 73 2 v2 (fs ++ gs).length ((fs ++ gs).flatMap Fd.cells)) (hv2 : ∀ q, v2.ownBlock = some q → v.ownBlock = some q ∨ w1.heap.size ≤ q) :
    FIv w0 (w2.setCell ⟨Lb, 0, none⟩ v2) Lb v2 (fs ++ gs) := by
  have hL1 := lt_of_block h.cell
  have hlv : ∀ q, v.ownBlock = some q → Lb + 1 ≤ q ∧ q < w.heap.size := h.own.lt
  have hlL : v.ownBlock ≠ some Lb := fun e => by have := (hlv _ e).1; omega
  have hlL2 : v2.ownBlock ≠ some Lb := fun e => by
    rcases hv2 _ e with e | e
    · exact hlL e
    · have := hb.size; omega
  have hs := hb.size
  refine ⟨by
    have := setCell_block ((hf.block Lb (by omega) hlL).trans ((hb.block _ hL1).trans h.cell)) 0 v2
    simpa using this, own_set ho hlL2, fun f hfm => ?_, h.base, ?_⟩
  · have key : f.blk < w1.heap.size ∧ w1.cell? ⟨f.blk, f.off, none⟩ = some (.int .i64 f.x) ∧ f.blk ≠ Lb ∧ v.ownBlock ≠ some f.blk := by
      rcases List.mem_append.1 hfm with hm | hm
      · obtain ⟨h1, h2, h3, h4⟩ := h.vals f hm
        exact ⟨by omega, (hb.cell (p := ⟨f.blk, f.off, none⟩) h1).trans h2, h3, h4⟩
      · obtain ⟨h1, h2, h3⟩ := hg f hm
        exact ⟨h2, h3, by omega, fun e => by have := hlv _ e; omega⟩
    obtain ⟨k1, k2, k3, k4⟩ := key
    have hf2 := hf.size
    refine ⟨by simp [World.setCell]; omega, ?_, k3, fun e => ?_⟩
    · have h5 : (w2.setCell ⟨Lb, 0, none⟩ v2).heap[f.blk]? = w2.heap[f.blk]? := setCell_other (p := ⟨Lb, 0, none⟩) _ k3
      have h6 : (w2.setCell ⟨Lb, 0, none⟩ v2).cell? ⟨f.blk, f.off, none⟩ = w2.cell? ⟨f.blk, f.off, none⟩ := by unfold World.cell?; rw [h5]
      rw [h6]
      exact (hf.cell (p := ⟨f.blk, f.off, none⟩) k1 k4).trans k2
    · rcases hv2 _ e with e | e
      · exact k4 e
      · omega
  · have hz := h.bel.size
    have hbs := h.base
    have h3 := h.bel.trans (hb.mono hz)
    have h4 : Below w0.heap.size w0 w2 := h3.trans ((hf.mono h3.size fun _ _ e => e).below (Nat.le_refl _) fun q hq => by have := hlv _ hq; omega)
    exact h4.setCell (p := ⟨Lb, 0, none⟩) h.base _
def FI (w0 w : World) (Lb : Nat) (L : List (Nat × Int)) : Prop := ∃ v fs, fs.map (fun f => (f.b, f.x)) = L ∧ FIv w0 w Lb v fs
theorem FI.later (h : FI w0 w Lb L) (hb : Below w.heap.size w w1) : FI w0 w1 Lb L := by
  obtain ⟨v, fs, h1, h2⟩ := h; exact ⟨v, fs, h1, h2.later hb⟩
theorem FI.bel (h : FI w0 w Lb L) : Below w0.heap.size w0 w := by
  obtain ⟨v, fs, h1, h2⟩ := h; exact h2.bel
theorem FI.start (h : w.heap[Lb]? = some (.cells #[.slice none 0 0] 66 (0, 0))) (hb : w0.heap.size ≤ Lb) (hB : Below w0.heap.size w0 w) : FI w0 w Lb [] :=
  ⟨_, [], rfl, h, World.ownsRow_nil _ _ _ _, fun f hf => by simp at hf, hb, hB⟩

theorem fd_len : ∀ fs : List Fd, (fs.flatMap Fd.cells).length = fs.length * 2
  | [] => rfl
  | f :: r => by rw [List.flatMap_cons, List.length_append, fd_len r, List.length_cons]; simp only [Fd.cells, List.length_cons, List.length_nil]; omega
set_option maxHeartbeats 1000000 in
theorem count_any (n : Int) (h : FI w0 w Lb L) (hl : L.length ≤ 10000) :
    Calls Try.prog 26 #[.int .i64 n, .pointer (some ⟨Lb, 0, none⟩)] w fun e w' => e = .returned (.tuple #[]) ∧ FI w0 w' Lb (L ++ [(1, n)]) := by
  obtain ⟨v, fs, hL, hv⟩ := h
  obtain ⟨i0, hi0, hz0, hz1, hz2⟩ := info_parts infoFd
  have hlen : fs.length ≤ 10000 := by rw [← hL] at hl; simpa using hl
  obtain ⟨av, cv, rfl⟩ := own_form hv.own
  obtain ⟨m, hm⟩ : ∃ m, fs.length = m := ⟨_, rfl⟩
  rw [hm] at hv
  have HV := Lib.hid hv; have HL := Lib.hid hL
  have hb1 := ((Below.refl w.heap.size w).alloc (Nat.le_refl _) (.cells #[.int .i64 n] 3)).alloc (by simp) (.cells #[.pointer (some ⟨w.heap.size, 0, none⟩), .int .i64 1] 73)
  have ho1 := ownsRow_below hv.own hb1
  have k1 : ((w.alloc (.cells #[.int .i64 n] 3)).alloc (.cells #[.pointer (some ⟨w.heap.size, 0, none⟩), .int .i64 1] 73)).heap[w.heap.size]? = some (.cells #[.int .i64 n] 3 (0, 0)) := alloc_other (World.alloc_heap_new _ _)
  have k2 : ((w.alloc (.cells #[.int .i64 n] 3)).alloc (.cells #[.pointer (some ⟨w.heap.size, 0, none⟩), .int .i64 1] 73)).heap[w.heap.size + 1]? = some (.cells #[.pointer (some ⟨w.heap.size, 0, none⟩), .int .i64 1] 73 (0, 0)) := alloc2_new w (.cells #[.int .i64 n] 3) (.cells #[.pointer (some ⟨w.heap.size, 0, none⟩), .int .i64 1] 73)
  have kc := (hb1.block _ (lt_of_block hv.cell)).trans hv.cell
  have hbase : Lb + 1 ≤ w.heap.size := lt_of_block hv.cell
  have q0 := cell_of_block hv.cell 0
  have ql := lt_of_block hv.cell
  have H1 := Lib.hid hb1; have H2 := Lib.hid k1; have H3 := Lib.hid k2; have H4 := Lib.hid kc; have H5 := Lib.hid ho1
  rw [hm] at hlen H5
  have HM := Lib.hid hm
  clear hv hL hl hb1 ho1 k1 k2 kc hm
  go_enter Try.func26, Try.ntmps26
  go_wp2_with (at_builtin; refine wpList_append_lies _ rfl _ _ _ rfl (Lb + 1) 73 i0 _ 2 16 Try.underlying66 hi0 hz0 hz1 hz2 rfl (by omega) (.slice av m cv) m _ rfl H5.out ⟨w.heap.size + 1, 0, none⟩ 1 1 [.pointer (some ⟨w.heap.size, 0, none⟩), .int .i64 1] rfl rfl (World.news_of_block H3.out) (by simp [Value.oneCell']) (by omega) (by unfold maxLen; omega) (by omega) (by simp; omega) (w.heap.size + 2) (by simp) ?_)
  intro gg cap' w2 hown2 hgrow hat hlt2
  have hf2 := Fr.grown (Fr.refl _ (fun q => (Value.slice av m cv).ownBlock = some q) _) hgrow (Nat.le_refl _) (fun q e => .inr e)
  have hown := HV.out.own.lt
  have hL2 := (hf2.block Lb (lt_of_block H4.out) (fun e => by have := (hown _ e).1; omega)).trans H4.out
  have p0 := cell_of_block hL2 0; have pz := frozen_of_block hL2 0; have lB2 := lt_of_block hL2
  have HP := Lib.hid (FIv.push (gs := [⟨w.heap.size, 0, 1, n⟩]) (v2 := .slice (some ⟨gg, 0, none⟩) (m + 1) cap') HV.out H1.out (fun g hg => by
    rw [List.mem_singleton] at hg
    subst hg
    exact ⟨.inr (Nat.le_refl _), lt_of_block H2.out, cell_of_block H2.out 0⟩) hf2 (by
    rw [List.length_append, List.flatMap_append, HM.out]
    exact hown2) (fun q e => by
    simp only [Value.ownBlock, Option.some.injEq] at e
    subst e
    rcases hat with h | h
    · exact .inl h
    · exact .inr (by simp; omega)))
  clear hown2 hgrow hat hlt2 hf2 hown hL2 q0 ql
  go_wp2_with fail
  go_end0
  exact ⟨rfl, _, _, by rw [List.map_append, HL.out]; rfl, HP.out⟩
def dBits (ds : List Dm) : List (Nat × Int) := ds.flatMap fun d => [(1, d.gpus), (2, d.cpus)]
def bitsC (ns : List (List Dm)) : List (Nat × Int) := ns.flatMap fun ds => (1, (ds.length : Int)) :: dBits ds
def bitsQ (qs : List Qu) : List (Nat × Int) := qs.flatMap fun q => [(3, q.quota.gpus), (3, q.quota.cpus), (1, q.room)]
/-- a configuration's numbers -/
def cfgL (ns : List (List Dm)) (qs : List Qu) (wk tm rt ag : Int) : List (Nat × Int) :=
  (1, (ns.length : Int)) :: bitsC ns ++ (1, (qs.length : Int)) :: bitsQ qs ++ [(1, wk), (1, tm), (2, rt), (2, ag)]
theorem dBits_len : ∀ ds : List Dm, (dBits ds).length = ds.length * 2
  | [] => rfl
  | d :: r => by have := dBits_len r; unfold dBits at this ⊢; rw [List.flatMap_cons, List.length_append, this, List.length_cons]; simp only [List.length_cons, List.length_nil]; omega
theorem bitsQ_len : ∀ qs : List Qu, (bitsQ qs).length = qs.length * 3
  | [] => rfl
  | d :: r => by have := bitsQ_len r; unfold bitsQ at this ⊢; rw [List.flatMap_cons, List.length_append, this, List.length_cons]; simp only [List.length_cons, List.length_nil]; omega
theorem take_snoc {α : Type} {l : List α} {k : Nat} (hk : k < l.length) : l.take (k + 1) = l.take k ++ [l[k]] := by
  rw [List.take_add_one, List.getElem?_eq_getElem hk]; rfl
theorem dBits_snoc {ds : List Dm} {j : Nat} (hj : j < ds.length) : dBits (ds.take (j + 1)) = dBits (ds.take j) ++ [(1, ds[j].gpus), (2, ds[j].cpus)] := by
  rw [take_snoc hj]; unfold dBits; rw [List.flatMap_append]; rfl
theorem bitsQ_snoc {qs : List Qu} {j : Nat} (hj : j < qs.length) : bitsQ (qs.take (j + 1)) = bitsQ (qs.take j) ++ [(3, qs[j].quota.gpus), (3, qs[j].quota.cpus), (1, qs[j].room)] := by
  rw [take_snoc hj]; unfold bitsQ; rw [List.flatMap_append]; rfl
theorem bitsC_snoc {ns : List (List Dm)} {k : Nat} (hk : k < ns.length) : bitsC (ns.take (k + 1)) = bitsC (ns.take k) ++ (1, (ns[k].length : Int)) :: dBits ns[k] := by
  rw [take_snoc hk]; unfold bitsC; rw [List.flatMap_append]; simp
def dtot (ns : List (List Dm)) : Nat := (ns.map List.length).sum
theorem bitsC_len : ∀ ns : List (List Dm), (bitsC ns).length = ns.length + 2 * dtot ns
  | [] => rfl
  | d :: r => by
    have := bitsC_len r
    unfold bitsC dtot at this ⊢
    rw [List.flatMap_cons, List.length_append, this, List.length_cons, List.length_cons, dBits_len, List.map_cons, List.sum_cons]
    omega
theorem dtot_take (ns : List (List Dm)) {k : Nat} (hk : k < ns.length) : dtot (ns.take k) + ns[k].length ≤ dtot ns := by
  have h : ns = ns.take k ++ ns[k] :: ns.drop (k + 1) := by rw [← List.drop_eq_getElem_cons hk, List.take_append_drop]
  have h2 : dtot ns = dtot (ns.take k) + dtot (ns[k] :: ns.drop (k + 1)) := by
    conv => lhs; rw [h]
    unfold dtot; rw [List.map_append, List.sum_append]
  rw [h2]
  unfold dtot; rw [List.map_cons, List.sum_cons]; omega
def fitN (L : List (Nat × Int)) : Bool := L.all fun p => decide (0 ≤ p.2 ∧ p.2 < 256 ^ p.1)
def putN (L : List (Nat × Int)) : List Int := L.flatMap fun p => fb p.2 p.1
theorem fit_map (fs : List Fd) : fs.all Fd.fit = fitN (fs.map fun f => (f.b, f.x)) := by
  unfold fitN; rw [List.all_map]; rfl
theorem put_map : ∀ fs : List Fd, putF fs = putN (fs.map fun f => (f.b, f.x))
  | [] => rfl
  | f :: r => by
    have := put_map r
    unfold putF putN at this ⊢
    rw [List.map_cons, List.flatMap_cons, List.flatMap_cons, this]
def cfgB (L : List (Nat × Int)) : List Int × Int := if fitN L = true then (putN L, 0) else ([], 1)
end Go.Proofs.Ytghfdiaaonjofaa
