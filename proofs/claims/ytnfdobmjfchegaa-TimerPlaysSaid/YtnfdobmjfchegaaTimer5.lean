/-
  timer: first, Next, Due.
-/
import Derived.Test.YtnfdobmjfchegaaTimer4
import Derived.Laws.ResultCell
import Derived.Laws.Rows
set_option linter.unusedVariables false
set_option linter.unusedSimpArgs false
namespace Go.Proofs.Ytnfdobmjfchegaa
open Go.RowKit Go.Maps

theorem results_row_tmp {P : Program} {fn : Func} {p u : Tmp} {ty : TypeId} (h : fn.results = #[.cell p ty, .tmp u]) (tmps : Array Value) (w : World) (g : Nat) (t : TypeId) (cs : Array Value) (fr : Nat × Nat) (d : TypeDesc)
    (hu : P.underlying ty = some d) (hd : (match d with | .struct _ | .array _ _ => true | _ => false) = true)
    (hp : tmps.getD p undef = .pointer (some ⟨g, 0, none⟩)) (hg : w.heap[g]? = some (.cells cs t fr)) (hi : (P.info? ty).map (·.size) = some cs.size) :
    (results fn tmps).run P w = .ok (.tuple #[.agg cs, tmps.getD u undef]) w := by
  rw [results_cell_tmp h, hp]
  simp [asAddr, Result.andThen, run_loadVar_row w g t ty cs fr d hg hu hd hi]
theorem entUnder : Try.prog.underlying 62 = some (.struct (match Try.prog.underlying 62 with | some (.struct fs) => fs | _ => #[])) := by kernel_rfl
variable {w w' : World} {base p M N : Nat} {v : Value} {s : List En}
def headE (s : List En) : En := (s.head?).getD ⟨0, 0⟩
def FirstPost (base p M : Nat) (v : Value) (N : Nat) (s : List En) (w : World) (e : Ending) (w' : World) : Prop :=
  e = .returned (.tuple #[.agg #[.int .i64 (headE s).tick, .int .i64 (headE s).id], .bool (!s.isEmpty)]) ∧ ∃ v' h, HpAt w' base p (.map (some M)) v' h ∧ Hp.Heap ltE h ∧ (∀ e ∈ s, e ∈ h) ∧ h.length ≤ N ∧ (∀ e ∈ h, okInt e.id) ∧ (∀ x r, s = x :: r → h[0]? = some x) ∧ TmAt w' base p M v' N s ∧ Fr w.heap.size (TF p M v) w w' ∧ ∀ q, TF p M v' q → TF p M v q ∨ w.heap.size ≤ q
theorem pop_step {R n cap : Nat} {l : List En} {x : En} {e : Ending} (h : TmAt w base p M v N s) (hv : v = .slice (some ⟨R, 0, none⟩) (n + 1) cap) (hR : base ≤ R) (hn : l.length = n + 1) (hx : l[0]? = some x) (hsub : ∀ e ∈ s, e ∈ l) (hN : n + 1 ≤ N) (hok : ∀ e ∈ l, okInt e.id) (hno : x ∉ s)
    (hq : PopPost base p (.map (some M)) R n cap l w e w') : e = .returned (.tuple #[]) ∧ TmAt w' base p M (.slice (some ⟨R, 0, none⟩) n cap) n s ∧ Fr w.heap.size (fun q => q = p ∨ q = R) w w' := by
  obtain ⟨he, l', hH, hlen, hh, hmem, hfr⟩ := hq
  obtain ⟨z, hz⟩ : ∃ z, l[l.length - 1]? = some z := ⟨_, List.getElem?_eq_getElem (by omega)⟩
  obtain ⟨hp1, hp2⟩ := Hp.popped_mem hz hx
  obtain ⟨es, c, m, m1, m2, m3⟩ := h.map
  have far := h.far
  refine ⟨he, ⟨⟨l', hH, hh, fun e he => (hmem e).2 ?_, by omega, fun e he => hok e (hp1 e ((hmem e).1 he))⟩, ⟨es, c, m, (hfr.block M (lt_of_block m1) (fun e => e.elim (fun e => far.2 e.symm) (fun e => by omega))).trans m1, m2, m3⟩, h.row, far⟩, hfr⟩
  rcases hp2 e (hsub e he) with rfl | h'
  · exact absurd he hno
  · exact h'
def rowLen (o : Option Value) : Nat := match o with | some (.slice _ n _) => n | _ => 0

set_option maxHeartbeats 2000000 in
theorem first_any (h : TmAt w base p M v N s) (hN : N < 1000000) : Calls Try.prog 21 #[.pointer (some ⟨p, 0, none⟩)] w (FirstPost base p M v N s w) := by
  have lp := h.lt (.inl rfl)
  have H := Lib.hid h
  clear h
  go_enter Try.func21, Try.ntmps21
  go_wp2_with fail
  have hb0 := (Below.refl w.heap.size w).alloc (Nat.le_refl _) (.cells #[.int .i64 0, .int .i64 0] 62)
  have hsz : (w.alloc (.cells #[.int .i64 0, .int .i64 0] 62)).heap.size = w.heap.size + 1 := World.size_alloc _ _
  have k0 := World.alloc_heap_new w (.cells #[.int .i64 0, .int .i64 0] 62)
  generalize w.alloc (.cells #[.int .i64 0, .int .i64 0] 62) = w1 at hb0 hsz k0 ⊢
  have HB0 := Lib.hid hb0; have HK0 := Lib.hid k0; have HSZ := Lib.hid hsz
  clear hb0 hsz k0
  go_loopw [3] (fun b wr => b = .bool false ∧ ∃ v', TmAt wr base p M v' N s ∧ Hid (wr.heap[w.heap.size]? = some (.cells #[.int .i64 0, .int .i64 0] 62 (0, 0)) ∧ Fr w.heap.size (TF p M v) w wr ∧ ∀ q, TF p M v' q → TF p M v q ∨ w.heap.size < q)) (fun _ wr => rowLen (wr.cell? ⟨p, 0, none⟩))
  case atStart => exact ⟨rfl, v, H.out.later HB0.out, Lib.hid ⟨HK0.out, Fr.of_below HB0.out _, fun q hq => .inl hq⟩⟩
  case round =>
    obtain ⟨rfl, v', hT, hI⟩ := hrel
    have HT := Lib.hid hT
    obtain ⟨l, hl, hh, hsub, hlN, hok⟩ := hT.hp
    obtain ⟨a, cap, rfl⟩ := own_form hl.own
    obtain ⟨n, hn⟩ : ∃ n, l.length = n := ⟨_, rfl⟩
    have HL := Lib.hid hl; have HNN := Lib.hid hn
    have q0 := cell_of_block hl.head 0
    have q1 := cell_of_block hl.head 1
    have z0 := frozen_of_block hl.head 0
    rw [hn] at q0 hlN
    have lp := lt_of_block hl.head
    have HH := Lib.hid hh; have HS := Lib.hid hsub; have HOK := Lib.hid hok
    have rb := hI.out.1
    have rc0 := cell_of_block rb 0; have rc1 := cell_of_block rb 1
    have rl := lt_of_block rb
    have rz0 := frozen_of_block rb 0; have rz1 := frozen_of_block rb 1
    cases n with
    | zero =>
      have hs0 : s = [] := by
        cases s with
        | nil => rfl
        | cons x r => have := hsub x (List.mem_cons_self ..); rw [List.length_eq_zero_iff.1 hn] at this; simp at this
      clear hl hn hT hh hsub hok
      go_wp2_with fail
      have hb2 := setCell_block (setCell_block hI.out.1 0 (.int .i64 0)) 1 (.int .i64 0)
      refine bodyPost_ret (results_row_tmp rfl _ _ _ _ _ _ _ entUnder rfl rfl hb2 (by kernel_rfl)) rfl ?_
      have hF : ∀ q, q ≠ w.heap.size → ((wr.setCell ⟨w.heap.size, 0, none⟩ (.int .i64 0)).setCell ⟨w.heap.size, 1, none⟩ (.int .i64 0)).heap[q]? = wr.heap[q]? := fun q hq => by
        rw [setCell_other _ (by exact hq), setCell_other _ (by exact hq)]
      have hne : ∀ q, TF p M (.slice a l.length cap) q → q ≠ w.heap.size := fun q hq e => by
        rcases hI.out.2.2 q hq with h1 | h1
        · have := H.out.lt h1; omega
        · omega
      have hT2 := HT.out.frame (w' := (wr.setCell ⟨w.heap.size, 0, none⟩ (.int .i64 0)).setCell ⟨w.heap.size, 1, none⟩ (.int .i64 0)) (fun q hq => hF q (hne q hq)) (by simp [World.setCell])
      obtain ⟨l2, hl2, hh2, hsub2, hlN2, hok2⟩ := hT2.hp
      subst hs0
      refine ⟨rfl, _, l2, hl2, hh2, hsub2, hlN2, hok2, (fun x r e => by cases e), hT2, ?_, fun q hq => (hI.out.2.2 q hq).imp id (fun e => by omega)⟩
      exact (hI.out.2.1.setCell (p := ⟨w.heap.size, 0, none⟩) (.inl (Nat.le_refl _)) _).setCell (p := ⟨w.heap.size, 1, none⟩) (.inl (Nat.le_refl _)) _
    | succ n =>
      obtain ⟨R, cap', _, hv, hR, _⟩ := hl.row (k := 0) (by omega)
      simp only [Value.slice.injEq, true_and] at hv
      obtain ⟨rfl, rfl⟩ := hv
      obtain ⟨x, hx⟩ : ∃ x, l[0]? = some x := ⟨_, List.getElem?_eq_getElem (by omega)⟩
      obtain ⟨d0, d1, g0, g1, lR⟩ := hl.cellsOf rfl hx
      simp only [Nat.zero_mul, Nat.zero_add] at d0 d1 g0 g1
      have HX := Lib.hid hx
      clear hl hn hT hh hsub hok hx
      go_wp2_with fail
      have hb3 := (Below.refl wr.heap.size wr).alloc (Nat.le_refl _) (.cells #[.int .i64 x.tick, .int .i64 x.id] 62)
      have hsz3 : (wr.alloc (.cells #[.int .i64 x.tick, .int .i64 x.id] 62)).heap.size = wr.heap.size + 1 := World.size_alloc _ _
      have k3 := World.alloc_heap_new wr (.cells #[.int .i64 x.tick, .int .i64 x.id] 62)
      generalize wr.alloc (.cells #[.int .i64 x.tick, .int .i64 x.id] 62) = w3 at hb3 hsz3 k3 ⊢
      have HT3 := Lib.hid (HT.out.later hb3)
      have hlk : ∀ y : Later w3, _ := fun y => (HT3.out.later y.bel).look (HOK.out x (List.mem_of_getElem? HX.out))
      have lp3 : p < w3.heap.size := Nat.lt_of_lt_of_le lp hb3.size
      have q1' : ∀ y : Later w3, y.wd.cell? ⟨p, 1, none⟩ = some (.map (some M)) := fun y => (y.cell lp3).trans ((hb3.cell (p := ⟨p, 1, none⟩) lp).trans q1)
      have e1' : ∀ y : Later w3, y.wd.cell? ⟨wr.heap.size, 1, none⟩ = some (.int .i64 x.id) := fun y => (y.cell (lt_of_block k3)).trans (cell_of_block k3 1)
      have le := lt_of_block k3
      have hrb := (hb3.block _ rl).trans rb
      have HB3 := Lib.hid hb3; have HSZ3 := Lib.hid hsz3
      obtain ⟨tk, b, hlk2, hcase⟩ : ∃ (tk : Int) (b : Bool), (∀ y : Later w3, (Instr.lookup 54 (.map (some M)) (.int .i64 x.id) true).run Try.prog y.wd = .ok (.tuple #[.int .i64 tk, .bool b]) y.wd) ∧ ((b = true ∧ (tk == x.tick) = true ∧ x ∈ s) ∨ (b = true ∧ (tk == x.tick) = false ∧ x ∉ s) ∨ (b = false ∧ x ∉ s)) := by
        refine ⟨_, _, hlk, ?_⟩
        cases hl : lookE s x.id with
        | none => exact .inr (.inr ⟨rfl, fun hm => lookE_none.1 hl x hm rfl⟩)
        | some e =>
          obtain ⟨h1, h2⟩ := lookE_some hl
          by_cases he : e.tick = x.tick
          · refine .inl ⟨rfl, by simpa using he, ?_⟩
            have : e = x := by cases e; cases x; simp_all
            exact this ▸ h1
          · refine .inr (.inl ⟨rfl, by simpa using he, fun hm => ?_⟩)
            rw [lookE_mem HT.out.row hm] at hl
            cases hl
            exact he rfl
      have HRB := Lib.hid hrb; have HK3 := Lib.hid k3
      clear hlk d0 d1 q0 q1 z0 rb rc0 rc1 rz0 rz1 hb3 hsz3 k3 hrb
      refine wp_region_later (by kernel_rfl) (by kernel_rfl) ?_
      repeat (quiet_step (fail))
      refine wpQuiet_nil ?_
      rintro w4 ⟨⟨_, hb4⟩, rfl⟩
      have HT4 := Lib.hid (HT3.out.later hb4)
      have hrb := (hb4.block _ (lt_of_block HRB.out)).trans HRB.out
      have hek := (hb4.block _ (lt_of_block HK3.out)).trans HK3.out
      have rc0 := cell_of_block hrb 0; have rc1 := cell_of_block hrb 1
      have rz0 := frozen_of_block hrb 0; have rz1 := frozen_of_block hrb 1
      have e0 := cell_of_block hek 0; have e1 := cell_of_block hek 1
      have le := lt_of_block hek; have rl4 := lt_of_block hrb
      have lp4 : p < w4.heap.size := Nat.lt_of_lt_of_le lp3 hb4.size
      have HRB4 := Lib.hid hrb; have HB4 := Lib.hid (HB3.out.trans (hb4.mono HB3.out.size))
      have hFr4 := hI.out.2.1.trans ((Fr.of_below HB4.out (TF p M v)).mono hI.out.2.1.size fun _ _ e => e)
      have HFR4 := Lib.hid hFr4
      clear q1' e1' hlk2 hrb hek hb4 hFr4
      rcases hcase with ⟨rfl, htk, hm⟩ | hcase
      · go_wp2_with fail
        have hb2 := setCell_block (setCell_block HRB4.out 0 (.int .i64 x.tick)) 1 (.int .i64 x.id)
        refine bodyPost_ret (results_row_tmp rfl _ _ _ _ _ _ _ entUnder rfl rfl hb2 (by kernel_rfl)) rfl ?_
        have hF : ∀ q, q ≠ w.heap.size → ((w4.setCell ⟨w.heap.size, 0, none⟩ (.int .i64 x.tick)).setCell ⟨w.heap.size, 1, none⟩ (.int .i64 x.id)).heap[q]? = w4.heap[q]? := fun q hq => by
          rw [setCell_other _ (by exact hq), setCell_other _ (by exact hq)]
        have hne : ∀ q, TF p M (.slice (some ⟨R, 0, none⟩) l.length cap) q → q ≠ w.heap.size := fun q hq e => by
          rcases hI.out.2.2 q hq with h1 | h1
          · have := H.out.lt h1; omega
          · omega
        have hT2 := HT4.out.frame (w' := (w4.setCell ⟨w.heap.size, 0, none⟩ (.int .i64 x.tick)).setCell ⟨w.heap.size, 1, none⟩ (.int .i64 x.id)) (fun q hq => hF q (hne q hq)) (by simp [World.setCell])
        obtain ⟨r, hsr⟩ := first_row HH.out HT4.out.row HS.out HX.out hm
        have hHp : HpAt ((w4.setCell ⟨w.heap.size, 0, none⟩ (.int .i64 x.tick)).setCell ⟨w.heap.size, 1, none⟩ (.int .i64 x.id)) base p (.map (some M)) (.slice (some ⟨R, 0, none⟩) l.length cap) l := by
          have h4 := HL.out.later HB4.out
          refine ⟨(hF p (hne p (.inl rfl))).trans h4.head, ?_, h4.far.1, by simpa [World.setCell] using h4.far.2⟩
          obtain ⟨h1, h2⟩ := h4.own
          refine ⟨h1, ?_⟩
          rcases h2 with h2 | ⟨g, cap, cur, hv, hg, hh, r⟩
          · exact .inl h2
          · exact .inr ⟨g, cap, cur, hv, hg, (hF g (hne g (.inr (.inr (by rw [hv]; rfl))))).trans hh, r⟩
        refine ⟨?_, _, l, hHp, HH.out, HS.out, by rw [HNN.out]; exact hlN, HOK.out, fun y r' e => ?_, hT2, ?_, fun q hq => (hI.out.2.2 q hq).imp id (fun e => by omega)⟩
        · rw [hsr]; rfl
        · rw [hsr] at e; cases e; exact HX.out
        · exact (HFR4.out.setCell (p := ⟨w.heap.size, 0, none⟩) (.inl (Nat.le_refl _)) _).setCell (p := ⟨w.heap.size, 1, none⟩) (.inl (Nat.le_refl _)) _
      · have hno : x ∉ s := hcase.elim (fun h => h.2.2) (fun h => h.2)
        have HNO := Lib.hid hno
        have hpop := pop_any base p (.map (some M)) R n cap l w4 (HNN.out ▸ HL.out.later HB4.out) HNN.out HH.out (by omega)
        have hTR : TF p M (.slice (some ⟨R, 0, none⟩) l.length cap) R := .inr (.inr rfl)
        have hend : ∀ w5, TmAt w5 base p M (.slice (some ⟨R, 0, none⟩) n cap) N s → Fr w4.heap.size (fun q => q = p ∨ q = R) w4 w5 → (Value.bool false = Value.bool false ∧ ∃ v', TmAt w5 base p M v' N s ∧ Hid (w5.heap[w.heap.size]? = some (.cells #[.int .i64 0, .int .i64 0] 62 (0, 0)) ∧ Fr w.heap.size (TF p M v) w w5 ∧ ∀ q, TF p M v' q → TF p M v q ∨ w.heap.size < q)) ∧ rowLen (w5.cell? ⟨p, 0, none⟩) < rowLen (wr.cell? ⟨p, 0, none⟩) := by
          intro w5 hT5 hfr5
          have lpw := H.out.lt (.inl rfl)
          refine ⟨⟨rfl, _, hT5, Lib.hid ⟨(hfr5.block _ rl4 (fun e => ?_)).trans HRB4.out, HFR4.out.trans (hfr5.mono (Nat.le_trans HFR4.out.size (Nat.le_refl _)) fun q hq e => ?_), fun q hq => ?_⟩⟩, ?_⟩
          · rcases e with e | e
            · omega
            · rcases hI.out.2.2 R hTR with h1 | h1
              · have := H.out.lt h1; omega
              · omega
          · rcases e with rfl | rfl
            · exact .inl rfl
            · exact (hI.out.2.2 _ hTR).elim id (fun e => by omega)
          · refine hI.out.2.2 q ?_
            rcases hq with h | h | h
            · exact .inl h
            · exact .inr (.inl h)
            · exact .inr (.inr h)
          · rw [cell_of_block hT5.head 0, cell_of_block HL.out.head 0]
            show n < l.length
            rw [HNN.out]; omega
        rcases hcase with ⟨rfl, htk, _⟩ | ⟨rfl, _⟩
        · go_wp2_with fail
          refine hpop.mono ?_
          intro e w5 hq
          obtain ⟨rfl, hT5', hfr5⟩ := pop_step HT4.out (by rw [HNN.out]) hR HNN.out HX.out HS.out hlN HOK.out HNO.out hq
          have hT5 := hT5'.more (Nat.le_trans (Nat.le_succ n) hlN)
          clear hT5'
          clear hq hpop
          go_wp2_with fail
          exact ⟨⟨rfl, (hend w5 hT5 hfr5).1.2⟩, (hend w5 hT5 hfr5).2⟩
        · go_wp2_with fail
          refine hpop.mono ?_
          intro e w5 hq
          obtain ⟨rfl, hT5', hfr5⟩ := pop_step HT4.out (by rw [HNN.out]) hR HNN.out HX.out HS.out hlN HOK.out HNO.out hq
          have hT5 := hT5'.more (Nat.le_trans (Nat.le_succ n) hlN)
          clear hT5'
          clear hq hpop
          go_wp2_with fail
          exact ⟨⟨rfl, (hend w5 hT5 hfr5).1.2⟩, (hend w5 hT5 hfr5).2⟩
end Go.Proofs.Ytnfdobmjfchegaa
