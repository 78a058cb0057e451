/-
  topo.New: what it makes.
-/
import Derived.Test.YtdmbjjladkdphaaTopoFun
import Derived.Test.YtdmbjjladkdphaaMaskB
import Derived.Test.YtdmbjjladkdphaaRegions2
import Derived.Deep.QuietTactic
import Derived.StillTailTactics
import Derived.Outline
set_option linter.unusedVariables false
set_option linter.unusedSimpArgs false
namespace Go.Proofs.Ytdmbjjladkdphaa
open Go.RowKit Go.Maps

def okInt (n : Int) : Prop := (Lit.int .i64 n).wf = true
theorem okInt_small {n : Int} (h : -1000000 ≤ n) (h' : n ≤ 1000000) : okInt n := by
  unfold okInt
  simp [Lit.wf, IntKind.min, IntKind.max, IntKind.signed, IntKind.bits]
  omega
/-- a spot, as a struct's value -/
def spV (k : Sp) : Value := .agg #[.int .i64 k.node, .int .i64 k.domain]
def SpOk (k : Sp) : Prop := okInt k.node ∧ okInt k.domain
theorem laidOut : laidOutB Try.prog = true := by kernel_rfl
theorem keyLits_sp {P : Program} {K I d : Nat} {f g : Field} (h3 : P.underlying K = some (.struct #[f, g])) (hf : f.type = I ∧ f.offset = 0 ∧ f.name ≠ "_") (hg : g.type = I ∧ g.offset = 1 ∧ g.name ≠ "_") (h4 : P.underlying I = some (.int .i64)) (h5 : P.cellsOf I = 1) (h6 : P.cellsOf K = 2)
    {a b : Int} (ha : okInt a) (hb : okInt b) : P.keyLits (d + 2) K [.int .i64 a, .int .i64 b] = some [.int .i64 a, .int .i64 b] := by
  unfold okInt at ha hb
  have e : ∀ n, okInt n → P.keyLits (d + 1) I [.int .i64 n] = some [.int .i64 n] := fun n hn => by
    unfold okInt at hn
    simp [Program.keyLits, h4, hn]
  unfold Program.keyLits
  simp only [h3, h6]
  simp [hf, hg, h5, e a ha, e b hb]
theorem spKey : Mp.KeyEnc Try.prog 41 SpOk spV where
  law := Keyed.of_law (deep_law_gate laidOut (of_decide_eq_true (by kernel_rfl)) (of_decide_eq_true (by kernel_rfl)) (by kernel_rfl) (by kernel_rfl))
  key := by
    rintro ⟨a, b⟩ ⟨ha, hb⟩
    have h1 : Try.prog.keyType 41 = true := by kernel_rfl
    have h2 : (spV ⟨a, b⟩).formed Try.prog 41 = true := by kernel_rfl
    have h4 : Try.prog.underlying 3 = some (.int .i64) := by kernel_rfl
    have h5 : Try.prog.cellsOf 3 = 1 := by kernel_rfl
    have h6 : Try.prog.cellsOf 41 = 2 := by kernel_rfl
    have h7 : 1 ≤ Try.prog.types.size := of_decide_eq_true (by kernel_rfl)
    obtain ⟨d, hd⟩ : ∃ d, Try.prog.types.size + 1 = d + 2 := ⟨Try.prog.types.size - 1, by omega⟩
    have h3 := Try.underlying41
    have hl := keyLits_sp (d := d) h3 ⟨rfl, rfl, by decide⟩ ⟨rfl, rfl, by decide⟩ h4 h5 h6 ha hb
    refine ⟨.string (keyBytes [.int .i64 a, .int .i64 b]), ?_⟩
    unfold keyOf
    rw [h3, h1, h2, hd]
    rw [show (spV ⟨a, b⟩).cells.toList = [.int .i64 a, .int .i64 b] from rfl, hl]
    rfl
  inj := by
    rintro ⟨a, b⟩ ⟨a', b'⟩ h
    simp [spV] at h
    simp [h]
theorem infoFree : (Try.prog.info? 45).map (fun i => (i.zero, i.size, i.bytes)) = some (some (.agg #[.int .i64 0, .int .i64 0, .int .u64 0, .int .i64 0]), 4, 32) := by kernel_rfl
theorem mapUnder : Try.prog.underlying 87 = some (.map 41 3) := by kernel_rfl

theorem own_form {w : World} {base : Nat} {e : TypeId} {sz : Nat} {v : Value} {n : Nat} {xs : List Value} (h : w.ownsRow base e sz v n xs) : ∃ a cap, v = .slice a n cap := by
  rcases h.2 with ⟨rfl, h0⟩ | ⟨g, cap, cur, rfl, _⟩
  · subst h0; exact ⟨none, 0, rfl⟩
  · exact ⟨some ⟨g, 0, none⟩, cap, rfl⟩

/-- what topo.New has made, of the spots L -/
def TI (W : World) (nn : Nat) (L : List Fe) (wr : World) : Prop :=
  ∃ (v : Value) (es : Array MapEntry) (c : Nat), wr.heap[W.heap.size + 2]? = some (.cells #[v, .map (some (W.heap.size + 1)), .int .i64 nn] 89 (0, 0)) ∧ wr.heap[W.heap.size + 1]? = some (.map es c) ∧
    Mp.Ents SpOk spV es (idxG 0 L) ∧ wr.ownsRow (W.heap.size + 3) 45 4 v L.length (L.flatMap Fe.cells) ∧ Below W.heap.size W wr

theorem TI.later {W wr w' : World} {nn : Nat} {L : List Fe} (h : TI W nn L wr) (hb : Below wr.heap.size wr w') : TI W nn L w' := by
  obtain ⟨v, es, c, h1, h2, h3, h4, h5⟩ := h
  exact ⟨v, es, c, (hb.block _ (lt_of_block h1)).trans h1, (hb.block _ (lt_of_block h2)).trans h2, h3, ownsRow_below h4 hb, h5.trans (hb.mono h5.size)⟩

/-- Topo's object lies at p -/
structure TopoAt (w : World) (p R cap M nn : Nat) (L : List Fe) : Prop where
  head : w.heap[p]? = some (.cells #[.slice (some ⟨R, 0, none⟩) L.length cap, .map (some M), .int .i64 nn] 89 (0, 0))
  row : ∃ cs : Array Value, w.heap[R]? = some (.cells cs 45 (0, 0)) ∧ L.length ≤ cap ∧ cap ≤ maxLen ∧ cs.toList.take (L.length * 4) = L.flatMap Fe.cells
  map : ∃ es c, w.heap[M]? = some (.map es c) ∧ Mp.Ents SpOk spV es (idxG 0 L)

def NewPost (W : World) (ns : List (List Dm)) (e : Ending) (w' : World) : Prop :=
  (nodesOk ns = false ∧ e = .returned (.tuple #[.pointer none, .int .i64 1]) ∧ Below W.heap.size W w') ∨
  (nodesOk ns = true ∧ ∃ p R cap M, e = .returned (.tuple #[.pointer (some ⟨p, 0, none⟩), .int .i64 0]) ∧ TopoAt w' p R cap M ns.length (allG 0 ns) ∧ W.heap.size ≤ p ∧ W.heap.size ≤ R ∧ W.heap.size ≤ M ∧ Below W.heap.size W w')

theorem bad_nodes {ns : List (List Dm)} {k : Nat} (hk : k < ns.length) (h : domsOk ns[k] = false) : nodesOk ns = false := by
  have : ns.all domsOk = false := by
    rw [List.all_eq_false]
    exact ⟨ns[k], List.getElem_mem _, by simp [h]⟩
  unfold nodesOk
  rw [this, Bool.and_false]
theorem bad_doms {ds : List Dm} {j : Nat} (hj : j < ds.length) (h : ds[j].okB = false) : domsOk ds = false := by
  have : ds.all Dm.okB = false := by
    rw [List.all_eq_false]
    exact ⟨ds[j], List.getElem_mem _, by simp [h]⟩
  unfold domsOk
  rw [this, Bool.and_false]

theorem flat_len (L : List Fe) : (L.flatMap Fe.cells).length = L.length * 4 := by
  induction L with
  | nil => rfl
  | cons x r ih => simp [Fe.cells, ih, Nat.add_mul]

theorem firstM_any (g : Int) (w : World) (h0 : 0 ≤ g) (h1 : g ≤ 16) : Calls Try.prog 42 #[.int .i64 g] w fun e w' => e = .returned (.int .u64 (firstM g)) ∧ w = w' :=
  firstC g g.toNat (by omega) (.inr (.inl (by omega))) w

theorem alloc3_new (w : World) (x y z : Obj) : (((w.alloc x).alloc y).alloc z).heap[w.heap.size + 2]? = some z := by
  have := World.alloc_heap_new ((w.alloc x).alloc y) z
  rwa [World.size_alloc, World.size_alloc] at this
theorem alloc3_mid (w : World) (x y z : Obj) : (((w.alloc x).alloc y).alloc z).heap[w.heap.size + 1]? = some y :=
  alloc_other (alloc2_new _ _ _)

set_option maxRecDepth 100000 in
set_option maxHeartbeats 4000000 in
theorem topoNew_any (v : Value) (ns : List (List Dm)) (W : World) (s : NodesOf W v ns) :
    Calls Try.prog 29 #[.agg #[v]] W (NewPost W ns) := by
  by_cases h1 : 1 ≤ ns.length ∧ ns.length ≤ 16
  case neg =>
    have HN := Lib.hid (show nodesOk ns = false by simp [nodesOk, h1])
    obtain ⟨a, cap, rfl⟩ := s.form
    by_cases h2 : (ns.length : Int) < 1
    · clear s h1
      go_enter Try.func29, Try.ntmps29
      go_wp2
      go_ret2
      exact .inl ⟨HN.out, rfl, (Below.refl _ _).alloc (Nat.le_refl _) _⟩
    · have h3 : (16 : Int) < ns.length := by omega
      clear s h1
      go_enter Try.func29, Try.ntmps29
      go_wp2
      go_ret2
      exact .inl ⟨HN.out, rfl, (Below.refl _ _).alloc (Nat.le_refl _) _⟩
  obtain ⟨b, off, cap, rfl, hc1, hc2, hb, hcell⟩ := s.plain (by intro e; rw [e] at h1; simp at h1)
  obtain ⟨n, hn⟩ : ∃ n, ns.length = n := ⟨_, rfl⟩
  obtain ⟨i0, hi0, hz0, hz1, hz2⟩ := info_parts infoFree
  have H1 := Lib.hid h1
  have hn1 : 1 ≤ n := by omega
  have hn2 : n ≤ 16 := by omega
  rw [hn] at hc1 ⊢
  have HN := Lib.hid hn; have HC := Lib.hid hcell
  clear hn h1 s hcell
  have hmm := @run_makeMap Try.prog
  go_enter Try.func29, Try.ntmps29
  go_wp2_with fail
  go_loopw [29] (fun i wr => ∃ k : Nat, k ≤ n ∧ i = .int .i64 k ∧ Hid ((ns.take k).all domsOk = true) ∧ TI W n (partG ns k 0) wr) (fun i _ => n - (intOf i).toNat)
  case atStart =>
    refine ⟨0, Nat.zero_le _, rfl, Lib.hid (by simp), .slice none 0 0, #[], 0, ?_, ?_, ?_, ?_, ?_⟩
    · exact alloc3_new _ _ _ _
    · exact alloc3_mid _ _ _ _
    · rw [partG_zero]; exact Mp.Ents.nil
    · rw [partG_zero]; exact World.ownsRow_nil _ _ _ _
    · exact (((Below.refl _ _).alloc (Nat.le_refl _) _).alloc (by simp) _).alloc (by simp; omega) _
  case round =>
    obtain ⟨k, hk, rfl, hall, hTI⟩ := hrel
    have HTI := Lib.hid hTI
    have HBo := Lib.hid (show Below W.heap.size W wr from by obtain ⟨_, _, _, _, _, _, _, h⟩ := hTI; exact h)
    clear hTI
    obtain ⟨wo, rfl⟩ : ∃ wo : World, wo = wr := ⟨_, rfl⟩
    by_cases hlt : k < n
    · have hlq : k < ns.length := by rw [HN.out]; exact hlt
      obtain ⟨u, hu, hs⟩ := HC.out k hlq
      obtain ⟨ds, hds⟩ : ∃ ds, ns[k] = ds := ⟨_, rfl⟩
      rw [hds] at hs
      have HD := Lib.hid (show ns.getD k [] = ds by rw [← hds]; simp [List.getD, hlq])
      have HDS := Lib.hid hds
      have c0 : wo.cell? ⟨b, off + k, none⟩ = some u := (HBo.out.cell (p := ⟨b, off + k, none⟩) hb).trans hu
      clear hu hds
      by_cases h4 : 1 ≤ ds.length ∧ ds.length ≤ 4
      · obtain ⟨bd, offd, capd, rfl, hd1, hd2, hbd, hdcell⟩ := hs.plain (by intro e; rw [e] at h4; simp at h4) (by intro x _; simp [Dm.cells])
        obtain ⟨m, hm⟩ : ∃ m, ds.length = m := ⟨_, rfl⟩
        have HM := Lib.hid hm; have HDC := Lib.hid hdcell
        rw [hm] at c0 hd1 h4
        obtain ⟨h41, h42⟩ := h4
        clear hm hs hdcell
        go_wp2_with fail
        have HT2 := Lib.hid (HTI.out.later ((Below.refl wo.heap.size wo).alloc (Nat.le_refl _) (.cells #[.slice (some ⟨bd, offd, none⟩) m capd] 69)))
        go_loopw [47] (fun i wr => ∃ j : Nat, j ≤ m ∧ i = .int .i64 j ∧ Hid ((ds.take j).all Dm.okB = true) ∧ TI W n (partG ns k j) wr) (fun i _ => m - (intOf i).toNat)
        case atStart => exact ⟨0, Nat.zero_le _, rfl, Lib.hid (by simp), HT2.out⟩
        case round =>
          obtain ⟨j, hj, rfl, halld, hTI⟩ := hrel
          obtain ⟨v, es, c, hA, hM, hE, hO, hB⟩ := hTI
          obtain ⟨av, capv, hform⟩ := own_form hO
          by_cases hjlt : j < m
          · have hjd : j < ds.length := by rw [HM.out]; exact hjlt
            obtain ⟨x, hx⟩ : ∃ x, ds[j] = x := ⟨_, rfl⟩
            have d0 : wr.cell? ⟨bd, offd + j * 2, none⟩ = some (.int .i64 x.gpus) := by
              rw [hB.cell (p := ⟨bd, offd + j * 2, none⟩) hbd, ← hx]; exact HDC.out j hjd 0 (by simp [Dm.cells])
            have d1 : wr.cell? ⟨bd, offd + j * 2 + 1, none⟩ = some (.int .i64 x.cpus) := by
              rw [hB.cell (p := ⟨bd, offd + j * 2 + 1, none⟩) hbd, ← hx]; exact HDC.out j hjd 1 (by simp [Dm.cells])
            cases hok : x.okB with
            | false =>
              have HB2 := Lib.hid (bad_nodes hlq (by rw [HDS.out]; exact bad_doms hjd (by rw [hx]; exact hok)))
              have HBw := Lib.hid (hB.alloc hB.size (.cells #[.int .i64 x.gpus, .int .i64 x.cpus] 66))
              have hok' : x.gpus < 0 ∨ 16 < x.gpus ∨ x.cpus < 0 ∨ 1024 < x.cpus := by simp [Dm.okB] at hok; omega
              clear hok hA hM hE hO hB hx
              rcases hok' with hg | hg | hg | hg
              · go_wp2_with fail
                go_ret2
                exact .inl ⟨HB2.out, rfl, HBw.out⟩
              · have hg' : ¬ x.gpus < 0 := by omega
                go_wp2_with fail
                go_ret2
                exact .inl ⟨HB2.out, rfl, HBw.out⟩
              · go_wp2_with fail
                all_goals
                  go_ret2
                  exact .inl ⟨HB2.out, rfl, HBw.out⟩
              · go_wp2_with fail
                all_goals
                  go_ret2
                  exact .inl ⟨HB2.out, rfl, HBw.out⟩
            | true =>
              have hok' := hok
              simp only [Dm.okB, decide_eq_true_eq] at hok'
              obtain ⟨g1, g2, g3, g4⟩ := hok'
              have HX := Lib.hid hx; have HOK := Lib.hid hok
              have HA := Lib.hid hA; have HMM := Lib.hid hM; have HE := Lib.hid hE; have HO := Lib.hid hO; have HF := Lib.hid hform
              have HBr := Lib.hid hB
              clear hx hok hA hM hE hO hform hB
              go_wp2_with fail
              have HP := Lib.hid (show ∃ W5, ((wr.alloc (.cells #[.int .i64 x.gpus, .int .i64 x.cpus] 66)).alloc (.cells #[.int .i64 (k : Int), .int .i64 (j : Int)] 41)) = W5 from ⟨_, rfl⟩)
              have HB5 := Lib.hid (((Below.refl wr.heap.size wr).alloc (Nat.le_refl _) (.cells #[.int .i64 x.gpus, .int .i64 x.cpus] 66)).alloc (by simp) (.cells #[.int .i64 (k : Int), .int .i64 (j : Int)] 41))
              have q1 : ((wr.alloc (.cells #[.int .i64 x.gpus, .int .i64 x.cpus] 66)).alloc (.cells #[.int .i64 (k : Int), .int .i64 (j : Int)] 41)).heap[wr.heap.size]? = some (.cells #[.int .i64 x.gpus, .int .i64 x.cpus] 66 (0, 0)) := alloc_other (World.alloc_heap_new _ _)
              have q2 : ((wr.alloc (.cells #[.int .i64 x.gpus, .int .i64 x.cpus] 66)).alloc (.cells #[.int .i64 (k : Int), .int .i64 (j : Int)] 41)).heap[wr.heap.size + 1]? = some (.cells #[.int .i64 (k : Int), .int .i64 (j : Int)] 41 (0, 0)) := alloc2_new _ _ _
              have qs : ((wr.alloc (.cells #[.int .i64 x.gpus, .int .i64 x.cpus] 66)).alloc (.cells #[.int .i64 (k : Int), .int .i64 (j : Int)] 41)).heap.size = wr.heap.size + 2 := by simp
              generalize ((wr.alloc (.cells #[.int .i64 x.gpus, .int .i64 x.cpus] 66)).alloc (.cells #[.int .i64 (k : Int), .int .i64 (j : Int)] 41)) = W5 at HB5 q1 q2 qs ⊢
              have hv := HF.out
              have HQ1 := Lib.hid q1; have HQ2 := Lib.hid q2; have HQS := Lib.hid qs
              have hA5 : W5.heap[W.heap.size + 1 + 1]? = some (.cells #[v, .map (some (W.heap.size + 1)), .int .i64 n] 89 (0, 0)) := (HB5.out.block _ (lt_of_block HA.out)).trans HA.out
              have hM5 : W5.heap[W.heap.size + 1]? = some (.map es c) := (HB5.out.block _ (lt_of_block HMM.out)).trans HMM.out
              have hO5 := ownsRow_below HO.out HB5.out
              have hkey : SpOk ⟨k, j⟩ := ⟨okInt_small (by show (-1000000 : Int) ≤ (k : Int); omega) (by show (k : Int) ≤ 1000000; omega), okInt_small (by show (-1000000 : Int) ≤ (j : Int); omega) (by show (j : Int) ≤ 1000000; omega)⟩
              obtain ⟨es', c', hup, hE'⟩ := Mp.update spKey mapUnder (W.heap.size + 1) c HE.out hkey (.int .i64 (((partG ns k j).length : Nat) : Int))
              have hfr := partG_fresh ns k j hlq
              have hput : Mp.put (idxG 0 (partG ns k j)) (⟨k, j⟩ : Sp) (.int .i64 (((partG ns k j).length : Nat) : Int)) = idxG 0 (partG ns k (j + 1)) := by
                have hl : Mp.look (idxG 0 (partG ns k j)) (⟨k, j⟩ : Sp) = none := by
                  rw [look_idx]
                  cases hp : posF (partG ns k j) ⟨k, j⟩ with
                  | none => rfl
                  | some q => obtain ⟨h1, h2⟩ := posF_some hp; exact absurd h2 (hfr _ (List.getElem_mem _))
                have hj2 : j < (ns.getD k []).length := by rw [HD.out, HM.out]; exact hjlt
                rw [partG_snoc ns k j hj2, idxG_append]
                unfold Mp.put
                rw [hl]
                simp [idxG, rowF]
              rw [hput] at hE'
              have HE' := Lib.hid hE'
              obtain ⟨L, hL⟩ : ∃ L, partG ns k j = L := ⟨_, rfl⟩
              have HL := Lib.hid hL
              rw [hL] at hup hO5 hv
              obtain ⟨ln, hln⟩ : ∃ ln, L.length = ln := ⟨_, rfl⟩
              have HLN := Lib.hid hln
              rw [hln] at hup hv hO5
              subst hv
              have hrun : (Instr.mapUpdate 87 (.map (some (W.heap.size + 1))) (.agg #[.int .i64 (k : Int), .int .i64 (j : Int)]) (.int .i64 (ln : Int))).run Try.prog W5.drew = .ok () (W5.drew.putObj (W.heap.size + 1) (.map es' c')) := hup _ hM5
              have p0 := cell_of_block hA5 0
              have p1 := cell_of_block hA5 1
              have s0 := cell_of_block q2 0
              have s1 := cell_of_block q2 1
              have HA5 := Lib.hid hA5; have HM5 := Lib.hid hM5; have HO5 := Lib.hid hO5
              clear hup hput hL hln hfr hE' hkey hA5 hM5 hO5 q1 q2 qs HP d0 d1
              refine wp_region_still_tail 10 (by kernel_rfl) (by kernel_rfl) ?_
              simp only [List.take_succ_cons, List.take_zero, List.drop_succ_cons, List.drop_zero]
              iterate 10 still_step
              refine wpStill_nil ?_
              change wpList _ _ _ _ _ W5.drew
              go_wp2_with fail
              have lA := lt_of_block HA5.out
              have lM := lt_of_block HM5.out
              have sz5 := HQS.out
              have zA := lt_of_block HA.out
              have hF6 : ∀ q, q ≠ W.heap.size + 1 → (W5.drew.putObj (W.heap.size + 1) (.map es' c')).heap[q]? = W5.heap[q]? := fun q hq => World.putObj_heap_other hq
              have hM6 : (W5.drew.putObj (W.heap.size + 1) (.map es' c')).heap[W.heap.size + 1]? = some (.map es' c') := by
                simp [World.putObj, Array.getElem?_setIfInBounds, lM]
              have hFr6 : Fr W5.heap.size (fun q => q = W.heap.size + 1) W5 (W5.drew.putObj (W.heap.size + 1) (.map es' c')) := (Fr.refl W5.heap.size (fun q => q = W.heap.size + 1) W5).drew.putObj (.inr rfl) _
              have hsz6 : (W5.drew.putObj (W.heap.size + 1) (.map es' c')).heap.size = W5.heap.size := by simp [World.putObj]
              have hBW6 : Below W.heap.size W (W5.drew.putObj (W.heap.size + 1) (.map es' c')) := HBr.out.trans (HB5.out.mono HBr.out.size) |>.trans (hFr6.below (by omega) (fun q hq => by omega))
              generalize W5.drew.putObj (W.heap.size + 1) (.map es' c') = W6 at hF6 hM6 hFr6 hsz6 hBW6 ⊢
              have hlo := HO5.out.lt
              have HO6 := Lib.hid (ownsRow_fr HO5.out hFr6 (fun g hg => ⟨(hlo g hg).2, by have := (hlo g hg).1; omega⟩))
              have hA6 := (hF6 (W.heap.size + 1 + 1) (by omega)).trans HA5.out
              have hq1 := (hF6 wr.heap.size (by omega)).trans HQ1.out
              have hq2 := (hF6 (wr.heap.size + 1) (by omega)).trans HQ2.out
              have HBW6 := Lib.hid hBW6; have HM6 := Lib.hid hM6
              have av1 : (Value.slice av ln capv).ownBlock ≠ some (W.heap.size + 1 + 1) := fun e => by have := (hlo _ e).1; omega
              have av2 : (Value.slice av ln capv).ownBlock ≠ some wr.heap.size := fun e => by have := (HO.out.lt _ (by rw [HF.out, HL.out, HLN.out]; exact e)).2; omega
              have av3 : (Value.slice av ln capv).ownBlock ≠ some (wr.heap.size + 1) := fun e => by have := (HO.out.lt _ (by rw [HF.out, HL.out, HLN.out]; exact e)).2; omega
              have av4 : (Value.slice av ln capv).ownBlock ≠ some (W.heap.size + 1) := fun e => by have := (hlo _ e).1; omega
              have l1 : W.heap.size + 1 + 1 < W6.heap.size := by omega
              have l2 : wr.heap.size < W6.heap.size := by omega
              have l3 : wr.heap.size + 1 < W6.heap.size := by omega
              have c1 := cell_of_block hA6 0
              have c2 := cell_of_block hq1 0
              have c3 := cell_of_block hq1 1
              have c4 := cell_of_block hq2 0
              have c5 := cell_of_block hq2 1
              have fz1 := frozen_of_block hA6 0
              have d0 : ∀ y : LaterF W6 (fun q => (Value.slice av ln capv).ownBlock = some q), y.wd.cell? ⟨W.heap.size + 1 + 1, 0, none⟩ = some (.slice av ln capv) := fun y => (y.cell l1 av1).trans c1
              have d1 : ∀ y : LaterF W6 (fun q => (Value.slice av ln capv).ownBlock = some q), y.wd.cell? ⟨wr.heap.size, 0, none⟩ = some (.int .i64 x.gpus) := fun y => (y.cell l2 av2).trans c2
              have d2 : ∀ y : LaterF W6 (fun q => (Value.slice av ln capv).ownBlock = some q), y.wd.cell? ⟨wr.heap.size, 1, none⟩ = some (.int .i64 x.cpus) := fun y => (y.cell l2 av2).trans c3
              have d3 : ∀ y : LaterF W6 (fun q => (Value.slice av ln capv).ownBlock = some q), y.wd.cell? ⟨wr.heap.size + 1, 0, none⟩ = some (.int .i64 (k : Int)) := fun y => (y.cell l3 av3).trans c4
              have d4 : ∀ y : LaterF W6 (fun q => (Value.slice av ln capv).ownBlock = some q), y.wd.cell? ⟨wr.heap.size + 1, 1, none⟩ = some (.int .i64 (j : Int)) := fun y => (y.cell l3 av3).trans c5
              have HA6 := Lib.hid hA6
              clear c2 c3 c4 c5 hF6 hq1 hq2 hA6 p0 p1 s0 s1 hrun hlo hFr6 hsz6 sz5
              refine Rg.wp_region_pick (by kernel_rfl) [0, 1, 2, 3, 4, 5, 6, 7, 9, 10] [8, 11, 12, 13, 14, 15, 16] 14 (by kernel_rfl) (by kernel_rfl) (by kernel_rfl) (fun w' => ∃ y : LaterF W6 (fun q => (Value.slice av ln capv).ownBlock = some q), w' = y.wd) (fun c a a' w hd h => ⟨hd.symm.trans h.1, h.2⟩) ⟨⟨W6.drew, (Fr.refl _ _ _).drew⟩, rfl⟩ ?_
              simp only [Rg.picks, List.getElem?_cons_succ, List.getElem?_cons_zero, Option.toList, List.cons_append, List.nil_append]
              repeat (quiet_step (fail))
              refine wpQuiet_nil ?_
              clear d0 d1 d2 d3 d4
              simp only [Rg.pickn, List.getElem?_cons_succ, List.getElem?_cons_zero, Option.toList, List.map_cons, List.map_nil, List.cons_append, List.nil_append]
              refine Rg.wpN_step (fun K hK => ?_) ⟨⟨W6.drew, (Fr.refl _ _ _).drew⟩, rfl⟩
              go_simp
              refine (firstM_any x.gpus _ g1 g2).mono ?_
              rintro e w7 ⟨rfl, rfl⟩
              refine hK _ _ (fun _ => ⟨⟨W6.drew, (Fr.refl _ _ _).drew⟩, rfl⟩) ?_
              clear hK K
              have fx1 := (Fr.refl W6.heap.size (fun q => (Value.slice av ln capv).ownBlock = some q) W6).alloc (Nat.le_refl _) (.cells #[.int .i64 (k : Int), .int .i64 (j : Int), .int .u64 (firstM x.gpus), .int .i64 x.cpus] 45)
              refine Rg.wpN_step (fun K hK => ?_) ⟨⟨W6.drew, (Fr.refl _ _ _).drew⟩, rfl⟩
              go_simp
              refine hK _ _ (fun _ => ⟨⟨W6.drew, (Fr.refl _ _ _).drew⟩, rfl⟩) ?_
              clear hK K
              refine Rg.wpN_step (fun K hK => ?_) ⟨⟨W6.drew, (Fr.refl _ _ _).drew⟩, rfl⟩
              go_simp
              refine hK _ _ (fun _ => ⟨⟨_, fx1.drew⟩, rfl⟩) ?_
              clear hK K
              refine Rg.wpN_step (fun K hK => ?_) ⟨⟨_, fx1.drew⟩, rfl⟩
              have hlen : ln ≤ 1000 := by
                have := HLN.out
                rw [← HL.out] at this
                have h2 := partG_len ns k (by omega) (fun d hd => by
                  have := List.all_eq_true.1 hall.out d hd
                  simp only [domsOk, Bool.and_eq_true, decide_eq_true_eq] at this
                  exact this.1.2) j (by omega)
                omega
              refine step_append_lies _ (by rfl) _ _ _ (by rfl) (W.heap.size + 3) 45 i0 _ 4 32 Try.underlying38 hi0 hz0 hz1 hz2 rfl (by omega) (.slice av ln capv) ln _ (by rfl) ((HO6.out.alloc _).drew)
                ⟨W6.heap.size, 0, none⟩ 1 1 [.int .i64 (k : Int), .int .i64 (j : Int), .int .u64 (firstM x.gpus), .int .i64 x.cpus] (by rfl) (by rfl) (World.news_of_block (cs := #[.int .i64 (k : Int), .int .i64 (j : Int), .int .u64 (firstM x.gpus), .int .i64 x.cpus]) (t := 45) (fr := (0, 0)) (World.alloc_heap_new W6 _)) (by simp [Value.oneCell'])
                (by omega) (by unfold maxLen; omega) (by omega) (by simp; omega) (W6.heap.size + 1) (by simp) ?_
              intro gg cap' w8 hown2 hgrow hat hlt2
              have fx3 := fx1.drew.grown hgrow (by simp) (fun q e => .inr e)
              refine hK _ _ (fun _ => ⟨⟨_, fx3⟩, rfl⟩) ?_
              clear hK K
              refine Rg.wpN_list (by decide) ?_
              simp only [List.map_cons, List.map_nil]
              have e0 := (fx3.cell (p := ⟨W.heap.size + 1 + 1, 0, none⟩) l1 av1).trans c1
              have e1 := (fx3.frozen (p := ⟨W.heap.size + 1 + 1, 0, none⟩) l1 av1).trans fz1
              clear c1 fz1
              go_wp2
              refine ⟨⟨j + 1, by omega, by go_num, ?_, ?_⟩, by simp [intOf]; omega⟩
              · refine Lib.hid ?_
                rw [List.take_succ_eq_append_getElem hjd, List.all_append, halld.out, HX.out]
                simp [HOK.out]
              · have hj2 : j < (ns.getD k []).length := by rw [HD.out, HM.out]; exact hjlt
                have hx2 : (ns.getD k [])[j] = x := by have := HX.out; have := HD.out; simp only [this]; assumption
                have hLL : partG ns k (j + 1) = L ++ [rowF k j x] := by rw [partG_snoc ns k j hj2, HL.out, hx2]
                have hgB : W.heap.size + 3 ≤ gg := (hown2.lt gg rfl).1
                refine ⟨.slice (some ⟨gg, 0, none⟩) (ln + 1) cap', es', c', ?_, ?_, HE'.out, ?_, ?_⟩
                · have := (fx3.block _ l1 av1).trans HA6.out
                  exact setCell_block this 0 _
                · rw [setCell_other _ (by simp)]
                  exact (fx3.block _ (by omega) av4).trans HM6.out
                · rw [hLL, List.flatMap_append, List.length_append, HLN.out]
                  exact ownsRow_setCell_other hown2 (a := ⟨W.heap.size + 1 + 1, 0, none⟩) (by intro e; simp [Value.ownBlock] at e; omega) _
                · exact (HBW6.out.trans (fx3.below (by have := HBW6.out.size; omega) (fun q hq => by have := (HO6.out.lt q hq).1; omega))).setCell (by simp; omega) _
          · obtain rfl : j = m := by omega
            have HT3 := Lib.hid (show TI W n (partG ns (k + 1) 0) wr from by
              rw [← partG_next ns k hlq, HD.out, HM.out]
              exact ⟨v, es, c, hA, hM, hE, hO, hB⟩)
            have HAll := Lib.hid (show (ns.take (k + 1)).all domsOk = true from by
              rw [List.take_succ_eq_append_getElem hlq, List.all_append, hall.out, HDS.out]
              have h1 := halld.out
              rw [List.take_of_length_le (by rw [HM.out]; exact Nat.le_refl _)] at h1
              simp only [List.all_cons, List.all_nil, Bool.and_true, Bool.true_and]
              unfold domsOk
              rw [h1, HM.out]
              simp; omega)
            clear hA hM hE hO hB hform
            go_wp2_with fail
            refine ⟨⟨k + 1, by omega, by go_num, HAll, HT3.out⟩, by simp [intOf]; omega⟩
      · have HB := Lib.hid (bad_nodes hlq (by rw [HDS.out]; simp [domsOk, h4]))
        obtain ⟨a2, cap2, rfl⟩ := hs.form
        by_cases h5 : (ds.length : Int) < 1
        · clear hs h4
          go_wp2_with fail
          go_ret2
          exact .inl ⟨HB.out, rfl, HBo.out.alloc HBo.out.size _⟩
        · have h6 : (4 : Int) < ds.length := by omega
          clear hs h4
          go_wp2_with fail
          go_ret2
          exact .inl ⟨HB.out, rfl, HBo.out.alloc HBo.out.size _⟩
    · obtain rfl : k = n := by omega
      obtain ⟨v, es, c, hA, hM, hE, hO, hB⟩ := HTI.out
      have HA := Lib.hid hA; have HMM := Lib.hid hM; have HE := Lib.hid hE; have HO := Lib.hid hO; have HB := Lib.hid hB
      clear hA hM hE hO hB
      go_wp2_with fail
      go_ret2
      have hall2 := hall.out
      rw [List.take_of_length_le (by rw [HN.out]; exact Nat.le_refl _)] at hall2
      have hok : nodesOk ns = true := by unfold nodesOk; rw [hall2, HN.out]; simp; omega
      have hL : partG ns k 0 = allG 0 ns := by have := partG_end ns; rw [HN.out] at this; exact this
      have hne : 0 < (allG 0 ns).length := by
        cases hns : ns with
        | nil => have := HN.out; rw [hns] at this; simp at this; omega
        | cons d r =>
          have h1 := List.all_eq_true.1 hall2 d (by rw [hns]; exact List.mem_cons_self ..)
          simp only [domsOk, Bool.and_eq_true, decide_eq_true_eq] at h1
          simp only [allG, List.length_append, nodeG_len]
          omega
      have hO2 := HO.out
      rw [hL] at hO2
      obtain ⟨hxl, h | ⟨g, cap', cur, hv, hgb, hcur, hc1', hc2', hc3, hc4⟩⟩ := hO2
      · omega
      · subst hv
        refine .inr ⟨hok, W.heap.size + 1 + 1, g, cap', W.heap.size + 1, rfl, ⟨?_, ⟨cur, hcur, hc1', hc2', hc4⟩, ⟨es, c, HMM.out, ?_⟩⟩, by omega, by omega, by omega, HB.out⟩
        · have := HA.out
          rw [← HN.out] at this
          exact this
        · rw [← hL]; exact HE.out
end Go.Proofs.Ytdmbjjladkdphaa
