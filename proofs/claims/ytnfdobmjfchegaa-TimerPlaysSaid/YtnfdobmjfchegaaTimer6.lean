/-
  timer: Next, Due.
-/
import Derived.Test.YtnfdobmjfchegaaTimer5
set_option linter.unusedVariables false
set_option linter.unusedSimpArgs false
namespace Go.Proofs.Ytnfdobmjfchegaa
open Go.RowKit Go.Maps

theorem infoInt : (Try.prog.info? 3).map (fun i => (i.zero, i.size, i.bytes)) = some (some (.int .i64 0), 1, 8) := by kernel_rfl
variable {w w' : World} {base p M N : Nat} {v : Value} {s : List En}
theorem TmAt.exact (h : TmAt w base p M v N s) : ∃ L, TmAt w base p M v L s ∧ L ≤ N ∧ rowLen (w.cell? ⟨p, 0, none⟩) = L := by
  obtain ⟨l, hl, hh, hsub, hN, hok⟩ := h.hp
  obtain ⟨a, cap, rfl⟩ := own_form hl.own
  exact ⟨l.length, ⟨⟨l, hl, hh, hsub, Nat.le_refl _, hok⟩, h.map, h.row, h.far⟩, hN, by rw [cell_of_block hl.head 0]; rfl⟩

theorem alloc2_at (w : World) (o1 o2 : Obj) : ((w.alloc o1).alloc o2).heap[w.heap.size + 1]? = some o2 := by
  have := World.alloc_heap_new (w.alloc o1) o2
  rwa [World.size_alloc] at this
theorem next_any (h : TmAt w base p M v N s) (hN : N < 1000000) : Calls Try.prog 13 #[.pointer (some ⟨p, 0, none⟩)] w (TmPost base p M v N s (.tuple #[.int .i64 (headE s).tick, .bool (!s.isEmpty)]) w) := by
  have H := Lib.hid h
  clear h
  go_enter Try.func13, Try.ntmps13
  go_wp2_with fail
  refine (first_any H.out hN).mono ?_
  rintro e w1 ⟨rfl, v', h, _, _, _, _, _, _, hT, hfr, hnew⟩
  have Q : ∀ r, TmPost base p M v N s r w (.returned r) (w1.alloc (.cells #[.int .i64 (headE s).tick, .int .i64 (headE s).id] 62)) := fun r =>
    ⟨rfl, v', hT.later ((Below.refl _ _).alloc (Nat.le_refl _) _), hfr.alloc hfr.size _, hnew⟩
  have HQ := Lib.hid Q
  clear hT hfr hnew Q
  go_wp2_with fail
  refine bodyPost_ret (results_tmp2 rfl _ _ _) rfl ?_
  exact HQ.out _

theorem HpAt.frame {u : Value} {l : List En} (h : HpAt w base p u v l) (hs : ∀ q, q = p ∨ v.ownBlock = some q → w'.heap[q]? = w.heap[q]?) (hsz : w.heap.size ≤ w'.heap.size) : HpAt w' base p u v l := by
  refine ⟨(hs _ (.inl rfl)).trans h.head, ?_, h.far.1, Nat.le_trans h.far.2 hsz⟩
  obtain ⟨h1, h2⟩ := h.own
  refine ⟨h1, ?_⟩
  rcases h2 with h2 | ⟨g, cap, cur, hv, hg, hh, r⟩
  · exact .inl h2
  · exact .inr ⟨g, cap, cur, hv, hg, (hs g (.inr (by rw [hv]; rfl))).trans hh, r⟩
theorem due_cons {x : En} {r : List En} {now : Int} (h : x.tick ≤ now) : dueE (x :: r) now = x :: dueE r now ∧ restE (x :: r) now = restE r now := by
  unfold dueE restE
  rw [List.takeWhile_cons, List.dropWhile_cons, if_pos (by simpa using h), if_pos (by simpa using h)]
  exact ⟨rfl, rfl⟩
theorem due_stop {x : En} {r : List En} {now : Int} (h : now < x.tick) : dueE (x :: r) now = [] ∧ restE (x :: r) now = x :: r := by
  unfold dueE restE
  rw [List.takeWhile_cons, List.dropWhile_cons, if_neg (by simp; omega), if_neg (by simp; omega)]
  exact ⟨rfl, rfl⟩
theorem out_head {x : En} {r : List En} (h : Row (x :: r)) : outE (x :: r) x.id = r ∧ x ∉ r := by
  have hn := h.ids
  simp only [List.map_cons, List.nodup_cons] at hn
  refine ⟨?_, fun hx => hn.1 (List.mem_map_of_mem hx)⟩
  unfold outE
  rw [List.filter_cons_of_neg (by simp), List.filter_eq_self]
  intro e he
  simp only [decide_eq_true_eq]
  exact fun e' => hn.1 (e' ▸ List.mem_map_of_mem he)
def idsV (l : List En) : List Value := l.map fun e => .int .i64 e.id
def DuePost (base p M : Nat) (v : Value) (N : Nat) (s : List En) (now : Int) (w : World) (e : Ending) (w' : World) : Prop :=
  ∃ vo, e = .returned vo ∧ w'.ownsRow w.heap.size 3 1 vo (dueE s now).length (idsV (dueE s now)) ∧ ∃ v', TmAt w' base p M v' N (restE s now) ∧ Fr w.heap.size (TF p M v) w w' ∧ (∀ q, TF p M v' q → TF p M v q ∨ w.heap.size ≤ q) ∧ ∀ q, TF p M v' q → vo.ownBlock ≠ some q

set_option maxHeartbeats 4000000 in
theorem due_any (h : TmAt w base p M v N s) (now : Int) (hN : N < 1000000) : Calls Try.prog 11 #[.pointer (some ⟨p, 0, none⟩), .int .i64 now] w (DuePost base p M v N s now w) := by
  have lp := h.lt (.inl rfl)
  have H := Lib.hid h
  clear h
  obtain ⟨i0, hi0, hz0, hz1, hz2⟩ := info_parts infoInt
  go_enter Try.func11, Try.ntmps11
  go_wp2_with fail
  go_loopw [5] (fun vw wr => ∃ vo done rest v' L, vw = vo ∧ TmAt wr base p M v' L rest ∧ done.length + L ≤ N ∧ Hid (s = done ++ rest ∧ (∀ r, dueE (done ++ r) now = done ++ dueE r now ∧ restE (done ++ r) now = restE r now) ∧ wr.ownsRow w.heap.size 3 1 vo done.length (idsV done) ∧ Fr w.heap.size (TF p M v) w wr ∧ (∀ q, TF p M v' q → TF p M v q ∨ w.heap.size ≤ q) ∧ ∀ q, TF p M v' q → vo.ownBlock ≠ some q)) (fun _ wr => rowLen (wr.cell? ⟨p, 0, none⟩))
  case atStart =>
    obtain ⟨L, hT, hLN, _⟩ := H.out.exact
    exact ⟨_, [], s, v, L, rfl, hT, by simpa using hLN, Lib.hid ⟨rfl, fun r => ⟨rfl, rfl⟩, World.ownsRow_nil _ _ _ _, Fr.refl _ _ _, fun q hq => .inl hq, fun q _ e => by simp [Value.ownBlock] at e⟩⟩
  case round =>
    obtain ⟨vo, done, rest, v', L0, hvo, hT, hL0, hI⟩ := hrel
    subst hvo
    obtain ⟨L, hT', hLN, hL⟩ := hT.exact
    have HT := Lib.hid hT'; have HL := Lib.hid hL
    clear hT hT' hL
    go_wp2_with fail
    refine (first_any HT.out (by omega)).mono ?_
    rintro e w1 ⟨rfl, v1, l, hl, hh, hsub, hlN, hok, hfst, hT1, hfr1, hnew1⟩
    have HT1 := Lib.hid hT1; have HF1 := Lib.hid hfr1; have HN1 := Lib.hid hnew1; have HHL := Lib.hid hl; have HH := Lib.hid hh; have HSUB := Lib.hid hsub; have HOK := Lib.hid hok; have HFST := Lib.hid hfst
    have hrow1 := ownsRow_fr hI.out.2.2.1 hfr1 (fun g hg => ⟨(hI.out.2.2.1.lt g hg).2, fun ht => hI.out.2.2.2.2.2 g ht hg⟩)
    have hsep1 : ∀ q, TF p M v1 q → u5.ownBlock ≠ some q := fun q hq e => (hnew1 q hq).elim (fun h => hI.out.2.2.2.2.2 q h e) (fun h => by have := (hI.out.2.2.1.lt q e).2; omega)
    have hgr1 : ∀ q, TF p M v1 q → TF p M v q ∨ w.heap.size ≤ q := fun q hq => (hnew1 q hq).elim (hI.out.2.2.2.2.1 q) (fun h => .inr (Nat.le_trans hI.out.2.2.2.1.size h))
    have hff1 := hI.out.2.2.2.1.trans (hfr1.mono hI.out.2.2.2.1.size fun q hq e => (hI.out.2.2.2.2.1 q e).elim id (fun h => by omega))
    have HR1 := Lib.hid hrow1; have HS1 := Lib.hid hsep1; have HG1 := Lib.hid hgr1; have HFF := Lib.hid hff1
    have lp1 := lt_of_block hl.head
    clear hl hh hsub hok hfst hT1 hfr1 hnew1 hrow1 hsep1 hgr1 hff1
    cases rest with
    | nil =>
      rw [show headE [] = ⟨0, 0⟩ from rfl, show (!([] : List En).isEmpty) = false from rfl]
      simp only
      have hd := (hI.out.2.1 [])
      have Q : DuePost base p M v N s now w (.returned u5) (w1.alloc (.cells #[.int .i64 0, .int .i64 0] 62)) := by
        have hb := (Below.refl w1.heap.size w1).alloc (Nat.le_refl _) (.cells #[.int .i64 0, .int .i64 0] 62)
        refine ⟨_, rfl, ?_, v1, ?_, HFF.out.alloc HFF.out.size _, HG1.out, HS1.out⟩
        · rw [hI.out.1, hd.1]; simpa [dueE] using ownsRow_below HR1.out hb
        · rw [hI.out.1, hd.2]; exact (HT1.out.later hb).more (by omega)
      have HQ := Lib.hid Q
      clear Q hd
      go_wp2_with fail
      go_ret
      exact HQ.out
    | cons x r =>
      have hd := (hI.out.2.1 (x :: r))
      rw [show headE (x :: r) = x from rfl, show (!(x :: r).isEmpty) = true from rfl]
      by_cases hx : now < x.tick
      · have Q : DuePost base p M v N s now w (.returned u5) (w1.alloc (.cells #[.int .i64 x.tick, .int .i64 x.id] 62)) := by
          have hb := (Below.refl w1.heap.size w1).alloc (Nat.le_refl _) (.cells #[.int .i64 x.tick, .int .i64 x.id] 62)
          have hst := due_stop (r := r) hx
          refine ⟨_, rfl, ?_, v1, ?_, HFF.out.alloc HFF.out.size _, HG1.out, HS1.out⟩
          · rw [hI.out.1, hd.1, hst.1]; simpa using ownsRow_below HR1.out hb
          · rw [hI.out.1, hd.2, hst.2]; exact (HT1.out.later hb).more (by omega)
        have HQ := Lib.hid Q
        clear Q hd
        go_wp2_with fail
        go_ret
        exact HQ.out
      · have hdl : done.length ≤ 1000000 := by omega
        obtain ⟨a5, cap5, hv5⟩ := own_form HR1.out
        have hR1 := HR1.out
        rw [hv5] at hR1 ⊢
        obtain ⟨dn, hdn⟩ : ∃ dn, done.length = dn := ⟨_, rfl⟩
        rw [hdn] at hR1 hdl ⊢
        have hown2 := ownsRow_below hR1 ((Below.refl w1.heap.size w1).alloc (Nat.le_refl _) (.cells #[.int .i64 x.tick, .int .i64 x.id] 62))
        have HO2 := Lib.hid hown2; have HV5 := Lib.hid (show u5.ownBlock = (Value.slice a5 dn cap5).ownBlock by rw [hv5, hdn]); have HDN := Lib.hid hdn
        have hxn : decide (now < x.tick) = false := by simp; omega
        clear hR1 hown2 hv5 hdn hd
        go_wp2_with (at_builtin; refine wpList_append_lies _ rfl _ _ _ rfl w.heap.size 3 i0 _ 1 8 Try.underlying29 hi0 hz0 hz1 hz2 rfl (by omega) (.slice a5 dn cap5) dn _ rfl (HO2.out.alloc _) ⟨w1.heap.size + 1, 0, none⟩ 1 1 [.int .i64 x.id] rfl rfl (World.news_of_block (cs := #[.int .i64 x.id]) (t := 3) (fr := (0, 0)) (alloc2_at _ _ _)) (by simp [Value.oneCell']) (by omega) (by unfold maxLen; omega) (by omega) (by have := HFF.out.size; simp; omega) (w1.heap.size + 2) (by simp) ?_)
        intro gg cap' w3 hown3 hgrow hat hlt3
        have hF3 : Fr w1.heap.size (fun q => u5.ownBlock = some q) w1 w3 := by
          refine Fr.grown (((Fr.refl _ _ _).alloc (Nat.le_refl _) _).alloc (by simp) _) hgrow (by simp; omega) (fun q e => .inr ?_)
          exact HV5.out.trans e
        have hold : ∀ q, TF p M v1 q → w3.heap[q]? = w1.heap[q]? := fun q hq => hF3.block q (HT1.out.lt hq) (HS1.out q hq)
        have hgg : ∀ q, q < w1.heap.size → u5.ownBlock ≠ some q → gg ≠ q := fun q hq hu e => by
          subst e
          rcases hat with h | h
          · exact hu (HV5.out.trans h)
          · omega
        have hT3 := HT1.out.frame hold hF3.size
        have hH3 := HHL.out.frame (w' := w3) (fun q hq => hold q (hq.elim .inl (fun h => .inr (.inr h)))) hF3.size
        obtain ⟨ln, hln⟩ : ∃ ln, l.length = ln + 1 := ⟨l.length - 1, by have := (List.getElem?_eq_some_iff.1 (HFST.out x r rfl)).1; omega⟩
        obtain ⟨R, capR, _, hv1, hR, _⟩ := hH3.row (k := 0) (by omega)
        rw [hln] at hv1
        have hk : w3.heap[w1.heap.size]? = some (.cells #[.int .i64 x.tick, .int .i64 x.id] 62 (0, 0)) := by
          refine (hgrow.block _ (by simp; omega) (fun e => ?_)).trans (alloc_other (World.alloc_heap_new _ _))
          have := (HR1.out.lt w1.heap.size (HV5.out.trans e.symm)).2
          omega
        obtain ⟨es, c, m, m1, m2, m3⟩ := hT3.map
        obtain ⟨es', hdel, he'⟩ := Mp.drop intKey mapUnder 0 M c m2 (HOK.out x (HSUB.out x (List.mem_cons_self ..)))
        have hrun := hdel w3.drew m1
        have hrow := hT3.row
        obtain ⟨ho1, ho2⟩ := out_head hrow
        have hm4 := del_row m3 x.id
        rw [ho1] at hm4
        have hT4 : TmAt (w3.drew.putObj M (.map es' c)) base p M v1 L r := by
          obtain ⟨l2, hl2, hh2, hsub2, hlN2, hok2⟩ := hT3.hp
          exact ⟨⟨l2, (hl2.later ((Below.refl _ _).drew)).put_map hT3.far.1 hT3.far.2 _, hh2, fun e he => hsub2 e (List.mem_cons_of_mem _ he), hlN2, hok2⟩, ⟨es', c, _, put_map_at (w := w3.drew) m1, he', hm4⟩, hrow.tail, hT3.far⟩
        have hH4 : HpAt (w3.drew.putObj M (.map es' c)) base p (.map (some M)) v1 l := (hH3.later ((Below.refl _ _).drew)).put_map hT3.far.1 hT3.far.2 _
        have hF4 : Fr w1.heap.size (fun q => q = M ∨ u5.ownBlock = some q) w1 (w3.drew.putObj M (.map es' c)) := Fr.putObj (hF3.mono (Nat.le_refl _) fun q _ e => .inr e).drew (.inr (.inl rfl)) _
        have hsz4 : (w3.drew.putObj M (.map es' c)).heap.size = w3.heap.size := by simp [World.putObj]
        have hown4 : (w3.drew.putObj M (.map es' c)).ownsRow w.heap.size 3 1 (.slice (some ⟨gg, 0, none⟩) (dn + 1) cap') (dn + 1) (idsV done ++ [.int .i64 x.id]) :=
          ownsRow_fr hown3 (B := w3.heap.size) (F := fun q => q = M) ((Fr.refl w3.heap.size (fun q => q = M) w3).drew.putObj (.inr rfl) _) (fun g hg => ⟨(hown3.lt g hg).2, fun e => by
            simp [Value.ownBlock] at hg
            exact hgg M (HT1.out.lt (.inr (.inl rfl))) (HS1.out M (.inr (.inl rfl))) (hg.trans e)⟩)
        have c1 := cell_of_block hT3.head 1
        have e1 := cell_of_block hk 1
        have lk := lt_of_block hk; have lp3 := lt_of_block hT3.head
        have HT4 := Lib.hid hT4; have HH4 := Lib.hid hH4; have HF4 := Lib.hid hF4; have HO4 := Lib.hid hown4; have HGG := Lib.hid hgg; have HV1 := Lib.hid hv1; have HLN := Lib.hid hln; have HNO := Lib.hid ho2; have HSZ4 := Lib.hid hsz4; have HF3 := Lib.hid hF3
        clear hown3 hgrow hat hlt3 hF3 hold hgg hT3 hH3 hln hv1 hk m1 m2 m3 hdel he' hrow ho1 ho2 hm4 hT4 hH4 hF4 hsz4 hown4
        go_wp2_with fail
        refine wp_region_still_tail 6 (by kernel_rfl) (by kernel_rfl) ?_
        simp only [List.take_succ_cons, List.take_zero, List.drop_succ_cons, List.drop_zero]
        iterate 6 still_step
        refine wpStill_nil ?_
        change wpList _ _ _ _ _ w3.drew
        go_wp2_with fail
        refine (pop_any base p (.map (some M)) R ln capR l _ (HV1.out ▸ HH4.out) HLN.out HH.out (by have := HLN.out; omega)).mono ?_
        intro e w5 hq
        obtain ⟨rfl, hT5, hfr5⟩ := pop_step HT4.out HV1.out hR HLN.out (HFST.out x r rfl) (fun e he => HSUB.out e (List.mem_cons_of_mem _ he)) (by have := HLN.out; omega) HOK.out HNO.out hq
        have HT5 := Lib.hid hT5; have HF5 := Lib.hid hfr5
        have hvR : v1.ownBlock = some R := by rw [HV1.out]; rfl
        have HVR := Lib.hid hvR
        clear hq hT5 hfr5 hvR
        go_wp2_with fail
        have hTF : ∀ q, TF p M (.slice (some ⟨R, 0, none⟩) ln capR) q → TF p M v1 q := fun q hq => hq.imp id (.imp id fun h => HVR.out.trans h)
        refine ⟨⟨_, done ++ [x], r, _, ln, rfl, HT5.out, by have := HLN.out; simp; omega, Lib.hid ⟨by rw [hI.out.1]; simp, fun r' => ?_, ?_, ?_, fun q hq => HG1.out q (hTF q hq), fun q hq e => ?_⟩⟩, ?_⟩
        · have h1 := hI.out.2.1 (x :: r')
          have h2 := due_cons (r := r') (show x.tick ≤ now by simpa using hxn)
          rw [List.append_assoc]
          exact ⟨by rw [List.cons_append, List.nil_append, h1.1, h2.1]; simp, by rw [List.cons_append, List.nil_append, h1.2, h2.2]⟩
        · have h4 := HO4.out
          have h5 : idsV (done ++ [x]) = idsV done ++ [.int .i64 x.id] := by simp [idsV]
          rw [h5, show (done ++ [x]).length = dn + 1 by simp [HDN.out]]
          refine ownsRow_fr h4 HF5.out (fun g hg => ⟨(h4.lt g hg).2, fun e => ?_⟩)
          simp [Value.ownBlock] at hg
          subst hg
          rcases e with e | e
          · exact HGG.out p (HT1.out.lt (.inl rfl)) (HS1.out p (.inl rfl)) e
          · exact HGG.out R (HT1.out.lt (.inr (.inr HVR.out))) (HS1.out R (.inr (.inr HVR.out))) e
        · refine HFF.out.trans ((HF4.out.mono HFF.out.size fun q hq e => ?_).trans (HF5.out.mono (by have := HSZ4.out; have := HF3.out.size; have := HFF.out.size; omega) fun q hq e => ?_))
          · rcases e with e | e
            · exact .inr (.inl e)
            · exact absurd (hI.out.2.2.1.lt q e).1 (by omega)
          · refine (HG1.out q ?_).elim id (fun h => by omega)
            rcases e with e | e
            · exact .inl e
            · exact .inr (.inr (e ▸ HVR.out))
        · simp [Value.ownBlock] at e
          exact HGG.out q (HT1.out.lt (hTF q hq)) (HS1.out q (hTF q hq)) e
        · rw [cell_of_block HT5.out.head 0, HL.out]
          show ln < L
          have := HLN.out
          omega
end Go.Proofs.Ytnfdobmjfchegaa
