/-
  timer: the object; New, Len, At, Drop, Set.
-/
import Derived.Test.YtnfdobmjfchegaaTimerRow
set_option linter.unusedVariables false
set_option linter.unusedSimpArgs false
namespace Go.Proofs.Ytnfdobmjfchegaa
open Go.RowKit Go.Maps

def okInt (n : Int) : Prop := (Lit.int .i64 n).wf = true
theorem intKey : Mp.KeyEnc Try.prog 3 okInt (Value.int .i64) where
  law := int_keyed Try.underlying3
  key := fun k hk => ⟨_, keyOf_int_mk Try.underlying3 hk⟩
  inj := fun a b h => by simpa using h
theorem mapUnder : Try.prog.underlying 54 = some (.map 3 3) := by kernel_rfl

/-- The timer of the entries s lies at p, its map at M. -/
structure TmAt (w : World) (base p M : Nat) (v : Value) (N : Nat) (s : List En) : Prop where
  hp : ∃ h, HpAt w base p (.map (some M)) v h ∧ Hp.Heap ltE h ∧ (∀ e ∈ s, e ∈ h) ∧ h.length ≤ N ∧ ∀ e ∈ h, okInt e.id
  map : ∃ es c m, w.heap[M]? = some (.map es c) ∧ Mp.Ents okInt (Value.int .i64) es m ∧ m.Perm (s.map mapE)
  row : Row s
  far : M < base ∧ p ≠ M
def TF (p M : Nat) (v : Value) (q : Nat) : Prop := q = p ∨ q = M ∨ v.ownBlock = some q
variable {w w' : World} {base p M N : Nat} {v : Value} {s : List En}
theorem TmAt.lt (h : TmAt w base p M v N s) {q : Nat} (hq : TF p M v q) : q < w.heap.size := by
  obtain ⟨l, hl, _⟩ := h.hp
  obtain ⟨es, c, m, hm, _⟩ := h.map
  rcases hq with rfl | rfl | hq
  · exact lt_of_block hl.head
  · exact lt_of_block hm
  · exact (hl.own.lt _ hq).2
theorem TmAt.frame (h : TmAt w base p M v N s) (hs : ∀ q, TF p M v q → w'.heap[q]? = w.heap[q]?) (hsz : w.heap.size ≤ w'.heap.size) : TmAt w' base p M v N s := by
  obtain ⟨l, hl, hh, hsub, hN, hok⟩ := h.hp
  obtain ⟨es, c, m, hm, he, hp⟩ := h.map
  refine ⟨⟨l, ⟨(hs _ (.inl rfl)).trans hl.head, ?_, hl.far.1, Nat.le_trans hl.far.2 hsz⟩, hh, hsub, hN, hok⟩, ⟨es, c, m, (hs _ (.inr (.inl rfl))).trans hm, he, hp⟩, h.row, h.far⟩
  obtain ⟨h1, h2⟩ := hl.own
  refine ⟨h1, ?_⟩
  rcases h2 with h2 | ⟨g, cap, cur, hv, hg, hh, r⟩
  · exact .inl h2
  · exact .inr ⟨g, cap, cur, hv, hg, (hs g (.inr (.inr (by rw [hv]; rfl)))).trans hh, r⟩
theorem TmAt.later (h : TmAt w base p M v N s) (hb : Below w.heap.size w w') : TmAt w' base p M v N s := h.frame (fun q hq => hb.block q (h.lt hq)) hb.size
theorem TmAt.more (h : TmAt w base p M v N s) {N' : Nat} (hN : N ≤ N') : TmAt w base p M v N' s := by
  obtain ⟨l, hl, hh, hsub, hn, hok⟩ := h.hp
  exact ⟨⟨l, hl, hh, hsub, Nat.le_trans hn hN, hok⟩, h.map, h.row, h.far⟩
theorem TmAt.head (h : TmAt w base p M v N s) : w.heap[p]? = some (.cells #[v, .map (some M)] 59 (0, 0)) := by
  obtain ⟨l, hl, _⟩ := h.hp
  exact hl.head
theorem TmAt.look (h : TmAt w base p M v N s) {id : Int} (hid : okInt id) :
    (Instr.lookup 54 (.map (some M)) (.int .i64 id) true).run Try.prog w = .ok (.tuple #[.int .i64 (match lookE s id with | some e => e.tick | none => 0), .bool (lookE s id).isSome]) w := by
  obtain ⟨es, c, m, m1, m2, m3⟩ := h.map
  have := Mp.lookup_ok (zero := .int .i64 0) intKey mapUnder (fun w => by kernel_rfl) m1 m2 hid
  rw [look_row h.row m3] at this
  rw [this]
  cases lookE s id <;> simp

theorem len_run {es : Array MapEntry} {c : Nat} (h : w.heap[M]? = some (.map es c)) (ty : TypeId) : (Builtin.len_ #[54] ty #[.map (some M)]).run Try.prog w = .ok (.int .i64 es.size) w := by
  have hU : Try.prog.underlying 54 = some (.map 3 3) := mapUnder
  simp [Builtin.len_, underlying, program, hU, Sem.run_bind, Sem.run, getObj, h, Result.andThen, goInt]
theorem new_any (w : World) : Calls Try.prog 8 #[] w fun e w' => e = .returned (.pointer (some ⟨w.heap.size + 1, 0, none⟩)) ∧ TmAt w' (w.heap.size + 2) (w.heap.size + 1) w.heap.size (.slice none 0 0) 0 [] ∧ Below w.heap.size w w' := by
  have hmm := @run_makeMap Try.prog
  go_enter Try.func8, Try.ntmps8
  go_wp2
  go_ret
  refine ⟨rfl, ⟨⟨[], ⟨alloc2_new _ _ _, World.ownsRow_nil _ _ _ _, by omega, by simp⟩, Hp.Heap.nil, by simp, by simp, by simp⟩, ⟨#[], 0, [], alloc_other (World.alloc_heap_new _ _), Mp.Ents.nil, by simp⟩, Row.nil, by omega, by omega⟩, ((Below.refl _ _).alloc (Nat.le_refl _) _).alloc (by simp) _⟩
theorem len_any (h : TmAt w base p M v N s) : Calls Try.prog 10 #[.pointer (some ⟨p, 0, none⟩)] w fun e w' => e = .returned (.int .i64 s.length) ∧ Below w.heap.size w w' := by
  have lp := h.lt (.inl rfl)
  have q0 := cell_of_block h.head 1
  obtain ⟨es, c, m, m1, m2, m3⟩ := h.map
  have hl : es.size = s.length := by rw [m2.len, m3.length_eq]; simp
  have hrun := len_run m1 3
  rw [hl] at hrun
  clear h m2 m3 hl
  go_enter Try.func10, Try.ntmps10
  go_wp2_with fail
  go_ret
  exact ⟨rfl, Below.refl _ _⟩
theorem HpAt.put_map {w : World} {base p M : Nat} {u v : Value} {l : List En} (h : HpAt w base p u v l) (hM : M < base) (hp : p ≠ M) (o : Obj) : HpAt (w.putObj M o) base p u v l := by
  have hF : ∀ q, q ≠ M → (w.putObj M o).heap[q]? = w.heap[q]? := fun q hq => World.putObj_heap_other hq
  refine ⟨(hF _ hp).trans h.head, ?_, h.far.1, by simpa [World.putObj] using h.far.2⟩
  obtain ⟨h1, h2⟩ := h.own
  refine ⟨h1, ?_⟩
  rcases h2 with h2 | ⟨g, cap, cur, hv, hg, hh, r⟩
  · exact .inl h2
  · exact .inr ⟨g, cap, cur, hv, hg, (hF g (by omega)).trans hh, r⟩
theorem put_map_at {w : World} {M : Nat} {o1 o : Obj} (h : w.heap[M]? = some o1) : (w.putObj M o).heap[M]? = some o := by
  have hlM := lt_of_block h
  simp [World.putObj, Array.getElem?_setIfInBounds, hlM]
theorem fr_put (w : World) (p M : Nat) (v : Value) (o : Obj) : Fr w.heap.size (TF p M v) w (w.putObj M o) := (Fr.refl _ _ _).putObj (.inr (.inr (.inl rfl))) _
theorem at_any (h : TmAt w base p M v N s) (id : Int) (hid : okInt id) : Calls Try.prog 18 #[.pointer (some ⟨p, 0, none⟩), .int .i64 id] w fun e w' => e = .returned (.tuple #[.int .i64 (match lookE s id with | some e => e.tick | none => 0), .int .i64 (match lookE s id with | some _ => 0 | none => 3)]) ∧ Below w.heap.size w w' := by
  have lp := h.lt (.inl rfl)
  have q0 := cell_of_block h.head 1
  have hlk := h.look hid
  cases hl : lookE s id with
  | none =>
    rw [hl] at hlk
    simp only [Option.isSome_none] at hlk
    clear h hl
    go_enter Try.func18, Try.ntmps18
    go_wp2
    refine bodyPost_ret (results_tmp2 rfl _ _ _) rfl ?_
    exact ⟨rfl, Below.refl _ _⟩
  | some e =>
    rw [hl] at hlk
    simp only [Option.isSome_some] at hlk
    clear h hl
    go_enter Try.func18, Try.ntmps18
    go_wp2
    refine bodyPost_ret (results_tmp2 rfl _ _ _) rfl ?_
    exact ⟨rfl, Below.refl _ _⟩

def TmPost (base p M : Nat) (v : Value) (N : Nat) (s : List En) (r : Value) (w : World) (e : Ending) (w' : World) : Prop :=
  e = .returned r ∧ ∃ v', TmAt w' base p M v' N s ∧ Fr w.heap.size (TF p M v) w w' ∧ ∀ q, TF p M v' q → TF p M v q ∨ w.heap.size ≤ q
theorem drop_any (h : TmAt w base p M v N s) (id : Int) (hid : okInt id) : Calls Try.prog 12 #[.pointer (some ⟨p, 0, none⟩), .int .i64 id] w (TmPost base p M v N (dropE s id).2 (.int .i64 (dropE s id).1) w) := by
  have lp := h.lt (.inl rfl)
  have q0 := cell_of_block h.head 1
  have hlk := h.look hid
  have H := Lib.hid h
  cases hl : lookE s id with
  | none =>
    rw [hl] at hlk
    simp only [Option.isSome_none] at hlk
    have HD := Lib.hid (show dropE s id = (3, s) by unfold dropE; rw [hl])
    clear h hl
    go_enter Try.func12, Try.ntmps12
    go_wp2
    go_ret
    rw [HD.out]
    exact ⟨rfl, v, H.out, Fr.refl _ _ _, fun q hq => .inl hq⟩
  | some e =>
    rw [hl] at hlk
    simp only [Option.isSome_some] at hlk
    have HD := Lib.hid (show dropE s id = (0, outE s id) by unfold dropE; rw [hl])
    obtain ⟨es, c, m, m1, m2, m3⟩ := h.map
    obtain ⟨es', hdel, he'⟩ := Mp.drop intKey mapUnder 0 M c m2 hid
    have hrun := hdel _ m1
    have HE := Lib.hid he'; have HM := Lib.hid m1; have H3 := Lib.hid m3
    clear h hl hdel m1 m2 he' m3
    go_enter Try.func12, Try.ntmps12
    go_wp2_with fail
    go_ret
    rw [HD.out]
    obtain ⟨l, hl, hh, hsub, hN, hok⟩ := H.out.hp
    refine ⟨rfl, v, ⟨⟨l, hl.put_map H.out.far.1 H.out.far.2 _, hh, fun e he => hsub e (List.mem_filter.1 he).1, hN, hok⟩, ⟨es', c, _, put_map_at HM.out, HE.out, del_row H3.out id⟩, H.out.row.out id, H.out.far⟩, fr_put _ _ _ _ _, fun q hq => .inl hq⟩
theorem set_end {es es' : Array MapEntry} {c c' : Nat} {m : List (Int × Value)} {l : List En} {id tick : Int} {e : Ending} {w2 : World} (h : TmAt w base p M v N s) (hl : HpAt w base p (.map (some M)) v l) (hsub : ∀ e ∈ s, e ∈ l) (hN : l.length ≤ N) (hok : ∀ e ∈ l, okInt e.id) (hid : okInt id) (hm : w.heap[M]? = some (.map es c))
    (he : Mp.Ents okInt (Value.int .i64) es' (Mp.put m id (.int .i64 tick))) (h3 : m.Perm (s.map mapE)) (hq : PushPost base p (.map (some M)) v l ⟨tick, id⟩ (w.putObj M (.map es' c')) e w2) :
    e = .returned (.tuple #[]) ∧ ∃ v', TmAt w2 base p M v' (N + 1) (insE ⟨tick, id⟩ (outE s id)) ∧ Fr w.heap.size (TF p M v) w w2 ∧ ∀ q, TF p M v' q → TF p M v q ∨ w.heap.size ≤ q := by
  obtain ⟨he0, v', l', hH', hlen', hhp, hmem, hfr, hv'⟩ := hq
  have hsz : (w.putObj M (.map es' c')).heap.size = w.heap.size := by simp [World.putObj]
  have hlM := lt_of_block hm
  have far := h.far
  have hvM : v.ownBlock ≠ some M := fun e => by have := (hl.own.lt _ e).1; omega
  have hm2 : w2.heap[M]? = some (.map es' c') := (hfr.block M (by omega) (fun e => e.elim (fun e => far.2 e.symm) hvM)).trans (put_map_at hm)
  refine ⟨he0, v', ⟨⟨l', hH', hhp, fun e he => ?_, by omega, fun e he => ((hmem e).1 he).elim (hok e) (fun e' => by rw [e']; exact hid)⟩, ⟨es', c', _, hm2, he, put_row h.row h3 ⟨tick, id⟩⟩, (h.row.out id).ins (out_no s id), far⟩, ?_, ?_⟩
  · rcases List.mem_cons.1 ((insE_perm _ _).mem_iff.1 he) with rfl | he
    · exact (hmem _).2 (.inr rfl)
    · exact (hmem _).2 (.inl (hsub _ (List.mem_filter.1 he).1))
  · refine (fr_put w p M v _).trans (hfr.mono (by omega) fun q _ e => e.elim .inl fun e => .inr (.inr e))
  · rintro q (rfl | rfl | hq)
    · exact .inl (.inl rfl)
    · exact .inl (.inr (.inl rfl))
    · exact (hv' q hq).elim (fun e => .inl (.inr (.inr e))) (fun e => .inr (by omega))
set_option maxHeartbeats 1000000 in
theorem set_yes (h : TmAt w base p M v N s) (id tick : Int) (hid : okInt id) (hN : N < 1000000) (ht : 0 ≤ tick ∧ tick ≤ 1073741824) (hno : ∀ e, lookE s id = some e → e.tick ≠ tick) (hfull : lookE s id = none → s.length < 4096) :
    Calls Try.prog 9 #[.pointer (some ⟨p, 0, none⟩), .int .i64 id, .int .i64 tick] w (TmPost base p M v (N + 1) (insE ⟨tick, id⟩ (outE s id)) (.int .i64 0) w) := by
  have lp := h.lt (.inl rfl)
  have q0 := cell_of_block h.head 1
  have hlk := h.look hid
  have H := Lib.hid h
  obtain ⟨es, c, m, m1, m2, m3⟩ := h.map
  have hlen := len_run m1 3
  rw [show es.size = s.length by rw [m2.len, m3.length_eq]; simp] at hlen
  obtain ⟨es', c', hup, he'⟩ := Mp.update intKey mapUnder M c m2 hid (.int .i64 tick)
  have hrun := hup _ m1
  have HE := Lib.hid he'; have HM := Lib.hid m1; have H3 := Lib.hid m3
  obtain ⟨a, b, hab, hcase⟩ : ∃ a b, (Instr.lookup 54 (.map (some M)) (.int .i64 id) true).run Try.prog w = .ok (.tuple #[.int .i64 a, .bool b]) w ∧ ((b = true ∧ (a == tick) = false) ∨ (b = false ∧ s.length < 4096)) := by
    refine ⟨_, _, hlk, ?_⟩
    cases hl : lookE s id with
    | none => exact .inr ⟨rfl, hfull hl⟩
    | some e => exact .inl ⟨rfl, by simpa using hno e hl⟩
  clear h hup m1 m2 m3 he' hlk hno hfull
  have ht1 : decide (tick < 0) = false := by simp; omega
  have ht2 : decide ((1073741824 : Int) < tick) = false := by simp; omega
  clear ht
  rcases hcase with ⟨rfl, hat⟩ | ⟨rfl, hful⟩
  · go_enter Try.func9, Try.ntmps9
    go_wp2_with fail
    obtain ⟨l, hl, hh, hsub, hlN, hok⟩ := H.out.hp
    refine (push_any base p (.map (some M)) v l ⟨tick, id⟩ _ (hl.put_map H.out.far.1 H.out.far.2 _) hh (by omega)).mono ?_
    intro e w2 hq
    obtain ⟨rfl, hpost⟩ := set_end H.out hl hsub hlN hok hid HM.out HE.out H3.out hq
    clear hq hrun hab hlen q0
    go_wp2_with fail
    go_ret
    exact ⟨rfl, hpost⟩
  · have hf2 : decide ((4096 : Int) ≤ (s.length : Int)) = false := by simp; omega
    go_enter Try.func9, Try.ntmps9
    go_wp2_with fail
    obtain ⟨l, hl, hh, hsub, hlN, hok⟩ := H.out.hp
    refine (push_any base p (.map (some M)) v l ⟨tick, id⟩ _ (hl.put_map H.out.far.1 H.out.far.2 _) hh (by omega)).mono ?_
    intro e w2 hq
    obtain ⟨rfl, hpost⟩ := set_end H.out hl hsub hlN hok hid HM.out HE.out H3.out hq
    clear hq hrun hab hlen q0
    go_wp2_with fail
    go_ret
    exact ⟨rfl, hpost⟩
theorem TmPost.same {r : Value} {e : Ending} (h : TmAt w base p M v N s) (he : e = .returned r) (hb : Below w.heap.size w w') : TmPost base p M v (N + 1) s r w e w' :=
  ⟨he, v, (h.later hb).more (Nat.le_succ _), Fr.of_below hb _, fun q hq => .inl hq⟩
set_option maxHeartbeats 1000000 in
theorem set_any (h : TmAt w base p M v N s) (id tick : Int) (hid : okInt id) (hN : N < 1000000) :
    Calls Try.prog 9 #[.pointer (some ⟨p, 0, none⟩), .int .i64 id, .int .i64 tick] w (TmPost base p M v (N + 1) (setE s id tick).2 (.int .i64 (setE s id tick).1) w) := by
  by_cases h1 : tick < 0
  · have HS := Lib.hid (show setE s id tick = (1, s) by unfold setE; rw [if_pos (.inl h1)])
    have H := Lib.hid h
    clear h
    rw [HS.out]
    go_enter Try.func9, Try.ntmps9
    go_wp2_with fail
    go_ret
    exact TmPost.same H.out rfl (Below.refl _ _)
  by_cases h2 : 1073741824 < tick
  · have HS := Lib.hid (show setE s id tick = (1, s) by unfold setE; rw [if_pos (.inr h2)])
    have H := Lib.hid h
    have h3 : decide (tick < 0) = false := by simpa using h1
    clear h h1
    rw [HS.out]
    go_enter Try.func9, Try.ntmps9
    go_wp2_with fail
    go_ret
    exact TmPost.same H.out rfl (Below.refl _ _)
  have hne : ¬ (tick < 0 ∨ 1073741824 < tick) := fun e => e.elim h1 h2
  have ht1 : decide (tick < 0) = false := by simpa using h1
  have ht2 : decide ((1073741824 : Int) < tick) = false := by simpa using h2
  cases hl : lookE s id with
  | some e =>
    by_cases he : e.tick = tick
    · have HS := Lib.hid (show setE s id tick = (0, s) by unfold setE; rw [if_neg hne, hl]; exact if_pos he)
      have lp := h.lt (.inl rfl)
      have q0 := cell_of_block h.head 1
      have hlk := h.look hid
      rw [hl] at hlk
      simp only [Option.isSome_some] at hlk
      have het : (e.tick == tick) = true := by simpa using he
      have H := Lib.hid h
      clear h h1 h2 hne hl he
      rw [HS.out]
      go_enter Try.func9, Try.ntmps9
      go_wp2_with fail
      go_ret
      exact TmPost.same H.out rfl (Below.refl _ _)
    · rw [show setE s id tick = (0, insE ⟨tick, id⟩ (outE s id)) by unfold setE; rw [if_neg hne, hl]; exact if_neg he]
      exact set_yes h id tick hid hN (by omega) (fun e' h' => by rw [hl] at h'; cases h'; exact he) (fun h' => by rw [hl] at h'; cases h')
  | none =>
    by_cases hf : 4096 ≤ s.length
    · have HS := Lib.hid (show setE s id tick = (2, s) by unfold setE; rw [if_neg hne, hl]; exact if_pos hf)
      have lp := h.lt (.inl rfl)
      have q0 := cell_of_block h.head 1
      have hlk := h.look hid
      rw [hl] at hlk
      simp only [Option.isSome_none] at hlk
      have hf2 : decide ((4096 : Int) ≤ (s.length : Int)) = true := by simp; omega
      obtain ⟨es, c, m, m1, m2, m3⟩ := h.map
      have hlen := len_run m1 3
      rw [show es.size = s.length by rw [m2.len, m3.length_eq]; simp] at hlen
      have H := Lib.hid h
      clear h h1 h2 hne hl hf m1 m2 m3
      rw [HS.out]
      go_enter Try.func9, Try.ntmps9
      go_wp2_with fail
      go_ret
      exact TmPost.same H.out rfl (Below.refl _ _)
    · rw [show setE s id tick = (0, insE ⟨tick, id⟩ (outE s id)) by unfold setE; rw [if_neg hne, hl]; exact if_neg hf]
      exact set_yes h id tick hid hN (by omega) (fun e' h' => by rw [hl] at h'; cases h') (fun _ => by omega)
end Go.Proofs.Ytnfdobmjfchegaa
