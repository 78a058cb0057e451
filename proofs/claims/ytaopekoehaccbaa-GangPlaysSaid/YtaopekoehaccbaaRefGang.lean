/-
  The document's book: Find, Reserve, Start, Turn, Resize.
-/
import Derived.Test.YtaopekoehaccbaaGangRow
set_option linter.unusedVariables false
set_option linter.unusedSimpArgs false
namespace Go.Proofs.Ytaopekoehaccbaa
open Go.RowKit Go.Maps

theorem findR_at {l : List Rc} {id : Int} {k : Nat} (hb : ∀ (j : Nat) (h : j < k) (hl : j < l.length), l[j].job.id ≠ id) (hk : k < l.length) (he : l[k].job.id = id) : findR l id = some k := by
  unfold findR
  rw [List.findIdx?_eq_some_iff_getElem]
  exact ⟨hk, by simpa using he, fun j hj => by simpa using hb j hj (by omega)⟩
theorem findR_no {l : List Rc} {id : Int} (hb : ∀ (j : Nat) (hl : j < l.length), l[j].job.id ≠ id) : findR l id = none :=
  findR_none.2 fun x hx => by
    obtain ⟨j, hj, rfl⟩ := List.getElem_of_mem hx
    exact hb j hj
def idV (l : List Rc) (id : Int) : Int := match findR l id with | some k => k | none => -1

/-- The document's book of the records l lies at pm. -/
structure RbAt (w : World) (pm : Nat) (v : Value) (l : List Rc) : Prop where
  head : w.heap[pm]? = some (.cells #[v] 57 (0, 0))
  own : ∃ B, pm < B ∧ w.ownsRow B 38 16 v l.length (l.flatMap Rc.cells)
variable {w w' : World} {pm : Nat} {v : Value} {l : List Rc}
theorem RbAt.later (h : RbAt w pm v l) (hb : Below w.heap.size w w') : RbAt w' pm v l := by
  obtain ⟨B, h1, h2⟩ := h.own
  exact ⟨(hb.block _ (lt_of_block h.head)).trans h.head, B, h1, ownsRow_below h2 hb⟩
theorem RbAt.row (h : RbAt w pm v l) {k : Nat} (hk : k < l.length) :
    ∃ R cap cs, v = .slice (some ⟨R, 0, none⟩) l.length cap ∧ pm < R ∧ w.heap[R]? = some (.cells cs 38 (0, 0)) ∧ ∀ (i : Nat) (hi : i < l.length) (j : Nat), j < 16 → cs[i * 16 + j]? = (Rc.cells l[i])[j]? := by
  obtain ⟨B, hB, h1, ⟨_, h0⟩ | ⟨g, cap, cur, hv, hg, hh, hn, hm, hsz, ht⟩⟩ := h.own
  · omega
  · refine ⟨g, cap, cur, hv, by omega, hh, fun i hi j hj => ?_⟩
    rw [← gflat_get l i j hi hj, ← ht, List.getElem?_take, if_pos (by omega), Array.getElem?_toList]
theorem RbAt.recAt {R cap : Nat} (h : RbAt w pm (.slice (some ⟨R, 0, none⟩) l.length cap) l) {k : Nat} (hk : k < l.length) : RecAt w R (k * 16) l[k] := by
  obtain ⟨R', cap', cs, hv, _, hb, hc⟩ := h.row hk
  simp only [Value.slice.injEq, Option.some.injEq, Addr.mk.injEq, and_true, true_and] at hv
  obtain ⟨rfl, rfl⟩ := hv
  exact fun j hj => ⟨(cell_of_block hb _).trans (hc k hk j hj), frozen_of_block hb _⟩
theorem RbAt.set {R cap : Nat} (h : RbAt w pm (.slice (some ⟨R, 0, none⟩) l.length cap) l) {k : Nat} (hk : k < l.length) {y : Rc} (hs : RecSet w w' R (k * 16) (fun _ => False) l[k] y) :
    RbAt w' pm (.slice (some ⟨R, 0, none⟩) l.length cap) (l.set k y) := by
  obtain ⟨R', cap', cs, hv, hbase, hb, hc⟩ := h.row hk
  simp only [Value.slice.injEq, Option.some.injEq, Addr.mk.injEq, and_true, true_and] at hv
  obtain ⟨rfl, rfl⟩ := hv
  obtain ⟨cs', h2, hsz, ho, hn⟩ := hs.row cs _ hb (hc k hk)
  obtain ⟨B, hB, h1, ⟨e1, _⟩ | ⟨g, cap2, cur, hv2, hg, hh, hn2, hm2, hsz2, ht⟩⟩ := h.own
  · cases e1
  · simp only [Value.slice.injEq, Option.some.injEq, Addr.mk.injEq, and_true, true_and] at hv2
    obtain ⟨rfl, rfl⟩ := hv2
    rw [hb] at hh
    cases hh
    have hpR : pm ≠ R := by omega
    refine ⟨?_, B, hB, ?_⟩
    · rw [hs.fr.block _ (lt_of_block h.head) (fun e => e.elim hpR False.elim)]; exact h.head
    · rw [List.length_set]
      refine ⟨by rw [gflat_len]; simp, .inr ⟨R, cap, cs', rfl, hg, h2, hn2, hm2, by rw [hsz]; exact hsz2, ?_⟩⟩
      refine List.ext_getElem? fun i => ?_
      rw [List.getElem?_take]
      by_cases hi : i < l.length * 16
      · rw [if_pos hi, Array.getElem?_toList]
        have hd : i = i / 16 * 16 + i % 16 := by omega
        have hq : i / 16 < l.length := by omega
        have hr : i % 16 < 16 := by omega
        have hget := gflat_get (l.set k y) (i / 16) (i % 16) (by simpa using hq) hr
        rw [← hd] at hget
        rw [hget]
        by_cases e : k = i / 16
        · subst e
          rw [List.getElem_set_self, ← hn (i % 16) hr, ← hd]
        · rw [List.getElem_set_ne e, ho i (by omega), ← hc (i / 16) hq (i % 16) hr, ← hd]
      · rw [if_neg hi, List.getElem?_eq_none (by rw [gflat_len]; simp; omega)]

set_option maxHeartbeats 1000000 in
theorem refFind_any (h : RbAt w pm v l) (id : Int) (hl : l.length ≤ 1000000) :
    Calls Try.prog 47 #[.pointer (some ⟨pm, 0, none⟩), .int .i64 id] w fun e w' => e = .returned (.int .i64 (idV l id)) ∧ w' = w := by
  have lp := lt_of_block h.head
  have q0 := cell_of_block h.head 0
  have H := Lib.hid h
  obtain ⟨B, _, ho⟩ := h.own
  obtain ⟨a, cap, rfl⟩ := own_form ho
  obtain ⟨n, hn⟩ : ∃ n, l.length = n := ⟨_, rfl⟩
  rw [hn] at q0 hl
  have HN := Lib.hid hn
  clear h hn ho
  go_enter Try.func47, Try.ntmps47
  go_wp2_with fail
  go_loopw [5] (fun i wr => w = wr ∧ ∃ k : Nat, k ≤ n ∧ i = .int .i64 k ∧ Hid (∀ (j : Nat) (h : j < k) (hl : j < l.length), l[j].job.id ≠ id)) (fun i _ => n - (intOf i).toNat)
  case atStart => exact ⟨rfl, 0, Nat.zero_le _, rfl, Lib.hid fun j hj => by omega⟩
  case round =>
    obtain ⟨rfl, k, hk, rfl, hI⟩ := hrel
    by_cases hlt : k < n
    · have hkl : k < l.length := by rw [HN.out]; exact hlt
      obtain ⟨R, cap', cs, hv, hpm, hb, hc⟩ := H.out.row hkl
      simp only [Value.slice.injEq] at hv
      obtain ⟨rfl, -, rfl⟩ := hv
      have c0 : w.cell? ⟨R, k * 16, none⟩ = some (.int .i64 l[k].job.id) := by
        have := hc k hkl 0 (by omega)
        rw [cell_of_block hb, ← Nat.add_zero (k * 16), this]; rfl
      have lR := lt_of_block hb
      obtain ⟨x, hx⟩ : ∃ x, l[k] = x := ⟨_, rfl⟩
      rw [hx] at c0
      have HX := Lib.hid hx
      clear hc hb hx
      by_cases he : x.job.id = id
      · have hbb : (x.job.id == id) = true := by simpa using he
        have HD := Lib.hid (show idV l id = k by unfold idV; rw [findR_at hI.out hkl (by rw [HX.out]; exact he)])
        clear he hkl HX
        go_wp2_with fail
        go_ret
        exact ⟨congrArg (fun z => Ending.returned (.int .i64 z)) HD.out.symm, rfl⟩
      · have hbb : (x.job.id == id) = false := by simpa using he
        have HNX : Hid (∀ (j : Nat) (h : j < k + 1) (hl : j < l.length), l[j].job.id ≠ id) := Lib.hid fun j hj hjl => by
          by_cases e : j = k
          · subst e; rw [HX.out]; exact he
          · exact hI.out j (by omega) hjl
        clear he hkl HX
        go_wp2_with fail
        exact ⟨⟨trivial, k + 1, by omega, by go_num, HNX⟩, by simp [intOf]; omega⟩
    · obtain rfl : k = n := by omega
      have HD := Lib.hid (show idV l id = -1 by
        unfold idV
        rw [findR_no (fun j hjl => hI.out j (by have := HN.out; omega) hjl)])
      go_wp2_with fail
      go_ret
      exact ⟨congrArg (fun z => Ending.returned (.int .i64 z)) HD.out.symm, rfl⟩

/-- what a call of the document's book does: its row's block -/
def RbPost (pm : Nat) (v : Value) (l' : List Rc) (r : Value) (w : World) (e : Ending) (w' : World) : Prop :=
  e = .returned r ∧ RbAt w' pm v l' ∧ Fr w.heap.size (fun q => v.ownBlock = some q) w w'
theorem RbPost.same (h : RbAt w pm v l) (r : Value) : RbPost pm v l r w (.returned r) w := ⟨rfl, h, Fr.refl _ _ _⟩
theorem RbPost.set {R cap k : Nat} {y : Rc} (h : RbAt w pm (.slice (some ⟨R, 0, none⟩) l.length cap) l) (hk : k < l.length) (hs : RecSet w w' R (k * 16) (fun _ => False) l[k] y) (r : Value) : RbPost pm (.slice (some ⟨R, 0, none⟩) l.length cap) (l.set k y) r w (.returned r) w' :=
  ⟨rfl, h.set hk hs, hs.fr.mono (Nat.le_refl _) fun q _ e => e.elim (fun e => by rw [e]; rfl) False.elim⟩
theorem modR_at' {l : List Rc} {id : Int} {k : Nat} (f : Rc → Int × Rc) (h : findR l id = some k) (hk : k < l.length) : modR l id f = ((f l[k]).1, l.set k (f l[k]).2) := by
  unfold modR; rw [h]; simp only [List.getElem?_eq_getElem hk]
theorem modR_no {l : List Rc} {id : Int} (f : Rc → Int × Rc) (h : findR l id = none) : modR l id f = (3, l) := by unfold modR; rw [h]
theorem modR_keep {l : List Rc} {id : Int} {k : Nat} (f : Rc → Int × Rc) (h : findR l id = some k) (hk : k < l.length) {e : Int} (hf : f l[k] = (e, l[k])) : modR l id f = (e, l) := by
  rw [modR_at' f h hk, hf]; simp

/-- the document's Reserve of a record -/
def rReserve (m li wo : Int) (x : Rc) : Int × Rc :=
  if x.state ≠ 1 then (8, x) else if m < x.job.shape.mn ∨ x.job.shape.mx < m then (1, x) else (0, { x with state := 2, members := m, limit := li, worker := wo })
def rStart (now : Int) (x : Rc) : Int × Rc :=
  if x.state ≠ 2 then (8, x) else if now < 0 ∨ 1073741824 < now then (1, x) else (0, { x with state := 3, began := now, fin := wrap64 (now + x.job.runtime), limit := 0, worker := 0 })
def rResize (b : Int) (x : Rc) : Int × Rc :=
  if x.state ≠ 3 then (8, x) else if (b ≠ 1 ∧ b ≠ -1) ∨ wrap64 (x.members + b) < x.job.shape.mn ∨ x.job.shape.mx < wrap64 (x.members + b) then (1, x) else (0, { x with members := wrap64 (x.members + b) })
/-- what the walks of a record's changes begin with -/
theorem RbAt.open (h : RbAt w pm v l) {id : Int} {k : Nat} (hf : findR l id = some k) : ∃ R cap x, v = .slice (some ⟨R, 0, none⟩) l.length cap ∧ (∃ hk : k < l.length, l[k] = x) ∧ R < w.heap.size ∧ pm ≠ R ∧ RecAt w R (k * 16) x := by
  obtain ⟨hk, _⟩ := findR_some hf
  obtain ⟨R, cap, cs, rfl, hpm, hb, hc⟩ := h.row hk
  exact ⟨R, cap, l[k], rfl, ⟨hk, rfl⟩, lt_of_block hb, by omega, h.recAt hk⟩
theorem findR_lt {l : List Rc} {id : Int} {k : Nat} (h : findR l id = some k) : k < l.length := (findR_some h).1

set_option maxHeartbeats 2000000 in
theorem refReserve_any (h : RbAt w pm v l) (id m li wo : Int) (hl : l.length ≤ 1000000) :
    Calls Try.prog 43 #[.pointer (some ⟨pm, 0, none⟩), .int .i64 id, .int .i64 m, .int .i64 li, .int .i64 wo] w (RbPost pm v (modR l id (rReserve m li wo)).2 (.int .i64 (modR l id (rReserve m li wo)).1) w) := by
  have H := Lib.hid h
  have HF := Lib.hid (refFind_any h id hl)
  cases hf : findR l id with
  | none =>
    have HM := Lib.hid (modR_no (rReserve m li wo) hf)
    have HV := Lib.hid (show idV l id = -1 by unfold idV; rw [hf])
    clear h hf
    rw [HM.out]
    go_enter Try.func43, Try.ntmps43
    go_wp2_with fail
    refine HF.out.mono ?_
    rintro e w1 ⟨rfl, rfl⟩
    rw [HV.out]
    go_wp2_with fail
    go_ret
    exact RbPost.same H.out _
  | some k =>
    have q0 := cell_of_block h.head 0
    have lp := lt_of_block h.head
    obtain ⟨R, cap, x, rfl, ⟨hk, hx⟩, lR, hpR, hrec⟩ := h.open hf
    have HV := Lib.hid (show idV l id = k by unfold idV; rw [hf])
    have c6 : w.cell? ⟨R, k * 16 + 6, none⟩ = some (.int .i64 x.job.shape.mn) := (hrec 6 (by omega)).1
    have c7 : w.cell? ⟨R, k * 16 + 7, none⟩ = some (.int .i64 x.job.shape.mx) := (hrec 7 (by omega)).1
    have c8 : w.cell? ⟨R, k * 16 + 8, none⟩ = some (.int .i64 x.state) := (hrec 8 (by omega)).1
    have c11 : w.cell? ⟨R, k * 16 + 11, none⟩ = some (.int .i64 x.members) := (hrec 11 (by omega)).1
    have c14 : w.cell? ⟨R, k * 16 + 14, none⟩ = some (.int .i64 x.limit) := (hrec 14 (by omega)).1
    have c15 : w.cell? ⟨R, k * 16 + 15, none⟩ = some (.int .i64 x.worker) := (hrec 15 (by omega)).1
    have z8 := (hrec 8 (by omega)).2; have z11 := (hrec 11 (by omega)).2; have z14 := (hrec 14 (by omega)).2; have z15 := (hrec 15 (by omega)).2
    have HKEEP : Hid (∀ e, rReserve m li wo x = (e, x) → modR l id (rReserve m li wo) = (e, l)) := Lib.hid fun e he => modR_keep _ hf hk (by rw [hx]; exact he)
    have HSET : Hid (∀ y, rReserve m li wo x = (0, y) → modR l id (rReserve m li wo) = (0, l.set k y)) := Lib.hid fun y hy => by rw [modR_at' _ hf hk, hx, hy]
    have HP : Hid (∀ w' y, RecSet w w' R (k * 16) (fun _ => False) x y → ∀ r, RbPost pm (.slice (some ⟨R, 0, none⟩) l.length cap) (l.set k y) r w (.returned r) w') := Lib.hid fun w' y hs r => RbPost.set h hk (by rw [hx]; exact hs) r
    obtain ⟨n, hn⟩ : ∃ n, l.length = n := ⟨_, rfl⟩
    rw [hn] at q0 hk hl
    have HN := Lib.hid hn
    clear h hf hx hrec hn
    by_cases hs : x.state = 1
    · have hsb : (x.state != 1) = false := by simpa using hs
      by_cases h1 : m < x.job.shape.mn
      · have h1b : decide (m < x.job.shape.mn) = true := by simpa using h1
        rw [HKEEP.out 1 (by unfold rReserve; rw [if_neg (by simpa using hs), if_pos (.inl h1)])]
        clear hs h1
        go_enter Try.func43, Try.ntmps43
        go_wp2_with fail
        refine HF.out.mono ?_
        rintro e w1 ⟨rfl, rfl⟩
        rw [HV.out]
        go_wp2_with fail
        go_ret
        exact RbPost.same H.out _
      · have h1b : decide (m < x.job.shape.mn) = false := by simpa using h1
        by_cases h2 : x.job.shape.mx < m
        · have h2b : decide (x.job.shape.mx < m) = true := by simpa using h2
          rw [HKEEP.out 1 (by unfold rReserve; rw [if_neg (by simpa using hs), if_pos (.inr h2)])]
          clear hs h1 h2
          go_enter Try.func43, Try.ntmps43
          go_wp2_with fail
          refine HF.out.mono ?_
          rintro e w1 ⟨rfl, rfl⟩
          rw [HV.out]
          go_wp2_with fail
          go_ret
          exact RbPost.same H.out _
        · have h2b : decide (x.job.shape.mx < m) = false := by simpa using h2
          rw [HSET.out _ (by unfold rReserve; rw [if_neg (by simpa using hs), if_neg (fun e => e.elim h1 h2)])]
          clear hs h1 h2
          go_enter Try.func43, Try.ntmps43
          go_wp2_with fail
          refine HF.out.mono ?_
          rintro e w1 ⟨rfl, rfl⟩
          rw [HV.out]
          go_wp2_with fail
          go_ret
          refine HP.out _ _ ?_ _
          exact ((((RecSet.refl _ R (k * 16) (fun _ => False) x).store (y' := { x with state := 2 }) 8 (by omega) _ rfl).store (y' := { x with state := 2, members := m }) 11 (by omega) _ rfl).store (y' := { x with state := 2, members := m, limit := li }) 14 (by omega) _ rfl).store 15 (by omega) _ rfl
    · have hsb : (x.state != 1) = true := by simpa using hs
      rw [HKEEP.out 8 (by unfold rReserve; rw [if_pos hs])]
      clear hs
      go_enter Try.func43, Try.ntmps43
      go_wp2_with fail
      refine HF.out.mono ?_
      rintro e w1 ⟨rfl, rfl⟩
      rw [HV.out]
      go_wp2_with fail
      go_ret
      exact RbPost.same H.out _
end Go.Proofs.Ytaopekoehaccbaa
