/-
  wire: what is put is told as it was, in plain Lean.
-/
import Derived.Test.YtghfdiaaonjofaaWireParse
import Derived.Test.YtghfdiaaonjofaaRefCfg
set_option linter.unusedVariables false
set_option linter.unusedSimpArgs false
namespace Go.Proofs.Ytghfdiaaonjofaa
open Go.RowKit
/-- the bytes from a place on begin so -/
def At (s : ByteArray) (a : Nat) (l : List Int) : Prop := a + l.length ≤ s.size ∧ ∀ (i : Nat) (h : i < l.length), byteF s (a + i) = l[i]
section
variable {s : ByteArray} {a : Nat} {l m : List Int}
theorem At.left (h : At s a (l ++ m)) : At s a l := by
  obtain ⟨h1, h2⟩ := h
  rw [List.length_append] at h1
  refine ⟨by omega, fun i hi => ?_⟩
  rw [h2 i (by rw [List.length_append]; omega), List.getElem_append_left hi]
theorem At.right (h : At s a (l ++ m)) : At s (a + l.length) m := by
  obtain ⟨h1, h2⟩ := h
  rw [List.length_append] at h1
  refine ⟨by omega, fun i hi => ?_⟩
  have := h2 (l.length + i) (by rw [List.length_append]; omega)
  rw [show a + l.length + i = a + (l.length + i) by omega, this, List.getElem_append_right (by omega)]
  simp
theorem At.cons {x : Int} (h : At s a (x :: m)) : byteF s a = x ∧ At s (a + 1) m := by
  refine ⟨?_, At.right (l := [x]) h⟩
  have := h.2 0 (by simp)
  simpa using this
end
theorem byteF_str (L : List Int) (hL : ∀ x ∈ L, 0 ≤ x ∧ x < 256) (more : ByteArray) : At (strOfNums L ++ more) 0 L := by
  refine ⟨by rw [ByteArray.size_append, strOfNums_size]; omega, fun i hi => ?_⟩
  have hx := hL L[i] (List.getElem_mem hi)
  unfold byteF
  have h1 : (strOfNums L ++ more).data[0 + i]? = some (UInt8.ofNat (L[i]).toNat) := by
    rw [ByteArray.data_append, Nat.zero_add, Array.getElem?_append_left (by
      have := strOfNums_size L
      have h2 : (strOfNums L).size = (strOfNums L).data.size := by cases strOfNums L; rfl
      omega)]
    rw [← Array.getElem?_toList, strOfNums_data, List.getElem?_map, List.getElem?_eq_getElem hi]
    rfl
  rw [h1]
  simp only [Option.getD_some]
  have h3 : (UInt8.ofNat (L[i]).toNat).toNat = (L[i]).toNat % 256 := by first | rfl | exact UInt8.toNat_ofNat'
  rw [h3]
  omega
theorem num2 (s : ByteArray) (a : Nat) : numF s a 2 = byteF s a * 256 + byteF s (a + 1) := by simp [numF, byteF]
theorem num3 (s : ByteArray) (a : Nat) : numF s a 3 = (byteF s a * 256 + byteF s (a + 1)) * 256 + byteF s (a + 2) := by simp [numF, byteF]
theorem num_fb {s : ByteArray} {a b : Nat} {x : Int} (hb : b ≤ 3) (h0 : 0 ≤ x) (h1 : x < 256 ^ b) (h : At s a (fb x b)) : numF s a b = x := by
  have : b = 0 ∨ b = 1 ∨ b = 2 ∨ b = 3 := by omega
  rcases this with rfl | rfl | rfl | rfl
  · simp at h1; simp [numF]; omega
  · obtain ⟨e0, _⟩ := At.cons h
    rw [numF_one, e0]
    simp at h1 ⊢; omega
  · obtain ⟨e0, h⟩ := At.cons h
    obtain ⟨e1, _⟩ := At.cons h
    rw [num2, e0, e1]
    simp at h1 ⊢; omega
  · obtain ⟨e0, h⟩ := At.cons h
    obtain ⟨e1, h⟩ := At.cons h
    obtain ⟨e2, _⟩ := At.cons h
    rw [num3, e0, e1, e2]
    simp at h1 ⊢; omega
theorem fb_range (x : Int) : ∀ b, ∀ y ∈ fb x b, 0 ≤ y ∧ y < 256
  | 0, y, h => by simp [fb] at h
  | b + 1, y, h => by
    simp only [fb, List.mem_cons] at h
    rcases h with rfl | h
    · omega
    · exact fb_range x b y h
theorem putN_range (L : List (Nat × Int)) : ∀ y ∈ putN L, 0 ≤ y ∧ y < 256 := by
  intro y hy
  unfold putN at hy
  rw [List.mem_flatMap] at hy
  obtain ⟨p, _, hp⟩ := hy
  exact fb_range _ _ y hp
theorem fitN_mem {L : List (Nat × Int)} (h : fitN L = true) {p : Nat × Int} (hp : p ∈ L) : 0 ≤ p.2 ∧ p.2 < 256 ^ p.1 := by
  unfold fitN at h
  rw [List.all_eq_true] at h
  simpa using h p hp

def encD (d : Dm) : List Int := fb d.gpus 1 ++ fb d.cpus 2
def encQ (q : Qu) : List Int := fb q.quota.gpus 3 ++ (fb q.quota.cpus 3 ++ fb q.room 1)
def encN (ds : List Dm) : List Int := fb (ds.length : Int) 1 ++ ds.flatMap encD
theorem manyK_put {α : Type} {s : ByteArray} (one : Nat → Option (α × Nat)) (enc : α → List Int) : ∀ (l : List α) (a : Nat), (∀ x ∈ l, ∀ a, At s a (enc x) → one a = some (x, a + (enc x).length)) → At s a (l.flatMap enc) → manyK one l.length a = some (l, a + (l.flatMap enc).length)
  | [], a, _, _ => rfl
  | x :: r, a, h, hA => by
    rw [List.flatMap_cons] at hA
    have h1 := h x (List.mem_cons_self ..) a hA.left
    have h2 := manyK_put one enc r (a + (enc x).length) (fun y hy => h y (List.mem_cons_of_mem _ hy)) hA.right
    rw [List.length_cons, manyK, h1]
    simp only
    rw [h2]
    simp only [List.flatMap_cons, List.length_append, Nat.add_assoc]
theorem manyR_put {α : Type} {s : ByteArray} (one : Nat → Option (α × Nat)) (enc : α → List Int) (l : List α) (a : Nat) (hl : l.length ≤ 255) (h : ∀ x ∈ l, ∀ a, At s a (enc x) → one a = some (x, a + (enc x).length)) (hA : At s a (fb (l.length : Int) 1 ++ l.flatMap enc)) :
    manyR s one a = some (l, a + (fb (l.length : Int) 1 ++ l.flatMap enc).length) := by
  have h1 := hA.right
  rw [fb_len] at h1
  have h0 := num_fb (b := 1) (by decide) (by omega) (by simp; omega) hA.left
  rw [numF_one] at h0
  have h2 := hA.1
  rw [List.length_append, fb_len] at h2
  unfold manyR
  rw [if_pos (by omega), h0, Int.toNat_natCast, manyK_put one enc l (a + 1) h h1, List.length_append, fb_len, Nat.add_assoc]
theorem dom_put {s : ByteArray} {d : Dm} (hf : (0 ≤ d.gpus ∧ d.gpus < 256) ∧ 0 ≤ d.cpus ∧ d.cpus < 65536) (a : Nat) (h : At s a (encD d)) : domR s a = some (d, a + (encD d).length) := by
  unfold encD at h
  have h1 := num_fb (b := 1) (by decide) hf.1.1 (by simpa using hf.1.2) h.left
  have h2 := h.right
  rw [fb_len] at h2
  have h3 := num_fb (b := 2) (by decide) hf.2.1 (by simpa using hf.2.2) h2
  have h4 := h.1
  rw [List.length_append, fb_len, fb_len] at h4
  unfold domR
  rw [if_pos (by omega), h1, h3]
  simp [encD, fb_len]
theorem qu_put {s : ByteArray} {q : Qu} (hf : (0 ≤ q.quota.gpus ∧ q.quota.gpus < 16777216) ∧ (0 ≤ q.quota.cpus ∧ q.quota.cpus < 16777216) ∧ 0 ≤ q.room ∧ q.room < 256) (a : Nat) (h : At s a (encQ q)) : quR s a = some (q, a + (encQ q).length) := by
  unfold encQ at h
  have h1 := num_fb (b := 3) (by decide) hf.1.1 (by simpa using hf.1.2) h.left
  have h2 := h.right
  rw [fb_len] at h2
  have h3 := num_fb (b := 3) (by decide) hf.2.1.1 (by simpa using hf.2.1.2) h2.left
  have h5 := h2.right
  rw [fb_len] at h5
  have h6 := num_fb (b := 1) (by decide) hf.2.2.1 (by simpa using hf.2.2.2) h5
  have h4 := h.1
  rw [List.length_append, List.length_append, fb_len, fb_len, fb_len] at h4
  rw [show a + 3 + 3 = a + 6 by omega] at h6
  unfold quR
  rw [if_pos (by omega), h1, h3, h6]
  simp [encQ, fb_len]
theorem putN_app (x y : List (Nat × Int)) : putN (x ++ y) = putN x ++ putN y := by unfold putN; rw [List.flatMap_append]
theorem putN_dB : ∀ ds : List Dm, putN (dBits ds) = ds.flatMap encD
  | [] => rfl
  | d :: r => by
    have ih := putN_dB r
    unfold dBits at ih ⊢
    rw [List.flatMap_cons, putN_app, ih, List.flatMap_cons]
    congr 1
theorem putN_bC : ∀ ns : List (List Dm), putN (bitsC ns) = ns.flatMap encN
  | [] => rfl
  | d :: r => by
    have ih := putN_bC r
    unfold bitsC at ih ⊢
    rw [List.flatMap_cons, putN_app, ih, List.flatMap_cons]
    congr 1
    unfold encN
    rw [← putN_dB]
    rfl
theorem putN_bQ : ∀ qs : List Qu, putN (bitsQ qs) = qs.flatMap encQ
  | [] => rfl
  | d :: r => by
    have ih := putN_bQ r
    unfold bitsQ at ih ⊢
    rw [List.flatMap_cons, putN_app, ih, List.flatMap_cons]
    congr 1
theorem putN_cfg (ns : List (List Dm)) (qs : List Qu) (wk tm rt ag : Int) : putN (cfgL ns qs wk tm rt ag) = (fb (ns.length : Int) 1 ++ ns.flatMap encN) ++ ((fb (qs.length : Int) 1 ++ qs.flatMap encQ) ++ (fb wk 1 ++ (fb tm 1 ++ (fb rt 2 ++ fb ag 2)))) := by
  have e1 : cfgL ns qs wk tm rt ag = [(1, (ns.length : Int))] ++ bitsC ns ++ ([(1, (qs.length : Int))] ++ bitsQ qs ++ [(1, wk), (1, tm), (2, rt), (2, ag)]) := by unfold cfgL; simp
  rw [e1, putN_app, putN_app, putN_app, putN_app, putN_bC, putN_bQ]
  simp [putN]
/-- a configuration that fits is told as it was -/
theorem cfg_put {s : ByteArray} {ns : List (List Dm)} {qs : List Qu} {wk tm rt ag : Int} (hf : fitN (cfgL ns qs wk tm rt ag) = true) (h : At s 0 (putN (cfgL ns qs wk tm rt ag))) :
    cfgR s = some (⟨ns, qs, wk, tm, rt, ag⟩, (putN (cfgL ns qs wk tm rt ag)).length) := by
  rw [putN_cfg] at h ⊢
  have key : ∀ p ∈ cfgL ns qs wk tm rt ag, 0 ≤ p.2 ∧ p.2 < 256 ^ p.1 := fun p hp => fitN_mem hf hp
  have kn := key (1, (ns.length : Int)) (by simp [cfgL])
  have kq := key (1, (qs.length : Int)) (by simp [cfgL])
  have kw := key (1, wk) (by simp [cfgL])
  have kt := key (1, tm) (by simp [cfgL])
  have kr := key (2, rt) (by simp [cfgL])
  have ka := key (2, ag) (by simp [cfgL])
  simp only [Int.reducePow] at kn kq kw kt kr ka
  have hnode : ∀ ds ∈ ns, ∀ a, At s a (encN ds) → nodeR s a = some (ds, a + (encN ds).length) := by
    intro ds hds a hA
    have kd := key (1, (ds.length : Int)) (by
      unfold cfgL bitsC
      simp only [List.cons_append, List.mem_cons, List.mem_append, List.mem_flatMap]
      exact .inr (.inl (.inl ⟨ds, hds, .inl rfl⟩)))
    simp only [Int.reducePow] at kd
    refine manyR_put (domR s) encD ds a (by omega) (fun d hd a' hA' => ?_) hA
    have mem : ∀ p ∈ [(1, d.gpus), (2, d.cpus)], p ∈ cfgL ns qs wk tm rt ag := fun p hp => by
      unfold cfgL bitsC dBits
      simp only [List.cons_append, List.mem_cons, List.mem_append, List.mem_flatMap]
      exact .inr (.inl (.inl ⟨ds, hds, .inr ⟨d, hd, by simpa using hp⟩⟩))
    have k1 := key _ (mem (1, d.gpus) (by simp))
    have k2 := key _ (mem (2, d.cpus) (by simp))
    simp only [Int.reducePow] at k1 k2
    exact dom_put ⟨k1, k2⟩ a' hA'
  have hqu : ∀ q ∈ qs, ∀ a, At s a (encQ q) → quR s a = some (q, a + (encQ q).length) := by
    intro q hq a hA
    have mem : ∀ p ∈ [(3, q.quota.gpus), (3, q.quota.cpus), (1, q.room)], p ∈ cfgL ns qs wk tm rt ag := fun p hp => by
      unfold cfgL bitsQ
      simp only [List.cons_append, List.mem_cons, List.mem_append, List.mem_flatMap]
      exact .inr (.inl (.inr (.inr ⟨q, hq, by simpa using hp⟩)))
    have k1 := key _ (mem (3, q.quota.gpus) (by simp))
    have k2 := key _ (mem (3, q.quota.cpus) (by simp))
    have k3 := key _ (mem (1, q.room) (by simp))
    simp only [Int.reducePow] at k1 k2 k3
    exact qu_put ⟨k1, k2, k3⟩ a hA
  have h1 := manyR_put (nodeR s) encN ns 0 (by omega) hnode h.left
  have hr := h.right
  rw [Nat.zero_add] at h1
  rw [Nat.zero_add] at hr
  obtain ⟨p1, hp1⟩ : ∃ p, (fb (ns.length : Int) 1 ++ ns.flatMap encN).length = p := ⟨_, rfl⟩
  rw [hp1] at h1 hr
  have h2 := manyR_put (quR s) encQ qs p1 (by omega) hqu hr.left
  have hr2 := hr.right
  obtain ⟨p2, hp2⟩ : ∃ p, (fb (qs.length : Int) 1 ++ qs.flatMap encQ).length = p := ⟨_, rfl⟩
  rw [hp2] at h2 hr2
  have t1 := num_fb (b := 1) (by decide) kw.1 (by simpa using kw.2) hr2.left
  have hr3 := hr2.right
  rw [fb_len] at hr3
  have t2 := num_fb (b := 1) (by decide) kt.1 (by simpa using kt.2) hr3.left
  have hr4 := hr3.right
  rw [fb_len] at hr4
  have t3 := num_fb (b := 2) (by decide) kr.1 (by simpa using kr.2) hr4.left
  have hr5 := hr4.right
  rw [fb_len] at hr5
  have t4 := num_fb (b := 2) (by decide) ka.1 (by simpa using ka.2) hr5
  have hsz := hr2.1
  simp only [List.length_append, fb_len] at hsz
  have hlen : ((fb (ns.length : Int) 1 ++ ns.flatMap encN) ++ ((fb (qs.length : Int) 1 ++ qs.flatMap encQ) ++ (fb wk 1 ++ (fb tm 1 ++ (fb rt 2 ++ fb ag 2))))).length = p1 + p2 + 6 := by
    rw [← hp1, ← hp2]
    simp only [List.length_append, fb_len]
    omega
  rw [hlen]
  unfold cfgR
  rw [h1]
  simp only
  rw [h2]
  simp only
  rw [if_pos (by omega), t1, t2]
  rw [show p1 + p2 + 1 + 1 = p1 + p2 + 2 by omega] at t3
  rw [show p1 + p2 + 1 + 1 + 2 = p1 + p2 + 4 by omega] at t4
  rw [t3, t4]

theorem cfg_len (ns : List (List Dm)) (qs : List Qu) (wk tm rt ag : Int) : (putN (cfgL ns qs wk tm rt ag)).length = ns.length + 3 * dtot ns + 7 * qs.length + 8 := by
  have e1 : ∀ ds : List Dm, (ds.flatMap encD).length = 3 * ds.length := fun ds => by
    induction ds with
    | nil => rfl
    | cons x r ih => rw [List.flatMap_cons, List.length_append, ih, List.length_cons]; simp only [encD, List.length_append, fb_len]; omega
  have e2 : ∀ ms : List (List Dm), (ms.flatMap encN).length = ms.length + 3 * dtot ms := fun ms => by
    induction ms with
    | nil => rfl
    | cons x r ih =>
      rw [List.flatMap_cons, List.length_append, ih, List.length_cons]
      unfold dtot
      rw [List.map_cons, List.sum_cons]
      simp only [encN, List.length_append, fb_len, e1]; omega
  have e3 : ∀ rs : List Qu, (rs.flatMap encQ).length = 7 * rs.length := fun rs => by
    induction rs with
    | nil => rfl
    | cons x r ih => rw [List.flatMap_cons, List.length_append, ih, List.length_cons]; simp only [encQ, List.length_append, fb_len]; omega
  rw [putN_cfg]
  simp only [List.length_append, fb_len, e2, e3]
  omega
theorem cfg_code (L : List (Nat × Int)) (h : (cfgB L).2 = 0) : fitN L = true ∧ (cfgB L).1 = putN L := by
  unfold cfgB at h ⊢
  split at h
  · rename_i h0; exact ⟨h0, by rw [if_pos h0]⟩
  · simp at h
theorem cfg_code' (L : List (Nat × Int)) (h : ¬ (cfgB L).2 = 0) : (cfgB L).1 = [] := by
  unfold cfgB at h ⊢
  split at h
  · simp at h
  · rename_i h0; rw [if_neg h0]
theorem dlen_le (ns : List (List Dm)) : ∀ ds ∈ ns, ds.length ≤ dtot ns := by
  intro ds h
  unfold dtot
  induction ns with
  | nil => simp at h
  | cons x r ih =>
    rw [List.map_cons, List.sum_cons]
    rcases List.mem_cons.1 h with rfl | h
    · omega
    · have := ih h; omega
theorem str_more (L : List Int) (h : ∀ x ∈ L, 0 ≤ x ∧ x < 256) : At (strOfNums L) 0 L := by
  have h1 := byteF_str L h ⟨#[]⟩
  have e : strOfNums L ++ ⟨#[]⟩ = strOfNums L := by
    apply ByteArray.ext
    rw [ByteArray.data_append]
    simp
  rw [e] at h1
  exact h1
theorem extract_all (s : ByteArray) : s.extract 0 s.size = s := by
  have hsz : s.size = s.data.size := by cases s; rfl
  apply ByteArray.ext
  rw [ByteArray.data_extract, hsz]
  exact Array.extract_size ..
theorem extract_end' (s : ByteArray) : s.extract s.size s.size = ⟨#[]⟩ := by
  apply ByteArray.ext
  rw [ByteArray.data_extract]
  simp
theorem extract_more (s t : ByteArray) : (s ++ t).extract s.size (s ++ t).size = t := by
  have hsz : s.size = s.data.size := by cases s; rfl
  have htz : t.size = t.data.size := by cases t; rfl
  apply ByteArray.ext
  rw [ByteArray.data_extract, ByteArray.size_append, ByteArray.data_append, hsz, htz]
  rw [Array.extract_append, Nat.sub_self, Nat.add_sub_cancel_left, Array.extract_size]
  rw [show s.data.extract s.data.size (s.data.size + t.data.size) = #[] from by simp]
  simp
theorem byteF_pre (s : ByteArray) {cut a : Nat} (h : a + 1 ≤ cut) (hc : cut ≤ s.size) : byteF (s.extract 0 cut) a = byteF s a := by
  rw [← numF_one, numF_extract s 0 cut a 1 (by omega) hc, Nat.zero_add, numF_one]
theorem manyK_mono {α : Type} {one one' : Nat → Option (α × Nat)} (h1 : ∀ a r, one a = some r → one' a = some r) : ∀ (k a : Nat) (r : List α × Nat), manyK one k a = some r → manyK one' k a = some r
  | 0, a, r, h => h
  | k + 1, a, r, h => by
    rw [manyK] at h ⊢
    cases e1 : one a with
    | none => rw [e1] at h; cases h
    | some p =>
      obtain ⟨x, c⟩ := p
      rw [e1] at h
      simp only at h
      rw [h1 _ _ e1]
      simp only
      cases e2 : manyK one k c with
      | none => rw [e2] at h; cases h
      | some q =>
        rw [e2] at h
        rw [manyK_mono h1 k c q e2]
        exact h
section
variable {s : ByteArray} {cut : Nat} (hc : cut ≤ s.size)
include hc
theorem pre_size : (s.extract 0 cut).size = cut := by rw [ByteArray.size_extract]; omega
theorem manyR_mono {α : Type} {one one' : Nat → Option (α × Nat)} (h1 : ∀ a r, one a = some r → one' a = some r) (a : Nat) (r : List α × Nat) (h : manyR (s.extract 0 cut) one a = some r) : manyR s one' a = some r := by
  unfold manyR at h ⊢
  rw [pre_size hc] at h
  split at h
  · rename_i h0
    rw [byteF_pre s h0 hc] at h
    rw [if_pos (by omega)]
    exact manyK_mono h1 _ _ _ h
  · cases h
theorem domR_mono (a : Nat) (r : Dm × Nat) (h : domR (s.extract 0 cut) a = some r) : domR s a = some r := by
  unfold domR at h ⊢
  rw [pre_size hc] at h
  split at h
  · rename_i h0
    rw [numF_extract s 0 cut a 1 (by omega) hc, numF_extract s 0 cut (a + 1) 2 (by omega) hc, Nat.zero_add, Nat.zero_add] at h
    rw [if_pos (by omega)]
    exact h
  · cases h
theorem quR_mono (a : Nat) (r : Qu × Nat) (h : quR (s.extract 0 cut) a = some r) : quR s a = some r := by
  unfold quR at h ⊢
  rw [pre_size hc] at h
  split at h
  · rename_i h0
    rw [numF_extract s 0 cut a 3 (by omega) hc, numF_extract s 0 cut (a + 3) 3 (by omega) hc, numF_extract s 0 cut (a + 6) 1 (by omega) hc, Nat.zero_add, Nat.zero_add, Nat.zero_add] at h
    rw [if_pos (by omega)]
    exact h
  · cases h
/-- what a beginning of bytes tells, they tell -/
theorem cfg_mono {r : Cg × Nat} (h : cfgR (s.extract 0 cut) = some r) : cfgR s = some r ∧ r.2 ≤ cut := by
  unfold cfgR at h ⊢
  cases e1 : manyR (s.extract 0 cut) (nodeR (s.extract 0 cut)) 0 with
  | none => rw [e1] at h; cases h
  | some q =>
    obtain ⟨ns, a⟩ := q
    rw [e1] at h
    simp only at h
    rw [manyR_mono (one' := nodeR s) hc (fun a r h => manyR_mono hc (domR_mono hc) a r h) 0 _ e1]
    simp only
    cases e2 : manyR (s.extract 0 cut) (quR (s.extract 0 cut)) a with
    | none => rw [e2] at h; cases h
    | some q =>
      obtain ⟨qs, b⟩ := q
      rw [e2] at h
      simp only at h
      rw [manyR_mono hc (quR_mono hc) a _ e2]
      simp only
      rw [pre_size hc] at h
      split at h
      · rename_i h0
        rw [numF_extract s 0 cut b 1 (by omega) hc, numF_extract s 0 cut (b + 1) 1 (by omega) hc, numF_extract s 0 cut (b + 2) 2 (by omega) hc, numF_extract s 0 cut (b + 4) 2 (by omega) hc, Nat.zero_add, Nat.zero_add, Nat.zero_add, Nat.zero_add] at h
        rw [if_pos (by omega)]
        refine ⟨h, ?_⟩
        simp only [Option.some.injEq] at h
        subst h
        exact h0
      · cases h
end
end Go.Proofs.Ytghfdiaaonjofaa
