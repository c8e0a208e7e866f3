/- Plain: what is put and dropped in a table that is right. -/
import Derived.Test.YtcfbhojpemjjpaaPa
set_option linter.unusedVariables false
set_option linter.unusedSimpArgs false
namespace Go.Proofs.Ytcfbhojpemjjpaa
open Go Go.RowKit

theorem findL_eq {T : List Pl} {k : Int} {i : Nat} {p : Pl} (hp : T[i]? = some p) (hf : p.full k) (hb : ∀ (j : Nat) (q : Pl), j < i → T[j]? = some q → ¬ q.full k) : findL T k = (i : Int) := by
  rcases findL_or T k with ⟨_, h2⟩ | ⟨n, q, hq, hqf, h3, h4⟩
  · exact absurd hf (h2 p (List.mem_of_getElem? hp))
  · rw [h3]
    rcases Nat.lt_trichotomy n i with h | h | h
    · exact absurd hqf (hb n q h hq)
    · rw [h]
    · exact absurd hf (h4 i p h hp)
theorem findL_at {T : List Pl} {k : Int} {i : Nat} (h : findL T k = (i : Int)) : ∃ p, T[i]? = some p ∧ p.full k ∧ ∀ (j : Nat) (q : Pl), j < i → T[j]? = some q → ¬ q.full k := by
  rcases findL_or T k with ⟨h1, _⟩ | ⟨n, q, hq, hqf, h3, h4⟩
  · rw [h1] at h; omega
  · rw [h3] at h
    obtain rfl : n = i := by omega
    exact ⟨q, hq, hqf, h4⟩
theorem get_set {T : List Pl} {n : Nat} {r : Pl} (hn : n < T.length) (i : Nat) : (T.set n r)[i]? = if i = n then some r else T[i]? := by
  rw [List.getElem?_set]
  by_cases h : n = i
  · subst h; simp [hn]
  · rw [if_neg h, if_neg (fun h' => h h'.symm)]
theorem roadIx_set (T : List Pl) (n : Nat) (r : Pl) (k : Int) (s : Nat) : roadIx (T.set n r) k s = roadIx T k s := by simp [roadIx]
theorem dst_set (T : List Pl) (n : Nat) (r : Pl) (k : Int) (i : Nat) : dst (T.set n r) k i = dst T k i := by simp [dst]
/-- A place that is turned to Gone. -/
theorem Rt.gone {T : List Pl} (h : Rt T) {n : Nat} (hn : n < T.length) : Rt (T.set n ⟨2, 0, 0⟩) := by
  have hg := get_set (r := ⟨2, 0, 0⟩) hn
  refine ⟨by simpa using h.pos, by simpa using h.le, fun i p hp => ?_, fun i p hp hs => ?_, fun i p hp hs => ?_, fun i p hp hs s hlt => ?_⟩ <;> rw [hg] at hp
  · split at hp
    · cases hp; simp
    · exact h.st i p hp
  · split at hp
    · cases hp; simp
    · exact h.z i p hp hs
  · split at hp
    · cases hp; simp at hs
    · rename_i hin
      obtain ⟨q, hq, hqf, hb⟩ := findL_at (h.at_ i p hp hs)
      rw [hp] at hq; cases hq
      refine findL_eq (p := p) (by rw [hg, if_neg hin]; exact hp) hqf fun j q hj hq => ?_
      rw [hg] at hq
      split at hq
      · cases hq; simp [Pl.full]
      · exact hb j q hj hq
  · split at hp
    · cases hp; simp at hs
    · rw [roadIx_set, hg]
      rw [dst_set] at hlt
      split
      · simp
      · exact h.road i p hp hs s hlt
/-- A place that is turned to a full one: that of the key, or the first one that is not full on its road. -/
theorem Rt.full {T : List Pl} (h : Rt T) {n : Nat} {k v : Int} (hn : n < T.length) (hk : ∀ (j : Nat) (q : Pl), j ≠ n → T[j]? = some q → ¬ q.full k) (hr : ∀ s, s < dst T k n → (T[roadIx T k s]?.getD pl0).st ≠ 0) : Rt (T.set n ⟨1, k, v⟩) := by
  have hg := get_set (r := ⟨1, k, v⟩) hn
  refine ⟨by simpa using h.pos, by simpa using h.le, fun i p hp => ?_, fun i p hp hs => ?_, fun i p hp hs => ?_, fun i p hp hs s hlt => ?_⟩ <;> rw [hg] at hp
  · split at hp
    · cases hp; simp
    · exact h.st i p hp
  · split at hp
    · cases hp; simp at hs
    · exact h.z i p hp hs
  · split at hp
    · rename_i hin
      cases hp
      subst hin
      refine findL_eq (p := ⟨1, k, v⟩) (by rw [hg, if_pos rfl]) ⟨rfl, rfl⟩ fun j q hj hq => ?_
      rw [hg, if_neg (by omega)] at hq
      exact hk j q (by omega) hq
    · rename_i hin
      obtain ⟨q, hq, hqf, hb⟩ := findL_at (h.at_ i p hp hs)
      rw [hp] at hq; cases hq
      refine findL_eq (p := p) (by rw [hg, if_neg hin]; exact hp) hqf fun j q hj hq => ?_
      rw [hg] at hq
      split at hq
      · cases hq
        rintro ⟨_, hkk⟩
        exact hk i p hin hp ⟨hs, hkk.symm⟩
      · exact hb j q hj hq
  · rw [roadIx_set, hg]
    rw [dst_set] at hlt
    split
    · simp
    · split at hp
      · rename_i hin
        cases hp
        subst hin
        exact hr s hlt
      · exact h.road i p hp hs s hlt
abbrev putL (T : List Pl) (k v : Int) : List Pl × Int := putAt T (slotL T k) k v
abbrev dropL (T : List Pl) (k : Int) : List Pl × Int × Int := dropAt T (findL T k)
abbrev getL (T : List Pl) (k : Int) : Int × Int := getAt T (findL T k)
/-- The slot of a key, in a table that is right. -/
theorem Rt.slot_or {T : List Pl} (h : Rt T) (k : Int) : (slotL T k = -1 ∧ (∀ p ∈ T, ¬ p.full k) ∧ ∀ p ∈ T, p.st = 1) ∨ ∃ n, n < T.length ∧ slotL T k = (n : Int) ∧ (∀ (j : Nat) (q : Pl), j ≠ n → T[j]? = some q → ¬ q.full k) ∧ (∀ s, s < dst T k n → (T[roadIx T k s]?.getD pl0).st ≠ 0) ∧
    ((∃ p, T[n]? = some p ∧ p.full k) ∨ ((∀ p ∈ T, ¬ p.full k) ∧ ∃ p, T[n]? = some p ∧ p.st ≠ 1)) := by
  unfold slotL
  rcases findL_or T k with ⟨h1, h2⟩ | ⟨n, p, hp, hf, h3, h4⟩
  · rw [h1, if_pos (by decide)]
    rcases freeL_or T k with ⟨g1, g2⟩ | ⟨n, q, g1, g2, g3, g4, g5⟩
    · refine .inl ⟨g1, h2, fun p hp => ?_⟩
      obtain ⟨i, hi⟩ := List.mem_iff_getElem?.1 hp
      obtain ⟨e1, e2, _⟩ := roadIx_dist k (lt_of_get hi) h.hT
      obtain ⟨p', hp', hr⟩ := roadP_get (k := k) e2
      rw [e1, hi] at hp'; cases hp'
      exact g2 _ (List.mem_of_getElem? hr)
    · refine .inr ⟨q.1, lt_of_get g2, g4, fun j r _ hr => h2 r (List.mem_of_getElem? hr), fun s hs => ?_, .inr ⟨h2, q.2, g2, g3⟩⟩
      have hnl : n < T.length := by have := lt_of_get g1; simpa [roadP] using this
      obtain ⟨p', hp', hr⟩ := roadP_get (k := k) hnl
      rw [g1] at hr
      have e : roadIx T k n = q.1 := by cases hr; rfl
      have hsn : s < n := by
        obtain ⟨e1, e2, e3⟩ := roadIx_dist k (lt_of_get g2) h.hT
        rcases Nat.lt_or_ge s n with h | h
        · exact h
        · exact absurd e (e3 n (by omega))
      obtain ⟨r, hr1, hr2⟩ := roadP_get (T := T) (k := k) (j := s) (by omega)
      rw [hr1]
      have := g5 s _ hsn hr2
      simp only at this
      simp [this]
  · rw [h3, if_neg (by omega)]
    refine .inr ⟨n, lt_of_get hp, rfl, fun j q hj hq hqf => hj (h.uniq hq hp hqf hf), fun s hs => ?_, .inl ⟨p, hp, hf⟩⟩
    have := h.road n p hp hf.1 s (by rw [hf.2]; exact hs)
    rwa [hf.2] at this
theorem Rt.put {T : List Pl} (h : Rt T) (k v : Int) : Rt (putL T k v).1 := by
  unfold putL putAt
  rcases h.slot_or k with ⟨h1, _⟩ | ⟨n, hn, h1, h2, h3, _⟩
  · rw [h1, if_pos (by decide)]; exact h
  · rw [h1, if_neg (by omega)]
    exact h.full hn h2 h3
theorem Rt.drop {T : List Pl} (h : Rt T) (k : Int) : Rt (dropL T k).1 := by
  unfold dropL dropAt
  rcases findL_or T k with ⟨h1, _⟩ | ⟨n, p, hp, _, h3, _⟩
  · rw [h1, if_pos (by decide)]; exact h
  · rw [h3, if_neg (by omega)]
    exact h.gone (lt_of_get hp)
/-- The value of a key. -/
def look (T : List Pl) (k : Int) : Option Int := (T.find? fun p => decide (p.full k)).map (·.vl)
theorem look_none {T : List Pl} {k : Int} (h : ∀ p ∈ T, ¬ p.full k) : look T k = none := by
  unfold look
  rw [List.find?_eq_none.2 (by simpa using h)]
  rfl
theorem Rt.look_some {T : List Pl} (h : Rt T) {k : Int} {i : Nat} {p : Pl} (hp : T[i]? = some p) (hf : p.full k) : look T k = some p.vl := by
  unfold look
  cases hx : T.find? (fun p => decide (p.full k)) with
  | none =>
    rw [List.find?_eq_none] at hx
    exact absurd hf (by simpa using hx p (List.mem_of_getElem? hp))
  | some q =>
    have h1 := List.find?_some hx
    have h2 := List.mem_of_find?_eq_some hx
    obtain ⟨j, hj⟩ := List.mem_iff_getElem?.1 h2
    have := h.uniq hp hj hf (by simpa using h1)
    subst this
    rw [hp] at hj
    cases hj
    rfl
theorem Rt.get {T : List Pl} (h : Rt T) (k : Int) : getL T k = match look T k with | some v => (v, 0) | none => (0, 9) := by
  unfold getL getAt
  rcases findL_or T k with ⟨h1, h2⟩ | ⟨n, p, hp, hf, h3, _⟩
  · rw [h1, look_none h2]; rfl
  · rw [h3, h.look_some hp hf, if_neg (by omega)]
    simp [hp]
theorem Rt.look_iff {T : List Pl} (h : Rt T) (k v : Int) : look T k = some v ↔ ∃ (i : Nat) (p : Pl), T[i]? = some p ∧ p.full k ∧ p.vl = v := by
  constructor
  · intro hl
    unfold look at hl
    cases hx : T.find? (fun p => decide (p.full k)) with
    | none => rw [hx] at hl; cases hl
    | some q =>
      rw [hx] at hl
      have h1 := List.find?_some hx
      obtain ⟨j, hj⟩ := List.mem_iff_getElem?.1 (List.mem_of_find?_eq_some hx)
      exact ⟨j, q, hj, by simpa using h1, by simpa using hl⟩
  · rintro ⟨i, p, hp, hf, rfl⟩
    exact h.look_some hp hf
theorem opt_ext {a b : Option Int} (h : ∀ v, a = some v ↔ b = some v) : a = b := by
  cases a with
  | none =>
    cases b with
    | none => rfl
    | some v => exact absurd ((h v).2 rfl) (by simp)
  | some v => exact ((h v).1 rfl).symm
theorem Rt.look_set {T : List Pl} (h : Rt T) {n : Nat} {r : Pl} (hn : n < T.length) (h' : Rt (T.set n r)) {k' : Int} (hr : ¬ r.full k') (hq : ∀ q, T[n]? = some q → ¬ q.full k') : look (T.set n r) k' = look T k' := by
  refine opt_ext fun v => ?_
  rw [h.look_iff, h'.look_iff]
  have hg := get_set (r := r) hn
  constructor
  · rintro ⟨i, p, hp, hf, rfl⟩
    rw [hg] at hp
    split at hp
    · cases hp; exact absurd hf hr
    · exact ⟨i, p, hp, hf, rfl⟩
  · rintro ⟨i, p, hp, hf, rfl⟩
    refine ⟨i, p, ?_, hf, rfl⟩
    rw [hg, if_neg (fun he => ?_)]
    · exact hp
    · subst he; exact hq p hp hf
theorem Rt.look_put {T : List Pl} (h : Rt T) (k v k' : Int) (hs : (putL T k v).2 = 0) : look (putL T k v).1 k' = if k' = k then some v else look T k' := by
  have h' := h.put k v
  revert h' hs
  unfold putL putAt
  rcases h.slot_or k with ⟨h1, _⟩ | ⟨n, hn, h1, h2, h3, h4⟩
  · rw [h1, if_pos (by decide)]; intro hs; simp at hs
  · rw [h1, if_neg (by omega)]
    intro _ h'
    simp only [Int.toNat_natCast] at h' ⊢
    by_cases hk : k' = k
    · rw [if_pos hk]
      subst hk
      exact h'.look_some (i := n) (p := ⟨1, k', v⟩) (by rw [get_set hn, if_pos rfl]) ⟨rfl, rfl⟩
    · rw [if_neg hk]
      refine h.look_set hn h' (fun hf => hk hf.2.symm) fun q hq hqf => ?_
      rcases h4 with ⟨p, hp, hpf⟩ | ⟨_, p, hp, hps⟩
      · rw [hq] at hp; cases hp
        exact hk (hqf.2.symm.trans hpf.2)
      · rw [hq] at hp; cases hp
        exact hps hqf.1
theorem Rt.look_drop {T : List Pl} (h : Rt T) (k k' : Int) : look (dropL T k).1 k' = if k' = k then none else look T k' := by
  have h' := h.drop k
  revert h'
  unfold dropL dropAt
  rcases findL_or T k with ⟨h1, h2⟩ | ⟨n, p, hp, hpf, h3, _⟩
  · rw [h1, if_pos (by decide)]
    intro _
    split
    · rename_i hk; subst hk; exact look_none h2
    · rfl
  · rw [h3, if_neg (by omega)]
    intro h'
    simp only [Int.toNat_natCast] at h' ⊢
    by_cases hk : k' = k
    · rw [if_pos hk]
      subst hk
      refine look_none fun q hq hqf => ?_
      obtain ⟨j, hj⟩ := List.mem_iff_getElem?.1 hq
      rw [get_set (lt_of_get hp)] at hj
      split at hj
      · cases hj; simp [Pl.full] at hqf
      · rename_i hjn
        exact hjn (h.uniq hj hp hqf hpf)
    · rw [if_neg hk]
      refine h.look_set (lt_of_get hp) h' (fun hf => by simp [Pl.full] at hf) fun q hq hqf => ?_
      rw [hq] at hp; cases hp
      exact hk (hqf.2.symm.trans hpf.2)
theorem Rt.drop_vals {T : List Pl} (h : Rt T) (k : Int) : (dropL T k).2 = match look T k with | some v => (v, 0) | none => (0, 9) := by
  unfold dropL dropAt
  rcases findL_or T k with ⟨h1, h2⟩ | ⟨n, p, hp, hf, h3, _⟩
  · rw [h1, look_none h2]; rfl
  · rw [h3, h.look_some hp hf, if_neg (by omega)]
    simp [hp]
theorem Rt.drop_none {T : List Pl} (h : Rt T) {k : Int} (hl : look T k = none) : dropL T k = (T, 0, 9) := by
  unfold dropL dropAt
  rcases findL_or T k with ⟨h1, h2⟩ | ⟨n, p, hp, hf, h3, _⟩
  · rw [h1]; rfl
  · rw [h.look_some hp hf] at hl; cases hl
/-- How many stand in a table. -/
def cnt (T : List Pl) : Nat := T.countP fun p => p.st == 1
theorem keysL_len (T : List Pl) : (keysL T).length = cnt T := by
  unfold keysL cnt
  rw [List.length_map, List.countP_eq_length_filter]
theorem cnt_set {T : List Pl} {n : Nat} {q r : Pl} (hq : T[n]? = some q) : cnt (T.set n r) + (if q.st = 1 then 1 else 0) = cnt T + (if r.st = 1 then 1 else 0) := by
  obtain ⟨hn, rfl⟩ := List.getElem?_eq_some_iff.1 hq
  unfold cnt
  have e : T = T.take n ++ T[n] :: T.drop (n + 1) := by rw [← List.drop_eq_getElem_cons hn, List.take_append_drop]
  have e' : T.set n r = T.take n ++ r :: T.drop (n + 1) := by rw [List.set_eq_take_append_cons_drop, if_pos hn]
  rw [e']
  conv => rhs; rw [e]
  simp only [List.countP_append, List.countP_cons, beq_iff_eq]
  omega
theorem cnt_le (T : List Pl) : cnt T ≤ T.length := List.countP_le_length
theorem cnt_full {T : List Pl} : cnt T = T.length ↔ ∀ p ∈ T, p.st = 1 := by
  unfold cnt
  rw [List.countP_eq_length]
  simp
theorem putL_len (T : List Pl) (k v : Int) : (putL T k v).1.length = T.length := by
  unfold putL putAt
  split <;> simp
theorem dropL_len (T : List Pl) (k : Int) : (dropL T k).1.length = T.length := by
  unfold dropL dropAt
  split <;> simp
theorem Rt.put_ok {T : List Pl} (h : Rt T) (k v : Int) : ((putL T k v).2 = 0 ∧ ((look T k).isSome = true ∨ cnt T < T.length)) ∨ (putL T k v = (T, 8) ∧ look T k = none ∧ cnt T = T.length) := by
  unfold putL putAt
  rcases h.slot_or k with ⟨h1, h2, h3⟩ | ⟨n, hn, h1, _, _, h4⟩
  · rw [h1, if_pos (by decide)]
    exact .inr ⟨rfl, look_none h2, cnt_full.2 h3⟩
  · rw [h1, if_neg (by omega)]
    refine .inl ⟨rfl, ?_⟩
    rcases h4 with ⟨p, hp, hpf⟩ | ⟨_, p, hp, hps⟩
    · rw [h.look_some hp hpf]; exact .inl rfl
    · right
      have := cnt_le T
      have hne : cnt T ≠ T.length := fun he => hps (cnt_full.1 he p (List.mem_of_getElem? hp))
      omega
theorem Rt.put_cnt {T : List Pl} (h : Rt T) (k v : Int) (hs : (putL T k v).2 = 0) : cnt (putL T k v).1 = if (look T k).isSome then cnt T else cnt T + 1 := by
  revert hs
  unfold putL putAt
  rcases h.slot_or k with ⟨h1, _⟩ | ⟨n, hn, h1, h2, h3, h4⟩
  · rw [h1, if_pos (by decide)]; intro hs; simp at hs
  · rw [h1, if_neg (by omega)]
    intro _
    simp only [Int.toNat_natCast]
    rcases h4 with ⟨p, hp, hpf⟩ | ⟨ha, p, hp, hps⟩
    · rw [h.look_some hp hpf, if_pos (show (some p.vl).isSome = true from rfl)]
      have := cnt_set (r := ⟨1, k, v⟩) hp
      rw [if_pos hpf.1, if_pos rfl] at this
      omega
    · rw [look_none ha, if_neg (by simp)]
      have := cnt_set (r := ⟨1, k, v⟩) hp
      rw [if_neg hps, if_pos rfl] at this
      omega
theorem Rt.drop_cnt {T : List Pl} (h : Rt T) (k : Int) (hs : (look T k).isSome = true) : cnt (dropL T k).1 + 1 = cnt T := by
  unfold dropL dropAt
  rcases findL_or T k with ⟨h1, h2⟩ | ⟨n, p, hp, hpf, h3, _⟩
  · rw [look_none h2] at hs; cases hs
  · rw [h3, if_neg (by omega)]
    simp only [Int.toNat_natCast]
    have := cnt_set (r := ⟨2, 0, 0⟩) hp
    rw [if_pos hpf.1, if_neg (by decide)] at this
    omega
theorem look_key {T : List Pl} {k : Int} : (look T k).isSome = true ↔ k ∈ keysL T := by
  unfold look keysL
  rw [Option.isSome_map, List.find?_isSome]
  simp only [List.mem_map, List.mem_filter, decide_eq_true_eq, beq_iff_eq]
  unfold Pl.full
  constructor
  · rintro ⟨p, hp, h1, h2⟩; exact ⟨p, ⟨hp, h1⟩, h2⟩
  · rintro ⟨p, ⟨hp, h1⟩, h2⟩; exact ⟨p, hp, h1, h2⟩
theorem Rt.new {n : Nat} (h : 1 ≤ n) (h' : n ≤ 8) : Rt (List.replicate n pl0) := by
  have hg : ∀ (i : Nat) (p : Pl), (List.replicate n pl0)[i]? = some p → p = pl0 := fun i p hp => by
    have := List.mem_of_getElem? hp
    exact (List.mem_replicate.1 this).2
  refine ⟨by simpa using h, by simpa using h', fun i p hp => ?_, fun i p hp _ => ?_, fun i p hp hs => ?_, fun i p hp hs => ?_⟩ <;> (obtain rfl := hg i p hp)
  · exact .inl rfl
  · exact ⟨rfl, rfl⟩
  · simp at hs
  · simp at hs
theorem new_look (n : Nat) (k : Int) : look (List.replicate n pl0) k = none := by
  refine look_none fun p hp => ?_
  rw [(List.mem_replicate.1 hp).2]
  simp [Pl.full]
theorem new_cnt (n : Nat) : cnt (List.replicate n pl0) = 0 := by
  unfold cnt
  rw [List.countP_eq_zero]
  intro p hp
  rw [(List.mem_replicate.1 hp).2]
  simp
/-- Right by the road is right by the document. -/
theorem hGo_inv (k : Int) : ∀ (l : List (Nat × Pl)) (i : Nat), hGo k l = (i : Int) → ∃ (d : Nat) (q : Nat × Pl), l[d]? = some q ∧ q.1 = i ∧ q.2.full k ∧ ∀ (m : Nat), m < d → ∀ (r : Nat × Pl), l[m]? = some r → r.2.st ≠ 0 ∧ ¬ r.2.full k
  | [], i, h => by unfold hGo at h; omega
  | q :: l, i, h => by
    unfold hGo at h
    split at h
    · omega
    · rename_i h0
      split at h
      · rename_i h1
        exact ⟨0, q, rfl, by omega, h1, fun m hm => by omega⟩
      · rename_i h1
        obtain ⟨d, r, g1, g2, g3, g4⟩ := hGo_inv k l i h
        refine ⟨d + 1, r, by simpa using g1, g2, g3, fun m hm x hx => ?_⟩
        cases m with
        | zero => simp at hx; subst hx; exact ⟨h0, h1⟩
        | succ m => exact g4 m (by omega) x (by simpa using hx)
theorem hRight_eq (T : List Pl) : hRight T = rightL T := by
  rw [Bool.eq_iff_iff, rightL_iff]
  unfold hRight
  split
  · rename_i h
    simp only [Bool.false_eq_true, false_iff]
    intro hr
    have := hr.pos; have := hr.le
    omega
  · rename_i h
    rw [allIx_iff]
    have hT : T.length ≤ 1099511627776 := by omega
    have hany : ∀ (i : Nat) (p : Pl), (T.take i).any (sameKey p) = true ↔ ∃ j q, j < i ∧ T[j]? = some q ∧ q.full p.ky := fun i p => by
      rw [List.any_eq_true]
      constructor
      · rintro ⟨q, hq, hs⟩
        obtain ⟨j, hj⟩ := List.mem_iff_getElem?.1 hq
        rw [List.getElem?_take] at hj
        split at hj
        · exact ⟨j, q, by assumption, hj, by simpa [sameKey, Pl.full] using hs⟩
        · cases hj
      · rintro ⟨j, q, hj, hq, hf⟩
        refine ⟨q, List.mem_iff_getElem?.2 ⟨j, by rw [List.getElem?_take, if_pos hj]; exact hq⟩, by simpa [sameKey, Pl.full] using hf⟩
    constructor
    · intro ha
      have hok : ∀ (i : Nat) (p : Pl), T[i]? = some p → okH T i p = true := fun i p hp => by simpa using ha i p hp
      have h1 : ∀ (i : Nat) (p : Pl), T[i]? = some p → p.st = 1 → hFind T p.ky = (i : Int) ∧ ∀ (j : Nat) (q : Pl), j < i → T[j]? = some q → ¬ q.full p.ky := fun i p hp hs => by
        have := hok i p hp
        unfold okH at this
        rw [if_pos hs] at this
        split at this
        · cases this
        · rename_i hf
          refine ⟨by omega, fun j q hj hq hqf => ?_⟩
          rw [(hany i p).2 ⟨j, q, hj, hq, hqf⟩] at this
          cases this
      refine ⟨by omega, by omega, fun i p hp => ?_, fun i p hp hs => ?_, fun i p hp hs => ?_, fun i p hp hs s hlt => ?_⟩
      · have := hok i p hp
        unfold okH at this
        split at this
        · omega
        · split at this
          · omega
          · cases this
      · have := hok i p hp
        unfold okH at this
        rw [if_neg hs] at this
        split at this
        · simpa using this
        · cases this
      · exact findL_eq hp ⟨hs, rfl⟩ (h1 i p hp hs).2
      · obtain ⟨d, q, g1, g2, g3, g4⟩ := hGo_inv _ _ _ (h1 i p hp hs).1
        obtain ⟨e1, e2, e3⟩ := roadIx_dist p.ky (lt_of_get hp) hT
        have hdl : d < T.length := by have := lt_of_get g1; simpa [roadP] using this
        obtain ⟨r, hr1, hr2⟩ := roadP_get (T := T) (k := p.ky) (j := s) (by omega)
        rw [hr1]
        refine (g4 s ?_ _ hr2).1
        rcases Nat.lt_or_ge s d with h | h
        · exact h
        · obtain ⟨r', hr1', hr2'⟩ := roadP_get (T := T) (k := p.ky) (j := d) hdl
          rw [g1] at hr2'
          cases hr2'
          exact absurd g2 (e3 d (by omega))
    · intro hr i p hp
      rw [Nat.zero_add]
      unfold okH
      split
      · rename_i hs
        have h1 := hr.at_ i p hp hs
        rw [hr.find, if_neg (by omega)]
        obtain ⟨_, _, _, hb⟩ := findL_at h1
        cases hx : (T.take i).any (sameKey p) with
        | false => rfl
        | true =>
          obtain ⟨j, q, hj, hq, hf⟩ := (hany i p).1 hx
          exact absurd hf (hb j q hj hq)
      · rename_i hs
        have := hr.st i p hp
        rw [if_pos (by omega)]
        simpa using hr.z i p hp hs
end Go.Proofs.Ytcfbhojpemjjpaa
