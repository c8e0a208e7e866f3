/- Plain: a table that is right. -/
import Derived.Test.YtcfbhojpemjjpaaWj
set_option linter.unusedVariables false
set_option linter.unusedSimpArgs false
namespace Go.Proofs.Ytcfbhojpemjjpaa
open Go Go.RowKit

theorem allIx_iff (f : Nat → Pl → Bool) : ∀ (l : List Pl) (i : Nat), allIx f l i = true ↔ ∀ (m : Nat) (p : Pl), l[m]? = some p → f (i + m) p = true
  | [], i => by simp [allIx]
  | p :: l, i => by
    rw [allIx, Bool.and_eq_true, allIx_iff f l (i + 1)]
    constructor
    · rintro ⟨h1, h2⟩ m q hq
      cases m with
      | zero => simp at hq; subst hq; exact h1
      | succ m =>
        have := h2 m q (by simpa using hq)
        rwa [show i + 1 + m = i + (m + 1) by omega] at this
    · intro h
      refine ⟨h 0 p rfl, fun m q hq => ?_⟩
      have := h (m + 1) q (by simpa using hq)
      rwa [show i + (m + 1) = i + 1 + m by omega] at this
theorem roadOk_iff (T : List Pl) (k : Int) : ∀ (l : List Nat), roadOk T k l = true ↔ ∀ s ∈ l, (T[roadIx T k s]?.getD pl0).st ≠ 0
  | [] => by simp [roadOk]
  | s :: l => by
    rw [roadOk, Bool.and_eq_true, roadOk_iff T k l]
    simp
abbrev dst (T : List Pl) (k : Int) (i : Nat) : Nat := dist T.length (homeN T.length k) i
/-- A table that is right. -/
structure Rt (T : List Pl) : Prop where
  pos : 1 ≤ T.length
  le : T.length ≤ 8
  st : ∀ (i : Nat) (p : Pl), T[i]? = some p → p.st = 0 ∨ p.st = 1 ∨ p.st = 2
  z : ∀ (i : Nat) (p : Pl), T[i]? = some p → p.st ≠ 1 → p.ky = 0 ∧ p.vl = 0
  at_ : ∀ (i : Nat) (p : Pl), T[i]? = some p → p.st = 1 → findL T p.ky = (i : Int)
  road : ∀ (i : Nat) (p : Pl), T[i]? = some p → p.st = 1 → ∀ s, s < dst T p.ky i → (T[roadIx T p.ky s]?.getD pl0).st ≠ 0
theorem okR_iff (T : List Pl) (i : Nat) (p : Pl) : okR T i p = true ↔ (p.st = 0 ∨ p.st = 1 ∨ p.st = 2) ∧ (p.st ≠ 1 → p.ky = 0 ∧ p.vl = 0) ∧ (p.st = 1 → findL T p.ky = (i : Int) ∧ ∀ s, s < dst T p.ky i → (T[roadIx T p.ky s]?.getD pl0).st ≠ 0) := by
  unfold okR
  split
  · rename_i h
    simp only [Bool.false_eq_true, false_iff]
    rintro ⟨h1, h2, h3⟩
    rcases h with h | h | ⟨h, h'⟩
    · omega
    · omega
    · have := h2 h; omega
  · rename_i h
    split
    · rename_i h1
      simp only [true_iff]
      exact ⟨by omega, fun _ => by omega, fun h2 => absurd h2 h1⟩
    · rename_i h1
      have h1 : p.st = 1 := by omega
      split
      · rename_i h2
        simp only [Bool.false_eq_true, false_iff]
        rintro ⟨_, _, h3⟩
        exact h2 (h3 h1).1
      · rename_i h2
        rw [roadOk_iff]
        constructor
        · intro h3
          exact ⟨by omega, fun hn => absurd h1 hn, fun _ => ⟨by omega, fun s hs => h3 s (by simpa using hs)⟩⟩
        · rintro ⟨_, _, h3⟩ s hs
          exact (h3 h1).2 s (by simpa using hs)
theorem rightL_iff (T : List Pl) : rightL T = true ↔ Rt T := by
  unfold rightL
  split
  · rename_i h
    simp only [Bool.false_eq_true, false_iff]
    intro hr
    have := hr.pos; have := hr.le
    omega
  · rename_i h
    rw [allIx_iff]
    constructor
    · intro h'
      have key := fun i p hp => (okR_iff T i p).1 (by simpa using h' i p hp)
      exact ⟨by omega, by omega, fun i p hp => (key i p hp).1, fun i p hp => (key i p hp).2.1, fun i p hp hs => ((key i p hp).2.2 hs).1, fun i p hp hs => ((key i p hp).2.2 hs).2⟩
    · intro hr m p hp
      rw [Nat.zero_add]
      exact (okR_iff T m p).2 ⟨hr.st m p hp, hr.z m p hp, fun hs => ⟨hr.at_ m p hp hs, hr.road m p hp hs⟩⟩
theorem hGo_at (k : Int) : ∀ (l : List (Nat × Pl)) (d : Nat) (q : Nat × Pl), l[d]? = some q → q.2.full k → (∀ m, m < d → ∀ r, l[m]? = some r → r.2.st ≠ 0 ∧ ¬ r.2.full k) → hGo k l = (q.1 : Int)
  | [], d, q, h, _, _ => by simp at h
  | r :: l, 0, q, h, hf, _ => by
    simp at h
    subst h
    have hf' : r.2.st = 1 ∧ r.2.ky = k := hf
    unfold hGo
    rw [if_neg (by omega), if_pos hf']
  | r :: l, d + 1, q, h, hf, ha => by
    have h0 := ha 0 (by omega) r rfl
    unfold hGo
    rw [if_neg h0.1, if_neg (show ¬ (r.2.st = 1 ∧ r.2.ky = k) from h0.2)]
    exact hGo_at k l d q (by simpa using h) hf fun m hm r' hr => ha (m + 1) (by omega) r' (by simpa using hr)
theorem Rt.hT {T : List Pl} (h : Rt T) : T.length ≤ 1099511627776 := by have := h.le; omega
theorem Rt.uniq {T : List Pl} (h : Rt T) {i j : Nat} {p q : Pl} {k : Int} (hp : T[i]? = some p) (hq : T[j]? = some q) (h1 : p.full k) (h2 : q.full k) : i = j := by
  have a := h.at_ i p hp h1.1
  have b := h.at_ j q hq h2.1
  rw [h1.2] at a
  rw [h2.2, a] at b
  omega
theorem roadIx_dist {T : List Pl} (k : Int) {i : Nat} (hi : i < T.length) (hm : T.length ≤ 1099511627776) : roadIx T k (dst T k i) = i ∧ dst T k i < T.length ∧ ∀ s, s < dst T k i → roadIx T k s ≠ i := by
  have h0 : 0 < T.length := by omega
  have hh := (home_lt h0 hm k).2
  refine ⟨(dist_iff hh hi (Nat.le_refl _)).2 rfl, dist_lt h0, fun s hs he => ?_⟩
  exact absurd ((dist_iff hh hi (Nat.le_of_lt hs)).1 he) (Nat.ne_of_lt hs)
/-- Found by the road is found from the start. -/
theorem Rt.find {T : List Pl} (h : Rt T) (k : Int) : hFind T k = findL T k := by
  rcases findL_or T k with ⟨h1, h2⟩ | ⟨n, p, hp, hf, h3, h4⟩
  · rw [h1]
    rcases hFind_or T k with h' | ⟨n, p, hp, hf, _⟩
    · exact h'
    · exact absurd hf (h2 p (List.mem_of_getElem? hp))
  · rw [h3]
    have hn := lt_of_get hp
    obtain ⟨e1, e2, e3⟩ := roadIx_dist k hn h.hT
    obtain ⟨p', hp', hr⟩ := roadP_get (k := k) e2
    rw [e1] at hp' hr
    rw [hp] at hp'; cases hp'
    refine hGo_at k (roadP T k) (dst T k n) (n, p) hr hf fun m hm r hr' => ?_
    obtain ⟨q, hq, hr2⟩ := roadP_get (T := T) (k := k) (j := m) (by omega)
    rw [hr2] at hr'; cases hr'
    refine ⟨?_, fun hfq => e3 m hm (h.uniq hq hp hfq hf)⟩
    have := h.road n p hp hf.1 m (by rw [hf.2]; exact hm)
    rw [hf.2, hq] at this
    exact this
theorem Rt.slot {T : List Pl} (h : Rt T) (k : Int) : hSlot T k = slotL T k := by
  unfold hSlot slotL
  rw [h.find k]
  rcases findL_or T k with ⟨h1, _⟩ | ⟨n, p, _, _, h3, _⟩
  · rw [h1]; rfl
  · rw [h3, if_neg (by omega), if_neg (by omega)]
end Go.Proofs.Ytcfbhojpemjjpaa
