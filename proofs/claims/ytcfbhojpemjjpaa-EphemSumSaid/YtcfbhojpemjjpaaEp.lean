/- Plain: what is owned, what goes. -/
import Derived.Test.YtcfbhojpemjjpaaEb
set_option linter.unusedVariables false
set_option linter.unusedSimpArgs false
namespace Go.Proofs.Ytcfbhojpemjjpaa
open Go Go.RowKit

theorem pairsL_cnt (T : List Pl) : (pairsL T).length = cnt T := by
  unfold pairsL fullT cnt
  rw [List.length_map, List.countP_eq_length_filter]
theorem ownedL_eq (T : List Pl) (w : Int) : ownedL T w = T.countP fun p => p.st == 1 && owns w p.pr := by
  unfold ownedL pairsL fullT
  rw [List.countP_map, List.countP_filter]
  refine List.countP_congr fun p _ => ?_
  simp [and_comm]
theorem countP_set {T : List Pl} {n : Nat} {q r : Pl} (f : Pl → Bool) (hq : T[n]? = some q) : (T.set n r).countP f + (if f q then 1 else 0) = T.countP f + (if f r then 1 else 0) := by
  obtain ⟨hn, rfl⟩ := List.getElem?_eq_some_iff.1 hq
  have e : T = T.take n ++ T[n] :: T.drop (n + 1) := by rw [← List.drop_eq_getElem_cons hn, List.take_append_drop]
  have e' : T.set n r = T.take n ++ r :: T.drop (n + 1) := by rw [List.set_eq_take_append_cons_drop, if_pos hn]
  rw [e']
  conv => rhs; rw [e]
  simp only [List.countP_append, List.countP_cons]
  omega
theorem Rt.put_owned {T : List Pl} (h : Rt T) (k v w : Int) (hs : (putL T k v).2 = 0) : ownedL (putL T k v).1 w + (match look T k with | some u => if owns w (k, u) then 1 else 0 | none => 0) = ownedL T w + (if owns w (k, v) then 1 else 0) := by
  rw [ownedL_eq, ownedL_eq]
  revert hs
  unfold putL putAt
  rcases h.slot_or k with ⟨h1, _⟩ | ⟨n, hn, h1, h2, h3, h4⟩
  · rw [h1, if_pos (by decide)]; intro hs; simp at hs
  · rw [h1, if_neg (by omega)]
    intro _
    simp only [Int.toNat_natCast]
    rcases h4 with ⟨p, hp, hpf⟩ | ⟨ha, p, hp, hps⟩
    · rw [h.look_some hp hpf]
      have := countP_set (r := ⟨1, k, v⟩) (fun p => p.st == 1 && owns w p.pr) hp
      simp only [hpf.1, beq_self_eq_true, Bool.true_and, Pl.pr, hpf.2] at this
      exact this
    · rw [look_none ha]
      have := countP_set (r := ⟨1, k, v⟩) (fun p => p.st == 1 && owns w p.pr) hp
      rw [if_neg (by simp [hps])] at this
      simpa [Pl.pr] using this
theorem old_look {T : List Pl} (h : Rt T) (k : Int) : (getL T k).1 = match look T k with | some v => v | none => 0 := by
  rw [h.get]
  cases look T k <;> rfl
/-- A pair that is set. -/
theorem Rt.set_owns {T : List Pl} (h : Rt T) (k v : Int) (hv : v ≠ 0) : ((setL T k v).2.2 ≠ 0 ∧ (setL T k v).1 = T) ∨
    ((setL T k v).2.2 = 0 ∧ ((setL T k v).2.1 = v → ownedL (setL T k v).1 v = ownedL T v) ∧ ((setL T k v).2.1 ≠ v → ownedL (setL T k v).1 v = ownedL T v + 1) ∧ ((setL T k v).2.1 ≠ v → (setL T k v).2.1 ≠ 0 → ownedL (setL T k v).1 (setL T k v).2.1 + 1 = ownedL T (setL T k v).2.1)) := by
  unfold setL
  by_cases h1 : k = 0
  · rw [if_pos h1]; exact .inl ⟨by simp, rfl⟩
  · rw [if_neg h1, if_neg hv]
    rcases h.put_2 k v with h2 | h2
    · rw [if_pos h2]
      right
      simp only [ne_eq, not_true_eq_false, true_and]
      have hp := fun w => h.put_owned k v w h2
      have ho := old_look h k
      cases hl : look T k with
      | none =>
        rw [hl] at ho
        simp only [hl, Nat.add_zero] at hp
        have ho : (getL T k).1 = 0 := ho
        rw [ho]
        refine ⟨fun he => absurd he.symm hv, fun _ => ?_, fun _ hn => absurd rfl hn⟩
        rw [hp v, if_pos (by simp [owns, hv])]
      | some u =>
        rw [hl] at ho
        have ho : (getL T k).1 = u := ho
        simp only [hl] at hp
        rw [ho]
        refine ⟨fun he => ?_, fun hne => ?_, fun hne hu => ?_⟩
        · subst he
          have := hp u
          omega
        · have := hp v
          rw [if_neg (by simp [owns, hne]), if_pos (by simp [owns, hv])] at this
          omega
        · have := hp u
          rw [if_pos (by simp [owns, hu]), if_neg (by simp [owns]; intro _ he; exact hne he.symm)] at this
          omega
    · rw [if_neg (by rw [h2]; simp)]
      exact .inl ⟨by simp, rfl⟩
/-- What goes without some keys. -/
structure Wo (T : List Pl) (l o : List Int) (r : List Pl × List Int) : Prop where
  rt : Rt r.1
  look : ∀ y, look r.1 y = if y ∈ l then none else look T y
  cnt : cnt r.1 + r.2.length = cnt T + o.length
  had : ∀ y v, y ∈ l → Go.Proofs.Ytcfbhojpemjjpaa.look T y = some v → v ∈ r.2
  sub : ∀ v ∈ o, v ∈ r.2
theorem woGo_tells : ∀ (l : List Int) (T : List Pl) (o : List Int), Rt T → Wo T l o (woGo l T o)
  | [], T, o, h => ⟨h, fun y => by simp [woGo], rfl, fun y v hy => by simp at hy, fun v hv => hv⟩
  | k :: l, T, o, h => by
    unfold woGo
    cases hl : look T k with
    | none =>
      have ih := woGo_tells l T o h
      refine ⟨ih.rt, fun y => ?_, ih.cnt, fun y v hy hv => ?_, ih.sub⟩
      · rw [ih.look]
        by_cases hy : y = k
        · subst hy; simp [hl]
        · simp [hy]
      · rcases List.mem_cons.1 hy with rfl | hy
        · rw [hl] at hv; cases hv
        · exact ih.had y v hy hv
    | some v0 =>
      obtain ⟨B, hB, hBr, _, hBk, hBc⟩ := h.drop_ex hl
      simp only [hB]
      have ih := woGo_tells l B (o ++ [v0]) hBr
      refine ⟨ih.rt, fun y => ?_, ?_, fun y v hy hv => ?_, fun v hv => ih.sub v (by simp [hv])⟩
      · rw [ih.look, hBk]
        by_cases hy : y = k
        · subst hy; simp
        · simp [hy]
      · have := ih.cnt
        rw [List.length_append] at this
        simp only [List.length_cons, List.length_nil] at this
        omega
      · by_cases hyk : y = k
        · subst hyk
          rw [hl] at hv; cases hv
          exact ih.sub v0 (by simp)
        · rcases List.mem_cons.1 hy with rfl | hy
          · exact absurd rfl hyk
          · exact ih.had y v hy (by rw [hBk, if_neg hyk]; exact hv)
theorem times_pos {l : List Int} {v : Int} (hv : v ≠ 0) (h : v ∈ l) : 0 < timesL l v := by
  unfold timesL
  rw [List.countP_pos_iff]
  exact ⟨v, h, by simp [hv]⟩
-- the sum
abbrev nz (q : Pr) : Bool := q.2 != 0
def seen (l : List Pr) (i : Nat) (q : Pr) : Bool := q.2 != 0 && (l.take i).any (fun r => r.2 == q.2)
theorem seen_zero (l : List Pr) : l.countP (seen l 0) = 0 := by
  rw [List.countP_eq_zero]
  intro q _
  simp [seen]
theorem seen_all (l : List Pr) : l.countP (seen l l.length) = l.countP nz := by
  refine List.countP_congr fun q hq => ?_
  simp only [seen, List.take_length, Bool.and_eq_true, List.any_eq_true, nz]
  exact ⟨fun h => h.1, fun h => ⟨h, q, hq, by simp⟩⟩
theorem any_snoc {l : List Pr} {i : Nat} {q : Pr} (h : l[i]? = some q) (f : Pr → Bool) : (l.take (i + 1)).any f = ((l.take i).any f || f q) := by
  obtain ⟨h1, rfl⟩ := List.getElem?_eq_some_iff.1 h
  rw [List.take_succ_eq_append_getElem h1, List.any_append]
  simp
theorem seen_same {l : List Pr} {i : Nat} {q : Pr} (h : l[i]? = some q) (hs : q.2 = 0 ∨ (l.take i).any (fun r => r.2 == q.2) = true) : l.countP (seen l (i + 1)) = l.countP (seen l i) := by
  refine List.countP_congr fun r _ => ?_
  simp only [seen, any_snoc h]
  by_cases hr : q.2 = r.2
  · rcases hs with hs | hs
    · rw [← hr, hs]; simp
    · rw [← hr, hs]; simp
  · simp [hr]
theorem seen_new {l : List Pr} {i : Nat} {q : Pr} (h : l[i]? = some q) (h0 : q.2 ≠ 0) (hs : (l.take i).any (fun r => r.2 == q.2) = false) : l.countP (seen l (i + 1)) = l.countP (seen l i) + l.countP (owns q.2) := by
  have key : ∀ m : List Pr, m.countP (seen l (i + 1)) = m.countP (seen l i) + m.countP (owns q.2) := by
    intro m
    induction m with
    | nil => rfl
    | cons r m ih =>
      rw [List.countP_cons, List.countP_cons, List.countP_cons, ih]
      have e1 : seen l (i + 1) r = (seen l i r || owns q.2 r) := by
        simp only [seen, owns, any_snoc h]
        by_cases hr : r.2 = q.2
        · simp [hr, hs, h0]
        · have hr' : ¬ q.2 = r.2 := fun he => hr he.symm
          have b1 : (q.2 == r.2) = false := beq_eq_false_iff_ne.2 hr'
          have b2 : (r.2 == q.2) = false := beq_eq_false_iff_ne.2 hr
          rw [b1, b2, Bool.or_false, Bool.and_false, Bool.or_false]
      have e2 : ¬ (seen l i r = true ∧ owns q.2 r = true) := by
        rintro ⟨g1, g2⟩
        have g2 : q.2 ≠ 0 ∧ r.2 = q.2 := by simpa [owns] using g2
        have g1 : (r.2 != 0 && (l.take i).any fun x => x.2 == r.2) = true := g1
        rw [g2.2, hs] at g1
        simp at g1
      have e : (if seen l (i + 1) r = true then 1 else 0) = (if seen l i r = true then 1 else 0) + (if owns q.2 r = true then 1 else 0) := by
        rw [e1]
        cases g1 : seen l i r <;> cases g2 : owns q.2 r <;> simp_all
      omega
  exact key l
end Go.Proofs.Ytcfbhojpemjjpaa
