/- What the functions compute: Find, Get, Put, Drop, and where they find what. -/
import Derived.Test.YtcfbhojpemjjpaaWe
import Derived.Test.YtcfbhojpemjjpaaWa
set_option linter.unusedVariables false
set_option linter.unusedSimpArgs false
namespace Go.Proofs.Ytcfbhojpemjjpaa
open Go Go.RowKit

def Pl.full (p : Pl) (k : Int) : Prop := p.st = 1 ∧ p.ky = k
instance (p : Pl) (k : Int) : Decidable (p.full k) := inferInstanceAs (Decidable (_ ∧ _))
abbrev pl0 : Pl := ⟨0, 0, 0⟩
theorem findGo_or (k : Int) : ∀ (l : List Pl) (i : Nat), (findGo k l i = -1 ∧ ∀ p ∈ l, ¬ p.full k) ∨ ∃ (n : Nat) (p : Pl), l[n]? = some p ∧ p.full k ∧ findGo k l i = ((i + n : Nat) : Int) ∧ ∀ (m : Nat) (q : Pl), m < n → l[m]? = some q → ¬ q.full k
  | [], i => .inl ⟨rfl, by simp⟩
  | p :: l, i => by
    unfold findGo
    by_cases h : p.st = 1 ∧ p.ky = k
    · rw [if_pos h]
      exact .inr ⟨0, p, rfl, h, by simp, fun m q hm => by omega⟩
    · rw [if_neg h]
      rcases findGo_or k l (i + 1) with ⟨h1, h2⟩ | ⟨n, q, h1, h2, h3, h4⟩
      · refine .inl ⟨h1, fun q hq => ?_⟩
        rcases List.mem_cons.1 hq with rfl | hq
        · exact h
        · exact h2 q hq
      · refine .inr ⟨n + 1, q, by simpa using h1, h2, by rw [h3]; congr 1; omega, fun m r hm hr => ?_⟩
        cases m with
        | zero => simp at hr; subst hr; exact h
        | succ m => exact h4 m r (by omega) (by simpa using hr)
theorem findL_or (T : List Pl) (k : Int) : (findL T k = -1 ∧ ∀ p ∈ T, ¬ p.full k) ∨ ∃ (n : Nat) (p : Pl), T[n]? = some p ∧ p.full k ∧ findL T k = (n : Int) ∧ ∀ (m : Nat) (q : Pl), m < n → T[m]? = some q → ¬ q.full k := by
  rcases findGo_or k T 0 with h | ⟨n, p, h1, h2, h3, h4⟩
  · exact .inl h
  · exact .inr ⟨n, p, h1, h2, by rw [findL, h3]; simp, h4⟩
theorem roadP_mem {T : List Pl} {k : Int} {q : Nat × Pl} (h : q ∈ roadP T k) : T[q.1]? = some q.2 := by
  unfold roadP at h
  obtain ⟨s, hs, rfl⟩ := List.mem_map.1 h
  have hs : s < T.length := by simpa using hs
  have hlt : roadIx T k s < T.length := Nat.mod_lt _ (by omega)
  have hx : T[roadIx T k s]? = some T[roadIx T k s] := List.getElem?_eq_getElem hlt
  simp [hx]
theorem hGo_or (k : Int) : ∀ (l : List (Nat × Pl)), hGo k l = -1 ∨ ∃ q ∈ l, q.2.full k ∧ hGo k l = (q.1 : Int)
  | [] => .inl rfl
  | q :: l => by
    unfold hGo
    split
    · exact .inl rfl
    · split
      · rename_i h
        exact .inr ⟨q, by simp, h, rfl⟩
      · rcases hGo_or k l with h | ⟨r, h1, h2, h3⟩
        · exact .inl h
        · exact .inr ⟨r, by simp [h1], h2, h3⟩
theorem hFind_or (T : List Pl) (k : Int) : hFind T k = -1 ∨ ∃ (n : Nat) (p : Pl), T[n]? = some p ∧ p.full k ∧ hFind T k = (n : Int) := by
  rcases hGo_or k (roadP T k) with h | ⟨q, h1, h2, h3⟩
  · exact .inl h
  · exact .inr ⟨q.1, q.2, roadP_mem h1, h2, h3⟩
def getAt (T : List Pl) (i : Int) : Int × Int := if i < 0 then (0, 9) else ((T[i.toNat]?.getD pl0).vl, 0)
def freeGo : List (Nat × Pl) → Int
  | [] => -1
  | q :: l => if q.2.st ≠ 1 then (q.1 : Int) else freeGo l
def freeL (T : List Pl) (k : Int) : Int := freeGo (roadP T k)
theorem freeGo_or : ∀ (l : List (Nat × Pl)), (freeGo l = -1 ∧ ∀ q ∈ l, q.2.st = 1) ∨ ∃ (n : Nat) (q : Nat × Pl), l[n]? = some q ∧ q.2.st ≠ 1 ∧ freeGo l = (q.1 : Int) ∧ ∀ (m : Nat) (r : Nat × Pl), m < n → l[m]? = some r → r.2.st = 1
  | [] => .inl ⟨rfl, by simp⟩
  | q :: l => by
    unfold freeGo
    by_cases h : q.2.st = 1
    · rw [if_neg (fun hn => hn h)]
      rcases freeGo_or l with ⟨h1, h2⟩ | ⟨n, r, h1, h2, h3, h4⟩
      · refine .inl ⟨h1, fun r hr => ?_⟩
        rcases List.mem_cons.1 hr with rfl | hr
        · exact h
        · exact h2 r hr
      · refine .inr ⟨n + 1, r, by simpa using h1, h2, h3, fun m x hm hx => ?_⟩
        cases m with
        | zero => simp at hx; subst hx; exact h
        | succ m => exact h4 m x (by omega) (by simpa using hx)
    · rw [if_pos h]
      exact .inr ⟨0, q, rfl, h, rfl, fun m r hm => by omega⟩
theorem freeL_or (T : List Pl) (k : Int) : (freeL T k = -1 ∧ ∀ q ∈ roadP T k, q.2.st = 1) ∨ ∃ (n : Nat) (q : Nat × Pl), (roadP T k)[n]? = some q ∧ T[q.1]? = some q.2 ∧ q.2.st ≠ 1 ∧ freeL T k = (q.1 : Int) ∧ ∀ (m : Nat) (r : Nat × Pl), m < n → (roadP T k)[m]? = some r → r.2.st = 1 := by
  rcases freeGo_or (roadP T k) with h | ⟨n, q, h1, h2, h3, h4⟩
  · exact .inl h
  · exact .inr ⟨n, q, h1, roadP_mem (List.mem_of_getElem? h1), h2, h3, h4⟩
def putAt (T : List Pl) (i k v : Int) : List Pl × Int := if i < 0 then (T, 8) else (T.set i.toNat ⟨1, k, v⟩, 0)
def hSlot (T : List Pl) (k : Int) : Int := if hFind T k = -1 then freeL T k else hFind T k
def slotL (T : List Pl) (k : Int) : Int := if findL T k < 0 then freeL T k else findL T k
def dropAt (T : List Pl) (i : Int) : List Pl × Int × Int := if i < 0 then (T, 0, 9) else (T.set i.toNat ⟨2, 0, 0⟩, (T[i.toNat]?.getD pl0).vl, 0)
abbrev eI (n : Int) : AV := .int .i64 n
abbrev eGet (r : Int × Int) : AV := .tup [eI r.1, eI r.2]
abbrev ePut (r : List Pl × Int) : AV := .tup [encT r.1, eI r.2]
abbrev eDrop (r : List Pl × Int × Int) : AV := .tup [encT r.1, eI r.2.1, eI r.2.2]
theorem roomI {n : Nat} (h : n ≤ 1099511627777) : roomy n tInt.by_ := ⟨by decide, by show n * 8 ≤ _; omega⟩
theorem roomP {n : Nat} (h : n ≤ 1099511627777) : roomy n tPl.by_ := ⟨by decide, by show n * 24 ≤ _; omega⟩
theorem roomR {n : Nat} (h : n ≤ 1099511627777) : roomy n tPr.by_ := ⟨by decide, by show n * 16 ≤ _; omega⟩
theorem wN {i : Nat} (j : Nat) (h : i + j ≤ 1000000) : IntKind.i64.wrap ((i : Int) + (j : Int)) = ((i + j : Nat) : Int) := by rw [wrapI (by omega) (by omega)]; omega
theorem get_lt {α : Type} {l : List α} {i : Nat} (h : i < l.length) : ∃ x, l[i]? = some x := ⟨_, List.getElem?_eq_getElem h⟩
theorem lt_of_get {α : Type} {l : List α} {i : Nat} {x : α} (h : l[i]? = some x) : i < l.length := (List.getElem?_eq_some_iff.1 h).1
end Go.Proofs.Ytcfbhojpemjjpaa
