/- Plain: puts and drops by what they leave; maps. -/
import Derived.Test.YtcfbhojpemjjpaaPb
set_option linter.unusedVariables false
set_option linter.unusedSimpArgs false
namespace Go.Proofs.Ytcfbhojpemjjpaa
open Go Go.RowKit

theorem Rt.put_ex {T : List Pl} (h : Rt T) (k v : Int) (hs : (look T k).isSome = true ∨ cnt T < T.length) : ∃ T2, putL T k v = (T2, 0) ∧ Rt T2 ∧ T2.length = T.length ∧ (∀ y, look T2 y = if y = k then some v else look T y) ∧ cnt T2 = if (look T k).isSome then cnt T else cnt T + 1 := by
  have h1 : (putL T k v).2 = 0 := by
    rcases h.put_ok k v with ⟨h1, _⟩ | ⟨_, h2, h3⟩
    · exact h1
    · rw [h2] at hs; simp at hs; omega
  exact ⟨(putL T k v).1, by rw [← h1], h.put k v, putL_len T k v, fun y => h.look_put k v y h1, h.put_cnt k v h1⟩
theorem Rt.put_no {T : List Pl} (h : Rt T) (k v : Int) (h1 : look T k = none) (h2 : T.length ≤ cnt T) : putL T k v = (T, 8) := by
  rcases h.put_ok k v with ⟨_, h3⟩ | ⟨h3, _⟩
  · rw [h1] at h3; simp at h3; omega
  · exact h3
theorem Rt.drop_ex {T : List Pl} (h : Rt T) {k v : Int} (hl : look T k = some v) : ∃ T2, dropL T k = (T2, v, 0) ∧ Rt T2 ∧ T2.length = T.length ∧ (∀ y, look T2 y = if y = k then none else look T y) ∧ cnt T2 + 1 = cnt T := by
  have h1 := h.drop_vals k
  rw [hl] at h1
  have h1 : (dropL T k).2 = (v, 0) := h1
  exact ⟨(dropL T k).1, by rw [← h1], h.drop k, dropL_len T k, h.look_drop k, h.drop_cnt k (by rw [hl]; rfl)⟩
theorem Rt.get_some {T : List Pl} (h : Rt T) {k v : Int} (hl : look T k = some v) : getL T k = (v, 0) := by rw [h.get, hl]
theorem Rt.get_none {T : List Pl} (h : Rt T) {k : Int} (hl : look T k = none) : getL T k = (0, 9) := by rw [h.get, hl]
-- sets
def eS (M : List Int) : List (Int × AV) := M.map fun k => (k, .bool true)
theorem eS_get (M : List Int) (n : Int) : mapGet (eS M) n = if n ∈ M then some (.bool true) else none := by
  unfold mapGet eS
  induction M with
  | nil => rfl
  | cons m M ih =>
    rw [List.map_cons, List.find?_cons]
    by_cases h : m = n
    · subst h; simp
    · rw [show (m == n) = false by simpa using h]
      simp only []
      rw [ih]
      have : n ≠ m := fun he => h he.symm
      simp [this]
def sAdd (M : List Int) (n : Int) : List Int := if n ∈ M then M else M ++ [n]
theorem eS_set (M : List Int) (n : Int) : mapSet (eS M) n (.bool true) = eS (sAdd M n) := by
  unfold eS sAdd
  induction M with
  | nil => rfl
  | cons m M ih =>
    rw [List.map_cons, mapSet]
    by_cases h : m = n
    · subst h; simp
    · rw [if_neg h, ih]
      have : n ≠ m := fun he => h he.symm
      by_cases hn : n ∈ M <;> simp [this, hn]
theorem eS_len (M : List Int) : (eS M).length = M.length := List.length_map _
-- maps
def eM (M : List (Int × Int)) : List (Int × AV) := M.map fun q => (q.1, .int .i64 q.2)
def mLook (M : List (Int × Int)) (k : Int) : Option Int := (M.find? fun q => q.1 == k).map (·.2)
theorem eM_get (M : List (Int × Int)) (n : Int) : mapGet (eM M) n = (mLook M n).map (AV.int .i64) := by
  unfold mapGet eM mLook
  induction M with
  | nil => rfl
  | cons m M ih =>
    rw [List.map_cons, List.find?_cons, List.find?_cons]
    cases h : m.1 == n with
    | true => rfl
    | false => exact ih
theorem eM_len (M : List (Int × Int)) : (eM M).length = M.length := List.length_map _
def mSet : List (Int × Int) → Int → Int → List (Int × Int)
  | [], n, v => [(n, v)]
  | p :: l, n, v => if p.1 = n then (n, v) :: l else p :: mSet l n v
def mDel : List (Int × Int) → Int → List (Int × Int)
  | [], _ => []
  | p :: l, n => if p.1 = n then l else p :: mDel l n
theorem eM_set (M : List (Int × Int)) (n v : Int) : mapSet (eM M) n (.int .i64 v) = eM (mSet M n v) := by
  unfold eM
  induction M with
  | nil => rfl
  | cons m M ih =>
    rw [List.map_cons, mapSet, mSet]
    by_cases h : m.1 = n
    · rw [if_pos h, if_pos h]; rfl
    · rw [if_neg h, if_neg h, ih]; rfl
theorem eM_del (M : List (Int × Int)) (n : Int) : mapDel (eM M) n = eM (mDel M n) := by
  unfold eM
  induction M with
  | nil => rfl
  | cons m M ih =>
    rw [List.map_cons, mapDel, mDel]
    by_cases h : m.1 = n
    · rw [if_pos h, if_pos h]
    · rw [if_neg h, if_neg h, ih]; rfl
theorem mLook_cons (p : Int × Int) (M : List (Int × Int)) (k : Int) : mLook (p :: M) k = if p.1 = k then some p.2 else mLook M k := by
  unfold mLook
  rw [List.find?_cons]
  by_cases h : p.1 = k
  · rw [if_pos h, show (p.1 == k) = true by simpa using h]; rfl
  · rw [if_neg h, show (p.1 == k) = false by simpa using h]
theorem mLook_set (M : List (Int × Int)) (n v k : Int) : mLook (mSet M n v) k = if k = n then some v else mLook M k := by
  induction M with
  | nil =>
    rw [mSet, mLook_cons]
    by_cases h : k = n
    · subst h; simp
    · rw [if_neg (fun he => h he.symm), if_neg h]
  | cons p M ih =>
    rw [mSet]
    by_cases hp : p.1 = n
    · rw [if_pos hp, mLook_cons, mLook_cons]
      by_cases h : k = n
      · subst h; simp
      · rw [if_neg (fun he => h he.symm), if_neg h, if_neg (fun he => h (he.symm.trans hp))]
    · rw [if_neg hp, mLook_cons, mLook_cons, ih]
      by_cases h : k = n
      · subst h; rw [if_neg hp, if_pos rfl, if_pos rfl]
      · rw [if_neg h, if_neg h]
theorem mSet_len (M : List (Int × Int)) (n v : Int) : (mSet M n v).length = if (mLook M n).isSome then M.length else M.length + 1 := by
  induction M with
  | nil => rfl
  | cons p M ih =>
    rw [mSet, mLook_cons]
    by_cases hp : p.1 = n
    · rw [if_pos hp, if_pos hp]; rfl
    · rw [if_neg hp, if_neg hp, List.length_cons, ih, List.length_cons]
      split <;> rfl
abbrev mKeys (M : List (Int × Int)) : List Int := M.map (·.1)
theorem mLook_none {M : List (Int × Int)} {k : Int} : mLook M k = none ↔ k ∉ mKeys M := by
  induction M with
  | nil => simp [mLook]
  | cons p M ih =>
    rw [mLook_cons]
    by_cases hp : p.1 = k
    · rw [if_pos hp]; simp [hp]
    · rw [if_neg hp, ih, show mKeys (p :: M) = p.1 :: mKeys M from rfl, List.mem_cons]
      exact ⟨fun h h' => h'.elim (fun he => hp he.symm) h, fun h h' => h (.inr h')⟩
theorem mSet_keys {M : List (Int × Int)} {n v k : Int} (h : k ∈ mKeys (mSet M n v)) : k = n ∨ k ∈ mKeys M := by
  induction M with
  | nil => simp [mSet] at h; exact .inl h
  | cons p M ih =>
    rw [mSet] at h
    by_cases hp : p.1 = n
    · rw [if_pos hp] at h
      simp at h
      rcases h with h | ⟨x, h⟩
      · exact .inl h
      · exact .inr (by simp; exact .inr ⟨x, h⟩)
    · rw [if_neg hp] at h
      rcases List.mem_cons.1 h with h | h
      · exact .inr (by rw [h]; simp)
      · exact (ih h).imp (fun h => h) fun h => List.mem_cons_of_mem _ h
theorem mSet_nodup {M : List (Int × Int)} (h : (mKeys M).Nodup) (n v : Int) : (mKeys (mSet M n v)).Nodup := by
  induction M with
  | nil => simp [mSet]
  | cons p M ih =>
    have h' := List.nodup_cons.1 h
    rw [mSet]
    by_cases hp : p.1 = n
    · rw [if_pos hp]
      refine List.nodup_cons.2 ⟨?_, h'.2⟩
      show n ∉ mKeys M
      rw [← hp]; exact h'.1
    · rw [if_neg hp]
      refine List.nodup_cons.2 ⟨fun hm => ?_, ih h'.2⟩
      rcases mSet_keys hm with h1 | h1
      · exact hp h1
      · exact h'.1 h1
theorem mDel_keys {M : List (Int × Int)} {n k : Int} (h : k ∈ mKeys (mDel M n)) : k ∈ mKeys M := by
  induction M with
  | nil => exact h
  | cons p M ih =>
    rw [mDel] at h
    by_cases hp : p.1 = n
    · rw [if_pos hp] at h; exact List.mem_cons_of_mem _ h
    · rw [if_neg hp] at h
      rcases List.mem_cons.1 h with h | h
      · rw [h]; simp
      · exact List.mem_cons_of_mem _ (ih h)
theorem mDel_nodup {M : List (Int × Int)} (h : (mKeys M).Nodup) (n : Int) : (mKeys (mDel M n)).Nodup := by
  induction M with
  | nil => exact h
  | cons p M ih =>
    have h' := List.nodup_cons.1 h
    rw [mDel]
    by_cases hp : p.1 = n
    · rw [if_pos hp]; exact h'.2
    · rw [if_neg hp]
      exact List.nodup_cons.2 ⟨fun hm => h'.1 (mDel_keys hm), ih h'.2⟩
theorem mLook_del {M : List (Int × Int)} (h : (mKeys M).Nodup) (n k : Int) : mLook (mDel M n) k = if k = n then none else mLook M k := by
  induction M with
  | nil => simp [mDel, mLook]
  | cons p M ih =>
    have h' := List.nodup_cons.1 h
    rw [mDel]
    by_cases hp : p.1 = n
    · rw [if_pos hp, mLook_cons]
      by_cases hk : k = n
      · rw [if_pos hk, mLook_none, hk, ← hp]; exact h'.1
      · rw [if_neg hk, if_neg (fun he => hk (he.symm.trans hp))]
    · rw [if_neg hp, mLook_cons, mLook_cons, ih h'.2]
      by_cases hk : k = n
      · rw [if_pos hk, if_pos hk, if_neg (fun he => hp (he.trans hk))]
      · rw [if_neg hk, if_neg hk]
theorem mDel_len (M : List (Int × Int)) (n : Int) : (mDel M n).length = if (mLook M n).isSome then M.length - 1 else M.length := by
  induction M with
  | nil => rfl
  | cons p M ih =>
    rw [mDel, mLook_cons]
    by_cases hp : p.1 = n
    · rw [if_pos hp, if_pos hp]; rfl
    · rw [if_neg hp, if_neg hp, List.length_cons, ih, List.length_cons]
      split
      · rename_i hs
        have : M ≠ [] := fun he => by subst he; simp [mLook] at hs
        have := List.length_pos_iff.2 this
        omega
      · rfl
end Go.Proofs.Ytcfbhojpemjjpaa
