/- Blocks that are frozen, and names that are let go of. -/
import Derived.Test.YtcfbhojpemjjpaaF
set_option linter.unusedVariables false
set_option linter.unusedSimpArgs false
namespace Go.Proofs.Ytcfbhojpemjjpaa
open Go Go.RowKit

theorem flatten_len {α : Type} {sz : Nat} {xs : List (List α)} (h : ∀ x ∈ xs, x.length = sz) : xs.flatten.length = xs.length * sz := by
  induction xs with
  | nil => simp
  | cons x xs ih => simp [ih fun y hy => h y (by simp [hy]), h x (by simp), Nat.succ_mul, Nat.add_comm]
theorem flatten_drop {α : Type} {sz : Nat} : ∀ (o : Nat) {xs : List (List α)} (_ : ∀ x ∈ xs, x.length = sz), (xs.drop o).flatten = xs.flatten.drop (o * sz)
  | 0, xs, _ => by simp
  | o + 1, [], _ => by simp
  | o + 1, x :: xs, h => by
    have hx := h x (by simp)
    have e1 : x.drop (o * sz + sz) = [] := List.drop_of_length_le (by omega)
    have e2 : o * sz + sz - x.length = o * sz := by omega
    rw [List.drop_succ_cons, flatten_drop o fun y hy => h y (by simp [hy]), List.flatten_cons, List.drop_append, Nat.succ_mul, e1, e2]
    simp
theorem flatten_take {α : Type} {sz : Nat} : ∀ (m : Nat) {xs : List (List α)} (_ : ∀ x ∈ xs, x.length = sz), (xs.take m).flatten = xs.flatten.take (m * sz)
  | 0, xs, _ => by simp
  | m + 1, [], _ => by simp
  | m + 1, x :: xs, h => by
    have hx := h x (by simp)
    have e1 : x.take (m * sz + sz) = x := List.take_of_length_le (by omega)
    have e2 : m * sz + sz - x.length = m * sz := by omega
    rw [List.take_succ_cons, List.flatten_cons, flatten_take m fun y hy => h y (by simp [hy]), List.flatten_cons, List.take_append, Nat.succ_mul, e1, e2]
theorem flatten_get {α : Type} {sz : Nat} {xs : List (List α)} (h : ∀ x ∈ xs, x.length = sz) {k : Nat} {x : List α} (hk : xs[k]? = some x) {j : Nat} (hj : j < sz) : xs.flatten[k * sz + j]? = x[j]? := by
  have hx : x ∈ xs := List.mem_of_getElem? hk
  have h1 : (xs.drop k).flatten = x ++ (xs.drop (k + 1)).flatten := by
    obtain ⟨hlt, rfl⟩ := List.getElem?_eq_some_iff.1 hk
    rw [List.drop_eq_getElem_cons hlt, List.flatten_cons]
  rw [flatten_drop k h] at h1
  rw [← List.getElem?_drop, h1, List.getElem?_append_left (by rw [h x hx]; exact hj)]

theorem cell_of {w : World} {b : Nat} {cur : Array Value} {ty : TypeId} {fr : Nat × Nat} (h : w.heap[b]? = some (.cells cur ty fr)) (j : Nat) : w.cell? ⟨b, j, none⟩ = cur[j]? := by
  simp [World.cell?, h]

theorem R0.pur {w : World} {ok : Nat → Prop} (L : Nat → Blk) (l : Nat → Bool) {a : AV} {v : Value} (h : R0 w ok a v) : ∀ n, R0 w ok (pur L l n a) v := by
  induction h with
  | int k n => intro m; cases m <;> exact .int k n
  | bool b => intro m; cases m <;> exact .bool b
  | fn f hl _ ih =>
    intro m
    cases m with
    | zero => exact .any _
    | succ m => exact .fn f (by simpa using hl) fun i a v ha hv => by obtain ⟨x, hx, rfl⟩ := get_map ha; exact ih i x v hx hv m
  | vptr b off us hb h1 h2 _ => intro m; cases m <;> exact .vptr b off us hb h1 h2
  | sle A c => intro m; cases m <;> exact .sle A c
  | sl b off sz c us hb hcp hz h1 h2 _ => intro m; cases m <;> exact .sl b off sz c us hb hcp hz h1 h2
  | slce A => intro m; cases m <;> exact .slce A
  | slc b off sz us hb hz h1 h2 _ => intro m; cases m <;> exact .slc b off sz us hb hz h1 h2
  | nilsl => intro m; cases m <;> exact .sle none 0
  | agg hl _ ih =>
    intro m
    cases m with
    | zero => exact .any _
    | succ m => exact .agg (by simpa using hl) fun i a v ha hv => by obtain ⟨x, hx, rfl⟩ := get_map ha; exact ih i x v hx hv m
  | tup hl _ ih =>
    intro m
    cases m with
    | zero => exact .any _
    | succ m => exact .tup (by simpa using hl) fun i a v ha hv => by obtain ⟨x, hx, rfl⟩ := get_map ha; exact ih i x v hx hv m
  | und => intro m; cases m <;> exact .und
  | any v => intro m; cases m <;> exact .any v

/-- What never changes any more, when the blocks of l are frozen. -/
def okF (c : Cx) (l : Nat → Bool) (b : Nat) : Prop := c.ok b ∨ ∃ i e, l i = true ∧ c.μ i = some e ∧ e.nil = false ∧ e.b = b

theorem rows_at {c : Cx} {ty sz : Nat} {xs : List (List AV)} {e : Ent} (h : BlkRel c (.rows ty sz xs) e) (hn : e.nil = false) :
    ∃ cur vs, c.w.heap[e.b]? = some (.cells cur ty (0, 0)) ∧ F2 (R0 c.w c.ok) xs.flatten vs ∧ e.sz = sz ∧ e.n = xs.length ∧ (∀ x ∈ xs, x.length = sz) ∧ 0 < sz ∧ e.n ≤ e.cap ∧ e.cap ≤ maxLen ∧ cur.size = e.cap * sz ∧ cur.toList.take (e.n * sz) = vs ∧ ∀ v ∈ vs, v.oneCell' = true := by
  cases h with
  | rows vs h1 h2 hs hn' hz h0 h3 =>
    rcases h1.2 with ⟨hv, _⟩ | ⟨g, cap, cur, hv, _, hh, hc, hm, hcs, ht⟩
    · rw [Ent.val_at hn] at hv; simp at hv
    · rw [Ent.val_at hn] at hv
      simp at hv
      obtain ⟨rfl, rfl⟩ := hv
      exact ⟨cur, vs, hh, h2, hs, hn', hz, h0, hc, hm, hcs, ht, h3⟩
theorem rows_nil {c : Cx} {ty sz : Nat} {xs : List (List AV)} {e : Ent} (h : BlkRel c (.rows ty sz xs) e) (hn : e.nil = true) : xs = [] := by
  cases h with
  | rows vs h1 h2 hs hn' hz h0 h3 =>
    rcases h1.2 with ⟨_, h0⟩ | ⟨g, cap, cur, hv, _⟩
    · exact List.eq_nil_of_length_eq_zero (by omega)
    · rw [Ent.val_nil hn] at hv; simp at hv
/-- A part of a slice's array, read. -/
theorem rows_sl {c : Cx} {ty sz : Nat} {xs : List (List AV)} {e : Ent} (h : BlkRel c (.rows ty sz xs) e) (hn : e.nil = false) (o m : Nat) (hom : o + m ≤ e.n) (ok : Nat → Prop) (hb : ok e.b) (hk : ∀ b, c.ok b → ok b) (cc : Nat) (hcc : m ≤ cc) :
    R0 c.w ok (.sl ((xs.drop o).take m)) (.slice (some ⟨e.b, o * e.sz, none⟩) m cc) := by
  obtain ⟨cur, vs, hh, h2, hs, hn', hz, h0, hc, hm, hcs, ht, h3⟩ := rows_at h hn
  have hlen : ((xs.drop o).take m).length = m := by rw [List.length_take, List.length_drop]; omega
  have hz' : ∀ x ∈ (xs.drop o).take m, x.length = sz := fun x hx => hz x (List.mem_of_mem_drop (List.mem_of_mem_take hx))
  have hsz : e.n * sz ≤ cur.size := by rw [hcs]; exact Nat.mul_le_mul_right _ hc
  have hle : o * sz + m * sz ≤ e.n * sz := by rw [← Nat.add_mul]; exact Nat.mul_le_mul_right _ hom
  have h := R0.sl (w := c.w) (ok := ok) (xs := (xs.drop o).take m) e.b (o * e.sz) sz cc (fun j => cur.toList.getD (o * sz + j) undef) hb (by rw [hlen]; exact hcc) hz' ?_ ?_
  · rw [hlen] at h
    exact h
  · intro j hj
    rw [hlen] at hj
    rw [cell_of hh, hs, ← Array.getElem?_toList, List.getD_eq_getElem?_getD, List.getElem?_eq_getElem (by simp; omega)]
    rfl
  · intro j a ha
    have hj : j < m * sz := by
      have := (List.getElem?_eq_some_iff.1 ha).1
      rw [flatten_len hz', hlen] at this
      exact this
    rw [flatten_take m (fun x hx => hz x (List.mem_of_mem_drop hx)), flatten_drop o hz, List.getElem?_take, if_pos hj, List.getElem?_drop] at ha
    obtain ⟨v, hv, hr⟩ := h2.get _ ha
    rw [← ht, List.getElem?_take, if_pos (by omega)] at hv
    rw [List.getD_eq_getElem?_getD, hv]
    exact hr.mono hk fun _ _ => rfl

theorem pur_sound {c : Cx} {L : Nat → Blk} (hg : Good c L) (l : Nat → Bool) : ∀ (n : Nat) (a : AV) (v : Value), Rel c a v → R0 c.w (okF c l) (pur L l n a) v := by
  have hk : ∀ b, c.ok b → okF c l b := fun b h => .inl h
  intro n
  induction n with
  | zero =>
    intro a v h
    cases h with
    | pure h => exact (h.mono hk fun _ _ => rfl).pur L l 0
    | fn f hl h => exact .any _
    | agg hl h => exact .any _
    | tup hl h => exact .any _
    | yld _ h => exact .any _
    | ptr h hn => exact .any _
    | mp h hn => exact .any _
    | rowf h =>
      rename_i i e
      simp only [pur]
      cases hl : l i with
      | false => exact .any _
      | true =>
        obtain ⟨e', he, hr⟩ := hg.blk i (hg.dom i e h)
        rw [h] at he; cases he
        cases hB : L i with
        | rows ty sz xs =>
          rw [hB] at hr
          cases hn : e.nil with
          | true => simp only [cond_true]; rw [rows_nil hr hn, Ent.val_nil hn]; exact .sle none 0
          | false =>
            obtain ⟨cur, vs, _, _, hs, hn', _, _, hcap, _⟩ := rows_at hr hn
            have := rows_sl hr hn 0 e.n (by omega) (okF c l) (.inr ⟨i, e, hl, h, hn, rfl⟩) hk e.cap hcap
            rw [Ent.val_at hn]
            simpa [hn'] using this
        | dead => exact .any _
        | box _ _ => exact .any _
        | map _ _ => exact .any _
    | rown h hn =>
      rename_i i e
      simp only [pur]
      cases hl : l i with
      | false => exact .any _
      | true => cases hB : L i <;> first | exact .any _ | (simp; exact .sle none 0)
    | row cc oo h hn ho hc hl' =>
      rename_i i o m e
      simp only [pur]
      cases hl : l i with
      | false => exact .any _
      | true =>
        obtain ⟨e', he, hr⟩ := hg.blk i (hg.dom i e h)
        rw [h] at he; cases he
        cases hB : L i with
        | rows ty sz xs =>
          rw [hB] at hr
          obtain ⟨_, _, _, _, _, _, _, _, hcap, _⟩ := rows_at hr hn
          rcases ho with rfl | rfl
          · exact rows_sl hr hn o m hl' (okF c l) (.inr ⟨i, e, hl, h, hn, rfl⟩) hk cc (by omega)
          · obtain rfl : m = 0 := by omega
            simp only [cond_true, List.take_zero]
            exact .sle _ 0
        | dead => exact .any _
        | box _ _ => exact .any _
        | map _ _ => exact .any _
  | succ n ih =>
    intro a v h
    cases h with
    | pure h => exact (h.mono hk fun _ _ => rfl).pur L l (n + 1)
    | fn f hl h => exact .fn f (by simpa using hl) fun i a v ha hv => by obtain ⟨x, hx, rfl⟩ := get_map ha; exact ih x v (h i x v hx hv)
    | agg hl h => exact .agg (by simpa using hl) fun i a v ha hv => by obtain ⟨x, hx, rfl⟩ := get_map ha; exact ih x v (h i x v hx hv)
    | tup hl h => exact .tup (by simpa using hl) fun i a v ha hv => by obtain ⟨x, hx, rfl⟩ := get_map ha; exact ih x v (h i x v hx hv)
    | yld _ h => exact .any _
    | mp h hn => exact .any _
    | ptr h hn =>
      rename_i i k j e
      simp only [pur]
      cases hl : l i with
      | false => exact .any _
      | true =>
        obtain ⟨e', he, hr⟩ := hg.blk i (hg.dom i e h)
        rw [h] at he; cases he
        have hb : okF c l e.b := .inr ⟨i, e, hl, h, hn, rfl⟩
        cases hB : L i with
        | rows ty sz xs =>
          rw [hB] at hr
          simp only [cond_true]
          cases hx : xs[k]? with
          | none => exact .any _
          | some x =>
            obtain ⟨cur, vs, hh, h2, hs, hn', hz, h0, hc, hm, hcs, ht, h3⟩ := rows_at hr hn
            have hxl := hz x (List.mem_of_getElem? hx)
            have hkl : k < xs.length := (List.getElem?_eq_some_iff.1 hx).1
            have hsz : e.n * sz ≤ cur.size := by rw [hcs]; exact Nat.mul_le_mul_right _ hc
            have hks : k * sz + sz ≤ e.n * sz := by rw [← Nat.succ_mul]; exact Nat.mul_le_mul_right _ (by omega)
            refine .vptr e.b (k * e.sz + j) (fun q => cur.toList.getD (k * sz + (j + q)) undef) hb (fun q hq => ?_) fun q a ha => ?_
            · rw [List.length_drop, hxl] at hq
              rw [cell_of hh, hs, ← Array.getElem?_toList, List.getD_eq_getElem?_getD, Nat.add_assoc, List.getElem?_eq_getElem (by simp; omega)]
              rfl
            · have hq : j + q < sz := by
                have := (List.getElem?_eq_some_iff.1 ha).1
                rw [List.length_drop, hxl] at this
                omega
              rw [List.getElem?_drop, ← flatten_get hz hx hq] at ha
              obtain ⟨v, hv, hr'⟩ := h2.get _ ha
              rw [← ht, List.getElem?_take, if_pos (by omega)] at hv
              rw [List.getD_eq_getElem?_getD, hv]
              exact hr'.mono hk fun _ _ => rfl
        | box ty cs =>
          rw [hB] at hr
          simp only [cond_true]
          cases k with
          | succ k => exact .any _
          | zero =>
            cases hr with
            | box vs _ hh h2 =>
              have hlen := h2.length
              refine .vptr e.b (0 * e.sz + j) (fun q => vs.getD (j + q) undef) hb (fun q hq => ?_) fun q a ha => ?_
              · rw [List.length_map, List.length_drop] at hq
                rw [cell_of hh, List.getD_eq_getElem?_getD, Nat.zero_mul, Nat.zero_add, List.getElem?_toArray, List.getElem?_eq_getElem (by omega)]
                rfl
              · obtain ⟨x, hx, rfl⟩ := get_map ha
                rw [List.getElem?_drop] at hx
                obtain ⟨v, hv, hr'⟩ := h2.get _ hx
                rw [List.getD_eq_getElem?_getD, hv]
                exact ih x v hr'
        | dead => exact .any _
        | map _ _ => exact .any _
    | rowf h =>
      rename_i i e
      simp only [pur]
      cases hl : l i with
      | false => exact .any _
      | true =>
        obtain ⟨e', he, hr⟩ := hg.blk i (hg.dom i e h)
        rw [h] at he; cases he
        cases hB : L i with
        | rows ty sz xs =>
          rw [hB] at hr
          cases hn : e.nil with
          | true => simp only [cond_true]; rw [rows_nil hr hn, Ent.val_nil hn]; exact .sle none 0
          | false =>
            obtain ⟨cur, vs, _, _, hs, hn', _, _, hcap, _⟩ := rows_at hr hn
            have := rows_sl hr hn 0 e.n (by omega) (okF c l) (.inr ⟨i, e, hl, h, hn, rfl⟩) hk e.cap hcap
            rw [Ent.val_at hn]
            simpa [hn'] using this
        | dead => exact .any _
        | box _ _ => exact .any _
        | map _ _ => exact .any _
    | rown h hn =>
      rename_i i e
      simp only [pur]
      cases hl : l i with
      | false => exact .any _
      | true => cases hB : L i <;> first | exact .any _ | (simp; exact .sle none 0)
    | row cc oo h hn ho hc hl' =>
      rename_i i o m e
      simp only [pur]
      cases hl : l i with
      | false => exact .any _
      | true =>
        obtain ⟨e', he, hr⟩ := hg.blk i (hg.dom i e h)
        rw [h] at he; cases he
        cases hB : L i with
        | rows ty sz xs =>
          rw [hB] at hr
          obtain ⟨_, _, _, _, _, _, _, _, hcap, _⟩ := rows_at hr hn
          rcases ho with rfl | rfl
          · exact rows_sl hr hn o m hl' (okF c l) (.inr ⟨i, e, hl, h, hn, rfl⟩) hk cc (by omega)
          · obtain rfl : m = 0 := by omega
            simp only [cond_true, List.take_zero]
            exact .sle _ 0
        | dead => exact .any _
        | box _ _ => exact .any _
        | map _ _ => exact .any _

/-- The blocks of l are frozen. -/
def Cx.fz (c : Cx) (l : Nat → Bool) : Cx := ⟨c.w, okF c l, fun i => bif l i then none else c.μ i, c.yl⟩
theorem fz_fr (c : Cx) (l : Nat → Bool) : Fr c (c.fz l) :=
  ⟨rfl, rfl, rfl, Nat.le_refl _, fun _ _ _ => rfl, fun b ⟨i, e, h, hn, hb⟩ => .inl ⟨i, e, by
    cases hl : l i <;> simp [Cx.fz, hl] at h
    exact h, hn, hb⟩, fun b h => h.elim .inl fun ⟨i, e, _, h, hn, hb⟩ => .inr (.inl ⟨i, e, h, hn, hb⟩), fun b h => .inl h, rfl⟩
theorem fz_rel {c : Cx} {L : Nat → Blk} (hg : Good c L) (l : List Nat) {a : AV} {v : Value} (h : Rel c a v) : Rel (c.fz (memB l)) (trav (gFz L l) 8 a) v := by
  have h0 : ∀ a v, R0 c.w c.ok a v → R0 (c.fz (memB l)).w (c.fz (memB l)).ok a v := fun a v h => R0.mono (ok' := okF c (memB l)) (fun b hb => Or.inl hb) (fun _ _ => rfl) h
  refine Rel.trav (c := c) (d := c.fz (memB l)) h0 rfl (fun a v hr h => ?_) h 8
  have hp := pur_sound hg (memB l) 8 a v h
  have key : ∀ i, (∀ e, c.μ i = some e → memB l i = false → (c.fz (memB l)).μ i = some e) := fun i e he hl => by simp [Cx.fz, hl, he]
  cases h with
  | pure h => cases h <;> simp [AV.isRef] at hr
  | fn => simp [AV.isRef] at hr
  | agg => simp [AV.isRef] at hr
  | tup => simp [AV.isRef] at hr
  | yld => simp [AV.isRef] at hr
  | ptr h hn =>
    rename_i i k j e
    simp only [gFz]
    cases hl : memB l i with
    | true => exact .pure hp
    | false => exact .ptr (key i e h hl) hn
  | row cc oo h hn ho hc hl' =>
    rename_i i o m e
    simp only [gFz]
    cases hl : memB l i with
    | true => exact .pure hp
    | false => exact .row cc oo (key i e h hl) hn ho hc hl'
  | rown h hn =>
    rename_i i e
    simp only [gFz]
    cases hl : memB l i with
    | true => exact .pure hp
    | false => exact .rown (key i e h hl) hn
  | rowf h =>
    rename_i i e
    simp only [gFz]
    cases hl : memB l i with
    | true => exact .pure hp
    | false => exact .rowf (key i e h hl)
  | mp h hn =>
    rename_i i e
    simp only [gFz]
    cases hl : memB l i with
    | true => exact .pure (.any _)
    | false => exact .mp (key i e h hl) hn
theorem fz_good {c : Cx} {L : Nat → Blk} (hg : Good c L) (l : List Nat) : Good (c.fz (memB l)) (fun i => bif memB l i then .dead else (L i).map' (trav (gFz L l) 8)) := by
  refine ⟨fun i hi => ?_, fun i e hi => ?_, fun i j e e' hi hj hn hn' hb => ?_, fun b hb => ?_⟩
  · cases hl : memB l i with
    | true => simp [hl, Blk.alive] at hi
    | false =>
      simp only [hl, cond_false, alive_map'] at hi ⊢
      obtain ⟨e, he, hr⟩ := hg.blk i hi
      exact ⟨e, by simp [Cx.fz, hl, he], hr.turn (d := c.fz (memB l)) _ (fun a v h => fz_rel hg l h) (fun a v (h : R0 c.w c.ok a v) => (h.mono (ok' := okF c (memB l)) (fun b hb => Or.inl hb) fun _ _ => rfl : R0 c.w (okF c (memB l)) a v)) fun _ => rfl⟩
  · cases hl : memB l i with
    | true => simp [Cx.fz, hl] at hi
    | false =>
      simp [Cx.fz, hl] at hi
      simp only [hl, cond_false, alive_map']
      exact hg.dom i e hi
  · cases hl : memB l i <;> simp [Cx.fz, hl] at hi
    cases hl' : memB l j <;> simp [Cx.fz, hl'] at hj
    exact hg.inj i j e e' hi hj hn hn' hb
  · rcases hb with hb | ⟨i, e, hl, he, hn, rfl⟩
    · refine ⟨(hg.okd b hb).1, fun ⟨i, e, h, hn, hb'⟩ => (hg.okd b hb).2 ⟨i, e, ?_, hn, hb'⟩⟩
      cases hl : memB l i <;> simp [Cx.fz, hl] at h
      exact h
    · refine ⟨hg.lt ⟨i, e, he, hn, rfl⟩, fun ⟨j, e', h, hn', hb'⟩ => ?_⟩
      cases hl' : memB l j <;> simp [Cx.fz, hl'] at h
      have := hg.inj j i e' e h he hn' hn hb'
      subst this
      rw [hl] at hl'
      cases hl'
theorem fz_step {c : Cx} {L : Nat → Blk} (hg : Good c L) (l : List Nat) : ∃ d, d.w = c.w ∧ (∀ b, okF c (memB l) b → d.ok b) ∧ Fr c d ∧ Good d (fzL l L) ∧ (∀ a v, Rel c a v → Rel d (fzA L l a) v) ∧ ∀ i, (fzL l L i).alive = true → d.μ i = c.μ i := by
  cases l with
  | nil => exact ⟨c, rfl, fun b hb => hb.elim (fun h => h) fun ⟨i, e, h, _⟩ => by simp [memB] at h, Fr.refl c, hg, fun _ _ h => h, fun _ _ => rfl⟩
  | cons i l =>
    refine ⟨c.fz (memB (i :: l)), rfl, fun b hb => hb, fz_fr _ _, fz_good hg _, fun a v h => fz_rel hg _ h, fun k hk => ?_⟩
    cases hl : memB (i :: l) k with
    | true => simp [fzL, hl, Blk.alive] at hk
    | false => simp [Cx.fz, hl]
/-- Names of some blocks are let go of; the other ones mean what they did. -/
theorem sc_rel {c d : Cx} (l : List Nat) (hp : ∀ a v, R0 c.w c.ok a v → R0 d.w d.ok a v) (hy : d.yl = c.yl) (hμ : ∀ i e, memB l i = false → c.μ i = some e → d.μ i = some e) {a : AV} {v : Value} (h : Rel c a v) : Rel d (scA l a) v := by
  have hh : Rel d (Ytcfbhojpemjjpaa.trav (gScr l) 8 a) v := by
    refine Rel.trav (c := c) (d := d) hp hy (fun a v hr h => ?_) h 8
    cases h with
    | pure h => cases h <;> simp [AV.isRef] at hr
    | fn => simp [AV.isRef] at hr
    | agg => simp [AV.isRef] at hr
    | tup => simp [AV.isRef] at hr
    | yld => simp [AV.isRef] at hr
    | ptr h hn =>
      rename_i i k j e
      simp only [gScr]
      cases hl : memB l i with
      | true => exact .pure (.any _)
      | false => exact .ptr (hμ i e hl h) hn
    | row cc oo h hn ho hc hl' =>
      rename_i i o m e
      simp only [gScr]
      cases hl : memB l i with
      | true => exact .pure (.any _)
      | false => exact .row cc oo (hμ i e hl h) hn ho hc hl'
    | rown h hn =>
      rename_i i e
      simp only [gScr]
      cases hl : memB l i with
      | true => exact .pure (.any _)
      | false => exact .rown (hμ i e hl h) hn
    | rowf h =>
      rename_i i e
      simp only [gScr]
      cases hl : memB l i with
      | true => exact .pure (.any _)
      | false => exact .rowf (hμ i e hl h)
    | mp h hn =>
      rename_i i e
      simp only [gScr]
      cases hl : memB l i with
      | true => exact .pure (.any _)
      | false => exact .mp (hμ i e hl h) hn
  cases l with
  | nil => exact h.mono hp hy fun i e he => hμ i e rfl he
  | cons i l => exact hh
end Go.Proofs.Ytcfbhojpemjjpaa
