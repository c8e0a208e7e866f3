/- How the relations go on through a step. -/
import Derived.Test.YtcfbhojpemjjpaaE
set_option linter.unusedVariables false
set_option linter.unusedSimpArgs false
namespace Go.Proofs.Ytcfbhojpemjjpaa
open Go Go.RowKit

theorem get_map {α β : Type} {l : List α} {f : α → β} {i : Nat} {b : β} (h : (l.map f)[i]? = some b) : ∃ a, l[i]? = some a ∧ b = f a := by
  rw [List.getElem?_map] at h
  obtain ⟨a, ha, hb⟩ := Option.map_eq_some_iff.1 h
  exact ⟨a, ha, hb.symm⟩

theorem R0.trav {w : World} {ok : Nat → Prop} (g : AV → AV) {a : AV} {v : Value} (h : R0 w ok a v) : ∀ n, R0 w ok (trav g n a) v := by
  induction h with
  | int k n => intro m; cases m <;> exact .int k n
  | bool b => intro m; cases m <;> exact .bool b
  | fn f hl _ ih =>
    intro m
    cases m with
    | zero => exact .any _
    | succ m => exact .fn f (by simpa using hl) fun i a v ha hv => by obtain ⟨x, hx, rfl⟩ := get_map ha; exact ih i x v hx hv m
  | vptr b off us hb h1 h2 _ => intro m; cases m <;> exact .vptr b off us hb h1 h2
  | sle A c => intro m; cases m <;> exact .sle A c
  | sl b off sz c us hb hcp hz h1 h2 _ => intro m; cases m <;> exact .sl b off sz c us hb hcp hz h1 h2
  | slce A => intro m; cases m <;> exact .slce A
  | slc b off sz us hb hz h1 h2 _ => intro m; cases m <;> exact .slc b off sz us hb hz h1 h2
  | nilsl => intro m; cases m <;> exact .nilsl
  | agg hl _ ih =>
    intro m
    cases m with
    | zero => exact .any _
    | succ m => exact .agg (by simpa using hl) fun i a v ha hv => by obtain ⟨x, hx, rfl⟩ := get_map ha; exact ih i x v hx hv m
  | tup hl _ ih =>
    intro m
    cases m with
    | zero => exact .any _
    | succ m => exact .tup (by simpa using hl) fun i a v ha hv => by obtain ⟨x, hx, rfl⟩ := get_map ha; exact ih i x v hx hv m
  | und => intro m; cases m <;> exact .und
  | any v => intro m; cases m <;> exact .any v

def AV.isRef : AV → Bool
  | .ptr _ _ _ => true
  | .row _ _ _ => true
  | .rowf _ => true
  | .mp _ => true
  | _ => false
theorem trav_ref (g : AV → AV) (n : Nat) {a : AV} (h : a.isRef = true) : trav g n a = g a := by
  cases a <;> simp [AV.isRef] at h <;> cases n <;> rfl

theorem Rel.trav {c d : Cx} {g : AV → AV} (hp : ∀ a v, R0 c.w c.ok a v → R0 d.w d.ok a v) (hy : d.yl = c.yl) (hg : ∀ a v, a.isRef = true → Rel c a v → Rel d (g a) v) {a : AV} {v : Value} (h : Rel c a v) : ∀ n, Rel d (trav g n a) v := by
  induction h with
  | pure h => exact fun n => .pure ((hp _ _ h).trav g n)
  | fn f hl _ ih =>
    intro m
    cases m with
    | zero => exact .pure (.any _)
    | succ m => exact .fn f (by simpa using hl) fun i a v ha hv => by obtain ⟨x, hx, rfl⟩ := get_map ha; exact ih i x v hx hv m
  | agg hl _ ih =>
    intro m
    cases m with
    | zero => exact .pure (.any _)
    | succ m => exact .agg (by simpa using hl) fun i a v ha hv => by obtain ⟨x, hx, rfl⟩ := get_map ha; exact ih i x v hx hv m
  | tup hl _ ih =>
    intro m
    cases m with
    | zero => exact .pure (.any _)
    | succ m => exact .tup (by simpa using hl) fun i a v ha hv => by obtain ⟨x, hx, rfl⟩ := get_map ha; exact ih i x v hx hv m
  | yld l h => intro m; cases m <;> exact .yld l (hy.trans h)
  | ptr h hn => intro m; rw [trav_ref _ _ rfl]; exact hg _ _ rfl (.ptr h hn)
  | row cc o h hn ho hc hl => intro m; rw [trav_ref _ _ rfl]; exact hg _ _ rfl (.row cc o h hn ho hc hl)
  | rown h hn => intro m; rw [trav_ref _ _ rfl]; exact hg _ _ rfl (.rown h hn)
  | rowf h => intro m; rw [trav_ref _ _ rfl]; exact hg _ _ rfl (.rowf h)
  | mp h hn => intro m; rw [trav_ref _ _ rfl]; exact hg _ _ rfl (.mp h hn)

theorem Rel.mono {c d : Cx} (hp : ∀ a v, R0 c.w c.ok a v → R0 d.w d.ok a v) (hy : d.yl = c.yl) (hμ : ∀ i e, c.μ i = some e → d.μ i = some e) {a : AV} {v : Value} (h : Rel c a v) : Rel d a v := by
  induction h with
  | pure h => exact .pure (hp _ _ h)
  | fn f hl _ ih => exact .fn f hl ih
  | agg hl _ ih => exact .agg hl ih
  | tup hl _ ih => exact .tup hl ih
  | yld l h => exact .yld l (hy.trans h)
  | ptr h hn => exact .ptr (hμ _ _ h) hn
  | row cc o h hn ho hc hl => exact .row cc o (hμ _ _ h) hn ho hc hl
  | rown h hn => exact .rown (hμ _ _ h) hn
  | rowf h => exact .rowf (hμ _ _ h)
  | mp h hn => exact .mp (hμ _ _ h) hn

theorem Fr.r0 {c d : Cx} (h : Fr c d) (hg : ∀ b, c.ok b → b < c.w.heap.size ∧ ¬ c.own b) {a : AV} {v : Value} (hr : R0 c.w c.ok a v) : R0 d.w d.ok a v :=
  hr.mono h.mono fun b hb => h.same b (hg b hb).1 (hg b hb).2

theorem ownsRow_keep {w w' : World} {base : Nat} {e : TypeId} {size : Nat} {v : Value} {n : Nat} {xs : List Value} (h : w.ownsRow base e size v n xs)
    (hw : ∀ g m cap, v = .slice (some ⟨g, 0, none⟩) m cap → w'.heap[g]? = w.heap[g]?) : w'.ownsRow base e size v n xs := by
  refine ⟨h.1, ?_⟩
  rcases h.2 with h | ⟨g, cap, cur, rfl, hb, hh, h1⟩
  · exact .inl h
  · exact .inr ⟨g, cap, cur, rfl, hb, by rw [hw _ _ _ rfl]; exact hh, h1⟩

theorem Ent.val_nil {e : Ent} (h : e.nil = true) : e.val = .slice none 0 0 := by simp [Ent.val, h]
theorem Ent.val_at {e : Ent} (h : e.nil = false) : e.val = .slice (some ⟨e.b, 0, none⟩) e.n e.cap := by simp [Ent.val, h]
theorem Ent.val_block {e : Ent} {g m cap : Nat} (h : e.val = .slice (some ⟨g, 0, none⟩) m cap) : e.nil = false ∧ g = e.b ∧ m = e.n ∧ cap = e.cap := by
  cases hn : e.nil
  · rw [Ent.val_at hn] at h
    simp at h
    exact ⟨rfl, h.1.symm, h.2.1.symm, h.2.2.symm⟩
  · rw [Ent.val_nil hn] at h
    simp at h

theorem BlkRel.keep {c d : Cx} {B : Blk} {e : Ent} (h : BlkRel c B e) (hrel : ∀ a v, Rel c a v → Rel d a v) (hr0 : ∀ a v, R0 c.w c.ok a v → R0 d.w d.ok a v)
    (hh : e.nil = false → d.w.heap[e.b]? = c.w.heap[e.b]?) : BlkRel d B e := by
  cases h with
  | box vs hn h1 h2 => exact .box vs hn (by rw [hh hn]; exact h1) (h2.imp fun a b _ => hrel a b)
  | rows vs h1 h2 hs hn hz h0 h3 =>
    refine .rows vs (ownsRow_keep h1 fun g m cap hv => ?_) (h2.imp fun a b _ => hr0 a b) hs hn hz h0 h3
    obtain ⟨hn', rfl, _, _⟩ := Ent.val_block hv
    exact hh hn'
  | map hn ms clock h1 h2 => exact .map hn ms clock (by rw [hh hn]; exact h1) (h2.imp fun a b _ hab => ⟨hab.1, hr0 _ _ hab.2⟩)
/-- The same, names having been turned. -/
theorem BlkRel.turn {c d : Cx} {B : Blk} {e : Ent} (f : AV → AV) (h : BlkRel c B e) (hrel : ∀ a v, Rel c a v → Rel d (f a) v) (hr0 : ∀ a v, R0 c.w c.ok a v → R0 d.w d.ok a v)
    (hh : e.nil = false → d.w.heap[e.b]? = c.w.heap[e.b]?) : BlkRel d (B.map' f) e := by
  cases h with
  | box vs hn h1 h2 => exact .box vs hn (by rw [hh hn]; exact h1) (h2.map f fun a b _ => hrel a b)
  | rows vs h1 h2 hs hn hz h0 h3 =>
    refine .rows vs (ownsRow_keep h1 fun g m cap hv => ?_) (h2.imp fun a b _ => hr0 a b) hs hn hz h0 h3
    obtain ⟨hn', rfl, _, _⟩ := Ent.val_block hv
    exact hh hn'
  | map hn ms clock h1 h2 => exact .map hn ms clock (by rw [hh hn]; exact h1) (h2.imp fun a b _ hab => ⟨hab.1, hr0 _ _ hab.2⟩)
theorem alive_map' (f : AV → AV) (B : Blk) : (B.map' f).alive = B.alive := by cases B <;> rfl
theorem BlkRel.lt {c : Cx} {B : Blk} {e : Ent} (h : BlkRel c B e) (hn : e.nil = false) : e.b < c.w.heap.size := by
  cases h with
  | box vs _ h1 _ => exact (Array.getElem?_eq_some_iff.1 h1).1
  | rows vs h1 _ _ _ _ _ _ =>
    rcases h1.2 with ⟨hv, _⟩ | ⟨g, cap, cur, hv, _, hh, _⟩
    · rw [Ent.val_at hn] at hv
      simp at hv
    · rw [Ent.val_at hn] at hv
      simp at hv
      rw [hv.1]
      exact (Array.getElem?_eq_some_iff.1 hh).1
  | map _ ms clock h1 _ => exact (Array.getElem?_eq_some_iff.1 h1).1
theorem Good.lt {c : Cx} {L : Nat → Blk} (h : Good c L) {b : Nat} (hb : c.own b) : b < c.w.heap.size := by
  obtain ⟨i, e, hi, hn, rfl⟩ := hb
  obtain ⟨e', he', hr⟩ := h.blk i (h.dom i e hi)
  rw [hi] at he'
  cases he'
  exact hr.lt hn

/-- A step, as what an operation does is told. -/
structure Stp (c : Cx) (L : Nat → Blk) (np : Nat) (e : Eff) (v : Value) (d : Cx) : Prop where
  fr : Fr c d
  good : Good d (apL L e)
  tr : ∀ a u, Rel c a u → Rel d (apA L e a) u
  val : Rel d e.v v
  pin : ∀ i, i < np → (apL L e i).alive = true → d.μ i = c.μ i

theorem Stp.pure {c : Cx} {L : Nat → Blk} {np : Nat} {a : AV} {v : Value} {rd : List Nat} (hg : Good c L) (h : Rel c a v) : Stp c L np { v := a, rd := rd } v c :=
  ⟨Fr.refl c, hg, fun _ _ h => h, h, fun _ _ _ => rfl⟩

/-- A block that is told anew. -/
theorem Good.write {c d : Cx} {L : Nat → Blk} (hg : Good c L) {i : Nat} {e e' : Ent} {B : Blk} (hi : c.μ i = some e) (hn : e.nil = false) (hB : B.alive = true)
    (hμ : d.μ = upd c.μ i (some e')) (hb : e'.b = e.b) (hn' : e'.nil = false) (hok : d.ok = c.ok) (hsz : c.w.heap.size ≤ d.w.heap.size) (hh : ∀ b, b ≠ e.b → d.w.heap[b]? = c.w.heap[b]?) (hrel : ∀ a v, Rel c a v → Rel d a v) (hr0 : ∀ a v, R0 c.w c.ok a v → R0 d.w d.ok a v)
    (hnew : BlkRel d B e') : Good d (upd L i B) := by
  have hown : ∀ b, d.own b ↔ c.own b := fun b => by
    constructor
    · rintro ⟨k, x, hk, hx, rfl⟩
      rw [hμ] at hk
      by_cases hki : k = i
      · subst hki
        rw [upd_same] at hk
        cases hk
        exact ⟨k, e, hi, hn, hb.symm⟩
      · rw [upd_ne _ _ hki] at hk
        exact ⟨k, x, hk, hx, rfl⟩
    · rintro ⟨k, x, hk, hx, rfl⟩
      by_cases hki : k = i
      · subst hki
        rw [hi] at hk
        cases hk
        exact ⟨k, e', by rw [hμ, upd_same], hn', hb⟩
      · exact ⟨k, x, by rw [hμ, upd_ne _ _ hki]; exact hk, hx, rfl⟩
  refine ⟨fun k hk => ?_, fun k x hk => ?_, fun k l x y hk hl hx hy hxy => ?_, fun b hb' => ?_⟩
  · by_cases hki : k = i
    · subst hki
      rw [upd_same]
      exact ⟨e', by rw [hμ, upd_same], hnew⟩
    · rw [upd_ne _ _ hki] at hk ⊢
      obtain ⟨x, hx, hr⟩ := hg.blk k hk
      refine ⟨x, by rw [hμ, upd_ne _ _ hki]; exact hx, hr.keep hrel hr0 fun hxn => hh _ fun he => hki (hg.inj _ _ _ _ hx hi hxn hn he)⟩
  · by_cases hki : k = i
    · subst hki
      rw [upd_same]
      exact hB
    · rw [upd_ne _ _ hki]
      rw [hμ, upd_ne _ _ hki] at hk
      exact hg.dom k x hk
  · have key : ∀ k x, d.μ k = some x → x.nil = false → ∃ x', c.μ k = some x' ∧ x'.nil = false ∧ x'.b = x.b := fun k x hk hx => by
      rw [hμ] at hk
      by_cases hki : k = i
      · subst hki
        rw [upd_same] at hk
        cases hk
        exact ⟨e, hi, hn, hb.symm⟩
      · rw [upd_ne _ _ hki] at hk
        exact ⟨x, hk, hx, rfl⟩
    obtain ⟨x', h1, h2, h3⟩ := key k x hk hx
    obtain ⟨y', h4, h5, h6⟩ := key l y hl hy
    exact hg.inj k l x' y' h1 h4 h2 h5 (by rw [h3, h6]; exact hxy)
  · rw [hok] at hb'
    have := hg.okd b hb'
    exact ⟨Nat.lt_of_lt_of_le this.1 hsz, fun ho => this.2 ((hown b).1 ho)⟩
/-- A block more. -/
theorem Good.alloc {c : Cx} {L : Nat → Blk} (hg : Good c L) (o : Obj) {i : Nat} {e : Ent} {B : Blk} (hi : (L i).alive = false) (hB : B.alive = true) (he : e.b = c.w.heap.size) (hn : e.nil = false)
    (hnew : BlkRel ⟨c.w.alloc o, c.ok, upd c.μ i (some e), c.yl⟩ B e) : Good ⟨c.w.alloc o, c.ok, upd c.μ i (some e), c.yl⟩ (upd L i B) ∧ Fr c ⟨c.w.alloc o, c.ok, upd c.μ i (some e), c.yl⟩ ∧
      ∀ a v, Rel c a v → Rel ⟨c.w.alloc o, c.ok, upd c.μ i (some e), c.yl⟩ a v := by
  have hi' : c.μ i = none := by
    cases h : c.μ i with
    | none => rfl
    | some x => have := hg.dom i x h; rw [hi] at this; cases this
  have hold : ∀ b, b < c.w.heap.size → (c.w.alloc o).heap[b]? = c.w.heap[b]? := fun b hb => Below.heap_alloc _ _ _ hb
  have hr0 : ∀ a v, R0 c.w c.ok a v → R0 (c.w.alloc o) c.ok a v := fun a v h => h.mono (fun _ h => h) fun b hb => hold b (hg.okd b hb).1
  have hμ : ∀ k x, c.μ k = some x → upd c.μ i (some e) k = some x := fun k x hk => by
    rw [upd_ne _ _ (fun hki => by subst hki; rw [hi'] at hk; cases hk)]
    exact hk
  have hrel : ∀ a v, Rel c a v → Rel ⟨c.w.alloc o, c.ok, upd c.μ i (some e), c.yl⟩ a v := fun a v h => Rel.mono (d := ⟨c.w.alloc o, c.ok, upd c.μ i (some e), c.yl⟩) hr0 rfl hμ h
  have hcase : ∀ k x, upd c.μ i (some e) k = some x → (k = i ∧ x = e) ∨ (k ≠ i ∧ c.μ k = some x) := fun k x hk => by
    by_cases hki : k = i
    · subst hki
      rw [upd_same] at hk
      cases hk
      exact .inl ⟨rfl, rfl⟩
    · rw [upd_ne _ _ hki] at hk
      exact .inr ⟨hki, hk⟩
  refine ⟨⟨fun k hk => ?_, fun k x hk => ?_, fun k l x y hk hl hx hy hxy => ?_, fun b hb => ?_⟩, ⟨rfl, rfl, rfl, by simp, fun b hb _ => hold b hb, ?_, fun _ h => .inl h, fun _ h => h, rfl⟩, hrel⟩
  · by_cases hki : k = i
    · subst hki
      rw [upd_same]
      exact ⟨e, upd_same _ _ _, hnew⟩
    · rw [upd_ne _ _ hki] at hk ⊢
      obtain ⟨x, hx, hr⟩ := hg.blk k hk
      exact ⟨x, hμ _ _ hx, hr.keep hrel hr0 fun hxn => hold _ (hr.lt hxn)⟩
  · rcases hcase k x hk with ⟨rfl, rfl⟩ | ⟨hki, hk⟩
    · rw [upd_same]
      exact hB
    · rw [upd_ne _ _ hki]
      exact hg.dom k x hk
  · rcases hcase k x hk with ⟨rfl, rfl⟩ | ⟨hki, hk'⟩ <;> rcases hcase l y hl with ⟨rfl, rfl⟩ | ⟨hli, hl'⟩
    · rfl
    · exact absurd (hg.lt ⟨l, y, hl', hy, rfl⟩) (by rw [← hxy, he]; omega)
    · exact absurd (hg.lt ⟨k, x, hk', hx, rfl⟩) (by rw [hxy, he]; omega)
    · exact hg.inj k l x y hk' hl' hx hy hxy
  · have := hg.okd b hb
    refine ⟨by simp; omega, ?_⟩
    rintro ⟨k, x, hk, hx, rfl⟩
    rcases hcase k x hk with ⟨rfl, rfl⟩ | ⟨hki, hk⟩
    · omega
    · exact this.2 ⟨k, x, hk, hx, rfl⟩
  · rintro b ⟨k, x, hk, hx, rfl⟩
    rcases hcase k x hk with ⟨rfl, rfl⟩ | ⟨hki, hk⟩
    · exact .inr (by rw [he]; exact Nat.le_refl _)
    · exact .inl ⟨k, x, hk, hx, rfl⟩
end Go.Proofs.Ytcfbhojpemjjpaa
