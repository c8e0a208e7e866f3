/- Part 7 of the walk that the law rests on: Fv, Fw, Fx, Fy, Fz, Ga, Gb, Gc, Gd, Ge, Gg, AA. -/
import Derived.Test.YtcmciimogcfakaaM6
import Derived.Sort.OwnSortedInts
/- store.Live: the sort's contract . -/
set_option linter.unusedVariables false
set_option linter.unusedSimpArgs false
namespace Go.Proofs.Ytcmciimogcfakaa
open Go Go.RowKit
open Classical

theorem putCells_map {α : Type} [Inhabited α] (f : α → Int) (d : Array α) (cur : Array Value) : Go.Sort.putCells (fun x => Value.int .i64 (f x)) 0 d cur = Go.Sort.putCells (Value.int .i64) 0 (d.map f) cur := by
  unfold Go.Sort.putCells
  congr 1
  funext k x
  simp only [Array.size_map, Nat.zero_le, true_and, Nat.zero_add, Nat.sub_zero]
  split
  · rename_i h
    rw [getElem!_pos d k h, getElem!_pos (d.map f) k (by simpa using h), Array.getElem_map]
  · rfl
theorem putRow_map {α : Type} [Inhabited α] (f : α → Int) (d : Array α) (w : World) (g : Nat) : Go.Sort.putRow (fun x => Value.int .i64 (f x)) w g 0 d = Go.Sort.putRow (Value.int .i64) w g 0 (d.map f) := by
  unfold Go.Sort.putRow
  congr 1
  funext c
  exact putCells_map f d c
theorem grow_of {W W' : World} (h1 : W'.os = W.os) (h2 : W'.tape = W.tape) (h3 : W'.output = W.output) (h4 : W.heap.size ≤ W'.heap.size) (h5 : ∀ b, b < W.heap.size → W'.heap[b]? = W.heap[b]?) (h6 : W.drawn ≤ W'.drawn) : ∃ q os', W' = Go.Sort.grow (W.drewN q) os' := by
  refine ⟨W'.drawn - W.drawn, W'.heap.extract W.heap.size W'.heap.size, ?_⟩
  obtain ⟨hp, tp, dr, os, ou⟩ := W
  obtain ⟨hp', tp', dr', os', ou'⟩ := W'
  simp only at h1 h2 h3 h4 h5 h6
  subst h1 h2 h3
  unfold Go.Sort.grow World.drewN
  simp only [World.mk.injEq, and_true, true_and]
  refine ⟨?_, by omega⟩
  apply Array.ext_getElem?
  intro i
  by_cases hi : i < hp.size
  · rw [h5 i hi, Array.getElem?_append_left hi]
  · rw [Array.getElem?_append_right (by omega), Array.getElem?_extract]
    by_cases hj : i < hp'.size
    · rw [if_pos (by omega)]
      congr 1
      omega
    · rw [if_neg (by omega), Array.getElem?_eq_none (by omega)]
theorem cmp_lays {cs : List Ce} {la sr : Int} {c : Cx} {cb : Value} {X : List Nat} [Inhabited {i : Nat // i ∈ X}] (hX : ∀ i ∈ X, ∃ ce, cs[i]? = some ce) (hp : R0 c.w c.ok (.vptr [encC cs, eI la, eI sr]) cb) {g n : Nat} (hg : ¬ c.ok g) (hokd : ∀ b, c.ok b → b < c.w.heap.size) :
    CmpLays1 Try.prog 68 #[cb] (fun x : {i : Nat // i ∈ X} => Value.int .i64 ((x.val : Nat) : Int)) (fun x y => cmpI (seA cs x.val) (seA cs y.val)) g 0 n c.w := by
  intro m os dk hs x y
  obtain ⟨cx, hcx⟩ := hX x.val x.property
  obtain ⟨cy, hcy⟩ := hX y.val y.property
  unfold sortWorld
  rw [putRow_map (fun x : {i : Nat // i ∈ X} => ((x.val : Nat) : Int))]
  have hgr := grownBy_sortedI (w := c.w) (g := g) (n := m) (os := os) (dk.map fun x : {i : Nat // i ∈ X} => ((x.val : Nat) : Int))
  generalize Go.Sort.grow (Go.Sort.putRow (Value.int .i64) (Go.Sort.ahead c.w m) g 0 (dk.map fun x : {i : Nat // i ∈ X} => ((x.val : Nat) : Int))) os = W at hgr ⊢
  have hp' : R0 W c.ok (.vptr [encC cs, eI la, eI sr]) cb := R0.mono (fun _ h => h) (fun b hb => hgr.block b (hokd b hb) (fun e => hg (by cases e; exact hb))) hp
  have hc := c_live1 cs la sr hcx hcy
  refine (callsIn_wide (n := 0)).1 ((hc.2 ⟨W, c.ok, fun _ => none, none⟩ [.int .i64 (x.val : Int), .int .i64 (y.val : Int), cb] (good_nil (fun b hb => Nat.lt_of_lt_of_le (hokd b hb) hgr.size) fun _ => rfl) (.cons (.pure (.int _ _)) (.cons (.pure (.int _ _)) (.cons (.pure hp') .nil)))).mono ?_)
  rintro e w' ⟨v, d, rfl, rfl, hf, _, hr, _⟩
  show Ending.returned v = Ending.returned (Value.int .i64 (cmpI (seA cs x.val) (seA cs y.val))) ∧ _
  rw [seA_of hcx, seA_of hcy]
  refine ⟨by rw [hr.int_inv], grow_of hf.os hf.tape hf.output hf.size (fun b hb => hf.same b hb fun ⟨i, e, he, _⟩ => (by cases he)) hf.drn⟩
end Go.Proofs.Ytcmciimogcfakaa

/- store.Live: the sort. -/
set_option linter.unusedVariables false
set_option linter.unusedSimpArgs false
namespace Go.Proofs.Ytcmciimogcfakaa
open Go Go.RowKit
open Classical

theorem ints_of {w : World} {ok : Nat → Prop} : ∀ {X : List Nat} {vs : List Value}, F2 (R0 w ok) (X.map fun i : Nat => [eI (i : Int)]).flatten vs → vs = (X.map fun i : Nat => (i : Int)).map (Value.int .i64)
  | [], vs, h => by cases h; rfl
  | i :: X, vs, h => by
    rw [List.map_cons, List.flatten_cons] at h
    cases h with
    | cons h1 h2 =>
      cases h1
      rw [List.map_cons, List.map_cons, ← ints_of h2]
theorem lt_cmp {x y : Int} : decide (cmpI x y < 0) = decide (x < y) := by
  unfold cmpI
  split
  · simp [*]
  · split <;> simp [*]
theorem swo_se (cs : List Ce) (X : List Nat) : Go.Sort.SWO (ltOf fun x y : {i : Nat // i ∈ X} => cmpI (seA cs x.val) (seA cs y.val)) := by
  refine ⟨fun x => ?_, fun x y z => ?_, fun x y z => ?_⟩ <;> simp only [ltOf, lt_cmp, decide_eq_true_eq, decide_eq_false_iff_not] <;> omega
/-- What the sort leaves. -/
theorem sorted_is {cs : List Ce} (hU : Un cs) {d : List {i : Nat // i ∈ inIx 1 cs 0}} (hp : d.Perm (inIx 1 cs 0).attach) (hs : d.Pairwise fun x y => (!(ltOf fun x y : {i : Nat // i ∈ inIx 1 cs 0} => cmpI (seA cs x.val) (seA cs y.val)) y x) = true) : d.map (·.val) = liveX cs := by
  have h0 : (inIx 1 cs 0).attach.map (·.val) = inIx 1 cs 0 := List.attach_map_subtype_val _
  have hp' : (d.map (·.val)).Perm (inIx 1 cs 0) := by
    have := hp.map (·.val)
    rwa [h0] at this
  refine liveX_of hU hp' ?_
  have hn : (d.map (·.val)).Nodup := hp'.symm.nodup ((inIx_nodup 1 cs 0).imp fun h => by omega)
  have h1 : (d.map (·.val)).Pairwise fun a b => seA cs a ≤ seA cs b := by
    rw [List.pairwise_map]
    refine hs.imp fun {x y} h => ?_
    simp only [ltOf, lt_cmp, Bool.not_eq_true', decide_eq_false_iff_not] at h
    omega
  refine (h1.and hn).imp_of_mem fun {a b} ha hb h => ?_
  have := seA_ne hU (hp'.subset ha) (hp'.subset hb) h.2
  have := h.1
  omega
theorem sort_at (cs : List Ce) (la sr : Int) (hU : Un cs) (hR : Rs cs) {c : Cx} {B : Blk} (hg : Good c (lk [B])) {e : Ent} (hμ : c.μ 0 = some e) (hnil : e.nil = false) {cb : Value} (hcb : R0 c.w c.ok (.vptr [encC cs, eI la, eI sr]) cb) (hX : inIx 1 cs 0 ≠ [])
    {cur : Array Value} (hh : c.w.heap[e.b]? = some (.cells cur 3 (0, 0))) (htk : cur.toList.take e.n = (inIx 1 cs 0).map fun i : Nat => Value.int .i64 (i : Int)) (hn : e.n = (inIx 1 cs 0).length) (hsz : e.sz = 1) (hmx : e.cap ≤ maxLen) (hnc : e.n ≤ e.cap) (hcs : cur.size = e.cap) :
    CallsIn Fence.wide 0 Try.prog 67 [e.val, Value.func (.func 68) #[] [cb].toArray].toArray c.w fun x w' => ∃ v d, d.w = w' ∧ x = .returned v ∧ Fr c d ∧ Good d (lk [.rows 3 1 ((liveX cs).map fun i : Nat => [eI (i : Int)])]) ∧ Rel d (.tup []) v ∧ ∀ i, i < 1 → (lk [.rows 3 1 ((liveX cs).map fun i : Nat => [eI (i : Int)])] i).alive = true → d.μ i = c.μ i := by
  obtain ⟨i0, hi0⟩ := List.exists_mem_of_ne_nil _ hX
  haveI : Inhabited {i : Nat // i ∈ inIx 1 cs 0} := ⟨⟨i0, hi0⟩⟩
  have hown : c.own e.b := ⟨0, e, hμ, hnil, rfl⟩
  have hg0 : ¬ c.ok e.b := fun h => (hg.okd _ h).2 hown
  have hXc : ∀ i ∈ inIx 1 cs 0, ∃ ce, cs[i]? = some ce := fun i hi => by
    obtain ⟨_, ce, hc, _⟩ := inIx_mem.1 hi
    exact ⟨ce, by simpa using hc⟩
  obtain ⟨ce0', hce0⟩ := hXc i0 hi0
  have hblk : e.b < c.w.heap.size := (Array.getElem?_eq_some_iff.1 hh).1
  have hlen : (inIx 1 cs 0).length ≤ 24 := Nat.le_trans (inIx_len 1 cs 0) hR.hl
  have hsize : (inIx 1 cs 0).attach.toArray.size = e.n := by rw [hn]; simp
  have hmap : (inIx 1 cs 0).attach.map (fun x => ((x.val : Nat) : Int)) = (inIx 1 cs 0).map fun i : Nat => (i : Int) := by
    conv => rhs; rw [← List.attach_map_subtype_val (inIx 1 cs 0)]
    rw [List.map_map]
    rfl
  have hH : Go.Sort.Holds (fun x : {i : Nat // i ∈ inIx 1 cs 0} => Value.int .i64 ((x.val : Nat) : Int)) c.w e.b 0 (inIx 1 cs 0).attach.toArray := by
    have h1 := holds_of_blockI (ss := (inIx 1 cs 0).map fun i : Nat => (i : Int)) hh (by rw [List.length_map, ← hn, htk, List.map_map]; rfl)
    intro j hj
    have hj' : j < (inIx 1 cs 0).length := by simpa using hj
    have := h1 j (by simpa using hj')
    rw [getElem!_pos _ j hj]
    rw [getElem!_pos _ j (by simpa using hj')] at this
    simpa using this
  have hS := Any.slices_SortFunc_total (P := Try.prog) (ρ := sortL_ren) sortL (fun x : {i : Nat // i ∈ inIx 1 cs 0} => Value.int .i64 ((x.val : Nat) : Int)) (fun _ => rfl) (fun x y => cmpI (seA cs x.val) (seA cs y.val)) (swo_se cs _) 68 #[cb] e.b 0 e.cap (inIx 1 cs 0).attach.toArray c.w (c_live1 cs la sr hce0 hce0).1 (cmp_lays hXc hcb hg0 fun b hb => (hg.okd b hb).1) hH hblk (by rw [hsize]; omega) (fun x y h1 h2 => by
    simp only [ltOf, lt_cmp, decide_eq_false_iff_not] at h1 h2
    by_cases hxy : x.val = y.val
    · exact Subtype.ext hxy
    · exact absurd (show seA cs x.val = seA cs y.val by omega) (seA_ne hU x.property y.property hxy))
  rw [Ent.val_at hnil]
  rw [hsize] at hS
  refine (callsIn_wide (n := 0)).2 (hS.mono ?_)
  rintro x w' ⟨rfl, n, os, rfl⟩
  have hl := sorted_is hU (List.mergeSort_perm (inIx 1 cs 0).attach _) (List.pairwise_mergeSort (le := fun x y => !(ltOf fun x y : {i : Nat // i ∈ inIx 1 cs 0} => cmpI (seA cs x.val) (seA cs y.val)) y x) (fun a b c h1 h2 => by
    simp only [ltOf, lt_cmp, Bool.not_eq_true', decide_eq_false_iff_not] at h1 h2 ⊢
    omega) (fun a b => by
    simp only [ltOf, lt_cmp, Bool.or_eq_true, Bool.not_eq_true', decide_eq_false_iff_not]
    omega) _)
  unfold sortWorld
  rw [putRow_map (fun x : {i : Nat // i ∈ inIx 1 cs 0} => ((x.val : Nat) : Int))]
  have ed : ((inIx 1 cs 0).attach.toArray.toList.mergeSort fun x y => !(ltOf fun x y : {i : Nat // i ∈ inIx 1 cs 0} => cmpI (seA cs x.val) (seA cs y.val)) y x).toArray.map (fun x : {i : Nat // i ∈ inIx 1 cs 0} => ((x.val : Nat) : Int)) = ((liveX cs).map fun i : Nat => (i : Int)).toArray := by
    rw [← hl, List.map_map]
    simp
  rw [ed]
  have hgr := grownBy_sortedI (w := c.w) (g := e.b) (n := n) (os := os) ((liveX cs).map fun i : Nat => (i : Int)).toArray
  have hll : (liveX cs).length = (inIx 1 cs 0).length := (liveX_perm cs).length_eq
  have how := ownsRow_sortedI (w := c.w) (base := 0) (n := n) (os := os) (ss := (inIx 1 cs 0).map fun i : Nat => (i : Int)) (ts := (liveX cs).map fun i : Nat => (i : Int)) (by simp [hll]) (Nat.zero_le _) hh (cap := e.cap) (by simp; omega) hmx (by omega)
  have hdr : c.w.drawn ≤ (Go.Sort.grow (Go.Sort.putRow (Value.int .i64) (Go.Sort.ahead c.w n) e.b 0 ((liveX cs).map fun i : Nat => (i : Int)).toArray) os).drawn := Nat.le_add_right _ _
  generalize Go.Sort.grow (Go.Sort.putRow (Value.int .i64) (Go.Sort.ahead c.w n) e.b 0 ((liveX cs).map fun i : Nat => (i : Int)).toArray) os = W at hgr how hdr ⊢
  have hsame : ∀ b, b < c.w.heap.size → b ≠ e.b → W.heap[b]? = c.w.heap[b]? := fun b hb hne => hgr.block b hb (fun h => hne (by cases h; rfl))
  have hr0 : ∀ a v, R0 c.w c.ok a v → R0 W c.ok a v := fun a v h => h.mono (fun _ h => h) fun b hb => hsame b (hg.okd b hb).1 fun h => hg0 (h ▸ hb)
  refine ⟨_, ⟨W, c.ok, c.μ, c.yl⟩, rfl, rfl, ⟨hgr.os, hgr.tape, hgr.output, hgr.size, fun b hb hno => hsame b hb fun h => hno (h ▸ hown), fun b hb => .inl hb, fun b hb => .inl hb, fun b hb => hb, rfl, hdr⟩, ⟨fun i hi => ?_, fun i e' he' => ?_, hg.inj, fun b hb => ⟨Nat.lt_of_lt_of_le (hg.okd b hb).1 hgr.size, (hg.okd b hb).2⟩⟩, .tup (vs := []) rfl (by simp), fun i _ _ => rfl⟩
  · cases i with
    | succ i => simp [lk, Blk.alive] at hi
    | zero =>
      refine ⟨e, hμ, .rows (((liveX cs).map fun i : Nat => (i : Int)).map (Value.int .i64)) ?_ ?_ hsz (by rw [hn, List.length_map, hll]) (by simp) (by decide) (by simp [Value.oneCell'])⟩
      · rw [Ent.val_at hnil, hn]
        simpa using how
      · rw [List.map_map]
        have : ∀ X : List Nat, F2 (R0 W c.ok) (X.map fun i : Nat => [eI (i : Int)]).flatten (X.map (Value.int .i64 ∘ fun i : Nat => (i : Int))) := fun X => by
          induction X with
          | nil => exact .nil
          | cons i X ih => exact .cons (.int _ _) ih
        exact this _
  · have := hg.dom i e' he'
    cases i with
    | succ i => simp [lk, Blk.alive] at this
    | zero => rfl
theorem c_sort (cs : List Ce) (la sr : Int) (hU : Un cs) (hR : Rs cs) : CE Try.prog 67 [.rowf 0, .fn 68 [.vptr [encC cs, eI la, eI sr]]] [.rows 3 1 ((inIx 1 cs 0).map fun i : Nat => [eI (i : Int)])] (.tup []) [.rows 3 1 ((liveX cs).map fun i : Nat => [eI (i : Int)])] := by
  refine ⟨enters_of Try.func67 (by kernel_rfl) rfl, fun c vs hg hv => ?_⟩
  cases hv with
  | cons h0 hv =>
  cases hv with
  | cons h1 hv =>
  cases hv
  obtain ⟨e, hμ, rfl⟩ := h0.rowf_inv
  obtain ⟨e', hμ', hB⟩ := hg.blk 0 rfl
  rw [hμ] at hμ'
  cases hμ'
  obtain ⟨ws, rfl, hw⟩ := h1.fn_inv
  cases hw with
  | cons hcb hw =>
  cases hw
  rename_i cb
  have hcb0 : R0 c.w c.ok (.vptr [encC cs, eI la, eI sr]) cb := by
    cases hcb with
    | pure h => exact h
  have hnone : e.n = 0 → liveX cs = inIx 1 cs 0 → CallsIn Fence.wide 0 Try.prog 67 [e.val, Value.func (.func 68) #[] [cb].toArray].toArray c.w fun x w' => ∃ v d, d.w = w' ∧ x = .returned v ∧ Fr c d ∧ Good d (lk [.rows 3 1 ((liveX cs).map fun i : Nat => [eI (i : Int)])]) ∧ Rel d (.tup []) v ∧ ∀ i, i < ([.rows 3 1 ((inIx 1 cs 0).map fun i : Nat => [eI (i : Int)])] : List Blk).length → (lk [.rows 3 1 ((liveX cs).map fun i : Nat => [eI (i : Int)])] i).alive = true → d.μ i = c.μ i := by
    intro hn hl
    have hval : ∃ p cap, e.val = .slice p 0 cap := by
      cases hnn : e.nil with
      | true => exact ⟨none, 0, Ent.val_nil hnn⟩
      | false => exact ⟨_, e.cap, by rw [Ent.val_at hnn, hn]⟩
    obtain ⟨p, cap, hval⟩ := hval
    rw [hval, hl]
    have hS := AnyF.slices_SortFunc_none (P := Try.prog) (ρ := sortL_ren) { sortL with } p cap (.func (.func 68) #[] [cb].toArray) c.w
    refine (callsIn_wide (n := 0)).2 (hS.mono ?_)
    rintro x w' ⟨rfl, rfl⟩
    exact ⟨_, c, rfl, rfl, Fr.refl c, hg, .tup (vs := []) rfl (by simp), fun _ _ _ => rfl⟩
  by_cases hX : inIx 1 cs 0 = []
  · have hl : liveX cs = inIx 1 cs 0 := by
      have := (liveX_perm cs).length_eq
      rw [hX] at this ⊢
      exact List.eq_nil_of_length_eq_zero this
    refine hnone ?_ hl
    cases hB with
    | rows vs h1 h2 hs hn hz h0 h3 => rw [hn, hX]; rfl
  · have hnil : e.nil = false := by
      cases hnn : e.nil with
      | false => rfl
      | true =>
        exfalso
        cases hB with
        | rows vs h1 h2 hs hn hz h0 h3 =>
          rw [Ent.val_nil hnn] at h1
          rcases h1.2 with ⟨_, h⟩ | ⟨g, cap, cur, h, _⟩
          · rw [hn, List.length_map] at h
            exact hX (List.eq_nil_of_length_eq_zero h)
          · cases h
    obtain ⟨cur, vs, hh, hF, hsz, hn, _, _, hcap, hmx, hcs, htk, _⟩ := rows_at hB hnil
    rw [List.length_map] at hn
    have hvs := ints_of hF
    rw [Nat.mul_one] at htk
    exact sort_at cs la sr hU hR hg hμ hnil hcb0 hX hh (by rw [htk, hvs, List.map_map]; rfl) hn hsz hmx (by assumption) (by rw [hcs, Nat.mul_one])
end Go.Proofs.Ytcmciimogcfakaa

/- store.Live. -/
set_option linter.unusedVariables false
set_option linter.unusedSimpArgs false
namespace Go.Proofs.Ytcmciimogcfakaa
open Go Go.RowKit
open Classical

/-- A row of a call's own making, read only. -/
theorem CR.toC {P : Program} {f : FuncId} {args : List AV} {ty sz : Nat} {xs : List (List AV)} (h : CR P f args ty sz xs) : C P f args (.sl xs) := by
  refine ⟨h.1, fun c vs hg hv => (callsIn_wide (n := 0)).2 (((callsIn_wide (n := 0)).1 (h.2 c vs hg hv)).mono ?_)⟩
  rintro e w' ⟨v, d, rfl, rfl, hfd, hgd, hr, _⟩
  have hrv := pur_sound hgd (fun _ => true) 8 _ _ hr
  refine ⟨v, ⟨d.w, okF d (fun _ => true), fun _ => none, d.yl⟩, rfl, rfl, ⟨hfd.os, hfd.tape, hfd.output, hfd.size, hfd.same, fun b ⟨i, e, he, _⟩ => (by cases he), fun b hb => ?_, fun b hb => .inl (hfd.mono b hb), hfd.yl, hfd.drn⟩, ?_, .pure hrv, fun i hi => by simp at hi⟩
  · rcases hb with hb | ⟨i, e, _, he, hn, hbe⟩
    · exact hfd.ok b hb
    · exact .inr (hfd.own b ⟨i, e, he, hn, hbe⟩)
  · exact good_nil (fun b hb => hb.elim (fun h => (hgd.okd b h).1) fun ⟨i, e, _, he, hn, hbe⟩ => hgd.lt ⟨i, e, he, hn, hbe⟩) fun _ => rfl
/-- The row while its places are turned into handles. -/
def rowK (cs : List Ce) (X : List Nat) (k : Nat) : List (List AV) := ((X.take k).map fun i => [eI (hd cs i)]) ++ (X.drop k).map fun i : Nat => [eI (i : Int)]
theorem rowK_get {cs : List Ce} {X : List Nat} {k i : Nat} (h : X[k]? = some i) : (rowK cs X k)[k]? = some [eI (i : Int)] := by
  have hk := lt_of_get h
  rw [rowK, List.getElem?_append_right (by simp; omega)]
  simp [Nat.min_eq_left (Nat.le_of_lt hk), h]
theorem rowK_len (cs : List Ce) (X : List Nat) (k : Nat) : (rowK cs X k).length = X.length := by
  simp [rowK]
  omega
theorem rowK_set {cs : List Ce} {X : List Nat} {k i : Nat} (h : X[k]? = some i) : (rowK cs X k).set k [eI (hd cs i)] = rowK cs X (k + 1) := by
  obtain ⟨hk, rfl⟩ := List.getElem?_eq_some_iff.1 h
  have e1 : ((X.take k).map fun i => [eI (hd cs i)]).length = k := by
    rw [List.length_map, List.length_take]
    omega
  rw [rowK, rowK, List.set_append_right _ _ (by rw [e1]; exact Nat.le_refl _), e1, Nat.sub_self, List.drop_eq_getElem_cons hk, List.map_cons, List.set_cons_zero, List.take_succ_eq_append_getElem hk, List.map_append, List.append_assoc]
  rfl
theorem rowK_all (cs : List Ce) (X : List Nat) : rowK cs X X.length = rI (X.map (hd cs)) := by
  simp [rowK, rI]
set_option maxRecDepth 100000 in
theorem c_liveR (cs : List Ce) (la sr : Int) (hR : Rs cs) (hU : Un cs) : CR Try.prog 45 [tS cs la sr] 3 1 (rI (liveL cs)) := by
  refine fnOkR mixed tyOk Try.func45 (code := Try.f45.body.getD .skip) rfl rfl rfl (gC_in ?_)
  have hlen : (cs.map Ce.enc).length = cs.length := List.length_map _
  have h24 := hR.hl
  have hT : cs.length ≤ 1099511627776 := by omega
  repeat (first | (refine oR ?_; (conv => whnf)) | refine kOps ?_ | refine oNil ?_ | refine sSeq ?_ | refine sR ?_ | refine qSeqN ?_ | refine sBlk ?_)
  refine sLoop (α := Nat) (fun i => i ≤ cs.length) (fun i => ⟨tl [(1, .vptr [encC cs, eI la, eI sr]), (3, .rowf 1), (10, encC cs), (11, eI cs.length), (12, eI (i : Int))], Ll [(1, .rows 3 1 ((inIx 1 (cs.take i) 0).map fun i : Nat => [eI (i : Int)]))], 49, 2, [], none⟩) (fun i => cs.length - i) 0
    (.trans (.fz _ [0]) (.trans (.adopt 3 1 3 1 rfl rfl (by decide)) (.keep _ _ _ _ ⟨rfl, trivial⟩ ⟨rfl, rfl, rfl, congrArg (fun n : Nat => eI n) hlen, rfl, trivial⟩ rfl rfl))) (Nat.zero_le _) fun i hi => ?_
  repeat (first | (refine oR ?_; (conv => whnf)) | refine kOps ?_ | refine oNil ?_ | refine sSeq ?_ | refine sR ?_ | refine qSeqN ?_)
  refine sC rfl (fun h1 => ?_) (fun h1 => ?_)
  · have hlt : i < cs.length := by have := dT h1; omega
    obtain ⟨c, hc⟩ : ∃ c, cs[i]? = some c := ⟨_, List.getElem?_eq_getElem hlt⟩
    have hk := inIx_snoc (st := 1) hc
    have hil := inIx_len 1 (cs.take i) 0
    rw [List.length_take] at hil
    repeat (first | (refine oR ?_; (conv => whnf)) | refine kOps ?_ | refine sSeq ?_ | refine sR ?_ | refine qSeqN ?_ | refine sSkip ?_ | refine sBlk ?_)
    refine ⟨i, _, rfl, encC_get hc, ?_⟩
    conv => whnf
    repeat (first | (refine oR ?_; (conv => whnf)) | refine kOps ?_ | refine oNil ?_ | refine sSeq ?_ | refine sR ?_ | refine qSeqN ?_)
    refine sC rfl (fun h2 => ?_) (fun h2 => ?_)
    · have h2 : c.st = 1 := by simpa using h2
      rw [if_pos h2] at hk
      repeat (first | (refine oR ?_; (conv => whnf)) | refine kOps ?_ | refine sR ?_)
      refine ⟨by simp [oneC], roomI (by simp; omega), ?_⟩
      repeat (first | (refine oR ?_; (conv => whnf)) | refine kOps ?_ | refine oNil ?_ | refine sR ?_ | refine qSeqN ?_ | refine qBlkN ?_)
      exact qLoopN (i + 1) (.keep _ _ _ _ ⟨congrArg (Blk.rows 3 1) (by rw [hk]; simp), trivial⟩ ⟨rfl, rfl, rfl, rfl, congrArg eI (wrapS hlt hT), trivial⟩ rfl rfl) hlt (by omega)
    · have h2 : ¬ c.st = 1 := by simpa using h2
      rw [if_neg h2] at hk
      repeat (first | (refine oR ?_; (conv => whnf)) | refine kOps ?_ | refine oNil ?_ | refine sR ?_ | refine qSeqN ?_ | refine sSkip ?_ | refine qBlkN ?_)
      exact qLoopN (i + 1) (.keep _ _ _ _ ⟨congrArg (Blk.rows 3 1) (by rw [hk]), trivial⟩ ⟨rfl, rfl, rfl, rfl, congrArg eI (wrapS hlt hT), trivial⟩ rfl rfl) hlt (by omega)
  have hge : cs.length ≤ i := by have := dF h1; omega
  rw [List.take_of_length_le hge]
  have hso := c_sort cs la sr hU hR
  have hmem := fun i : Nat => liveX_mem (cs := cs) (i := i)
  have hll : (liveX cs).length = (inIx 1 cs 0).length := (liveX_perm cs).length_eq
  have hX24 : (liveX cs).length ≤ 24 := by
    have := inIx_len 1 cs 0
    omega
  repeat (first | (refine oR ?_; (conv => whnf)) | refine kOps ?_ | refine sSeq ?_ | refine sR ?_ | refine qSeqN ?_ | refine sExit ?_ | refine qSeqE ?_ | refine qX ?_ | refine qLoopE ?_)
  refine oCall rfl (.inl rfl) rfl rfl rfl (.ef [1] (.tup []) [.rows 3 1 ((liveX cs).map fun i : Nat => [eI (i : Int)])]) rfl ⟨⟨rfl, rfl, rfl, rfl⟩, hso, ?_⟩
  conv => whnf
  repeat (first | (refine oR ?_; (conv => whnf)) | refine kOps ?_ | refine oNil ?_ | refine sSeq ?_ | refine sR ?_ | refine qSeqN ?_ | refine sBlk ?_)
  unfold liveL
  generalize liveX cs = X at hX24 hmem ⊢
  have hXb : X.length ≤ 1099511627776 := by omega
  have hlen2 : (X.map fun i : Nat => [eI (i : Int)]).length = X.length := List.length_map _
  refine sLoop (α := Nat) (fun k => k ≤ X.length) (fun k => ⟨tl [(1, .vptr [encC cs, eI la, eI sr]), (3, .rowf 1), (28, .rowf 1), (29, eI X.length), (30, eI (k : Int))], Ll [(1, .rows 3 1 (rowK cs X k))], 49, 2, [], none⟩) (fun k => X.length - k) 0
    (.keep _ _ _ _ ⟨rfl, trivial⟩ ⟨rfl, rfl, rfl, congrArg (fun n : Nat => eI n) hlen2, rfl, trivial⟩ rfl rfl) (Nat.zero_le _) fun k hk => ?_
  have hrl := rowK_len cs X k
  repeat (first | (refine oR ?_; (conv => whnf)) | refine kOps ?_ | refine oNil ?_ | refine sSeq ?_ | refine sR ?_ | refine qSeqN ?_)
  refine sC rfl (fun h2 => ?_) (fun h2 => ?_)
  rotate_left
  · have hge : X.length ≤ k := by have := dF h2; omega
    have e : k = X.length := by omega
    rw [e, rowK_all]
    repeat (first | (refine oR ?_; (conv => whnf)) | refine kOps ?_ | refine oNil ?_ | refine sSeq ?_ | refine sR ?_ | refine qSeqN ?_ | refine sRet ?_ | refine sExit ?_ | refine qSeqE ?_ | refine qX ?_ | refine qLoopE ?_)
    refine qEndR ⟨_, .refl _, ?_⟩
    conv => whnf
    exact ⟨_, rfl, rfl⟩
  have hlt : k < X.length := by have := dT h2; omega
  obtain ⟨x, hx⟩ : ∃ x, X[k]? = some x := ⟨_, List.getElem?_eq_getElem hlt⟩
  obtain ⟨c, hc, hcs⟩ := (hmem x).1 (List.mem_of_getElem? hx)
  have hat := hR.at hc
  have hrg := rowK_get (cs := cs) hx
  have hrs := rowK_set (cs := cs) hx
  repeat (first | (refine oR ?_; (conv => whnf)) | refine kOps ?_ | refine sSeq ?_ | refine sR ?_ | refine qSeqN ?_ | refine sSkip ?_ | refine sBlk ?_)
  refine ⟨k, rfl, by rw [hrl]; exact hlt, ?_⟩
  repeat (first | (refine oR ?_; (conv => whnf)) | refine kOps ?_)
  refine ⟨_, hrg, ?_⟩
  conv => whnf
  repeat (first | (refine oR ?_; (conv => whnf)) | refine kOps ?_ | refine oNil ?_ | refine sR ?_ | refine qSeqN ?_)
  refine ⟨x, _, rfl, encC_get hc, ?_⟩
  conv => whnf
  repeat (first | (refine oR ?_; (conv => whnf)) | refine kOps ?_)
  (refine oCall rfl (.inl rfl) rfl rfl rfl (.fz [] _) rfl ⟨rfl, c_pack (x : Int) c.gn hat.1 hat.2, ?_⟩; (conv => whnf))
  repeat (first | (refine oR ?_; (conv => whnf)) | refine kOps ?_)
  refine ⟨k, rfl, by rw [hrl]; exact hlt, ?_⟩
  repeat (first | (refine oR ?_; (conv => whnf)) | refine kOps ?_)
  refine ⟨_, hrg, ?_⟩
  conv => whnf
  repeat (first | (refine oR ?_; (conv => whnf)) | refine kOps ?_ | refine oNil ?_ | refine sR ?_ | refine qSeqN ?_ | refine qBlkN ?_)
  exact qLoopN (k + 1) (.keep _ _ _ _ ⟨congrArg (Blk.rows 3 1) (by rw [← hd_of hc]; exact hrs), trivial⟩ ⟨rfl, rfl, rfl, rfl, congrArg eI (wrapS hlt hXb), trivial⟩ rfl rfl) hlt (by omega)
theorem c_live (cs : List Ce) (la sr : Int) (hR : Rs cs) (hU : Un cs) : C Try.prog 45 [tS cs la sr] (encI (liveL cs)) := (c_liveR cs la sr hR hU).toC
end Go.Proofs.Ytcmciimogcfakaa

/- DeleteFunc; fix.From, Lost, Closed, Rounds. -/
set_option linter.unusedVariables false
set_option linter.unusedSimpArgs false
namespace Go.Proofs.Ytcmciimogcfakaa
open Go Go.RowKit
open Classical

theorem c_indexl (l m : List Int) (hm : m.length ≤ 1099511627776) (hT : l.length ≤ 1099511627776) : C Try.prog 66 [encI l, .fn 46 [.vptr [encI m]]] (eI (fxGo (fun x => decide (x ∈ m)) l 0)) := by
  refine fnOk mixed tyOk Try.func66 (code := Try.f66.body.getD .skip) rfl rfl rfl (gC_in ?_)
  have hlen : (l.map fun n => [eI n]).length = l.length := List.length_map _
  repeat (first | (refine oR ?_; (conv => whnf)) | refine kOps ?_ | refine oNil ?_ | refine sSeq ?_ | refine sR ?_ | refine qSeqN ?_ | refine sBlk ?_)
  refine sLoop (α := Nat) (fun i => i ≤ l.length ∧ fxGo (fun x => decide (x ∈ m)) (l.drop i) i = fxGo (fun x => decide (x ∈ m)) l 0) (fun i => ⟨tl [(0, encI l), (1, .fn 46 [.vptr [encI m]]), (7, eI l.length), (8, eI (i : Int))], Ll [], 19, 0, [], none⟩) (fun i => l.length - i) 0
    (.keep _ _ _ _ trivial ⟨rfl, rfl, congrArg (fun n : Nat => eI n) hlen, rfl, trivial⟩ rfl rfl) ⟨Nat.zero_le _, rfl⟩ fun i hi => ?_
  obtain ⟨hi, hix⟩ := hi
  repeat (first | (refine oR ?_; (conv => whnf)) | refine kOps ?_ | refine oNil ?_ | refine sSeq ?_ | refine sR ?_ | refine qSeqN ?_)
  refine sC rfl (fun h1 => ?_) (fun h1 => ?_)
  · have hlt : i < l.length := by have := dT h1; omega
    obtain ⟨n, hn⟩ : ∃ n, l[i]? = some n := ⟨_, List.getElem?_eq_getElem hlt⟩
    rw [drop_of hn, fxGo] at hix
    repeat (first | (refine oR ?_; (conv => whnf)) | refine kOps ?_ | refine oNil ?_ | refine sSeq ?_ | refine sR ?_ | refine qSeqN ?_ | refine sSkip ?_ | refine sBlk ?_)
    refine ⟨i, _, rfl, encI_get hn, ?_⟩
    conv => whnf
    repeat (first | (refine oR ?_; (conv => whnf)) | refine kOps ?_)
    (refine oCall rfl (.inl rfl) rfl rfl rfl (.fz [] _) rfl ⟨rfl, c_lost1 m n hm, ?_⟩; (conv => whnf))
    repeat (first | refine kOps ?_ | refine oNil ?_ | refine qSeqN ?_)
    refine sC rfl (fun h2 => ?_) (fun h2 => ?_)
    · rw [if_pos h2] at hix
      rw [← hix]
      repeat (first | (refine oR ?_; (conv => whnf)) | refine kOps ?_ | refine oNil ?_ | refine sSeq ?_ | refine sR ?_ | refine qSeqN ?_ | refine sRet ?_ | refine qSeqR ?_ | refine qBlkR ?_ | refine qLoopR ?_)
      refine qEnd ?_
      conv => whnf
      rfl
    · rw [if_neg (by simp only [h2]; decide)] at hix
      repeat (first | (refine oR ?_; (conv => whnf)) | refine kOps ?_ | refine oNil ?_ | refine sR ?_ | refine qSeqN ?_ | refine sSkip ?_ | refine qBlkN ?_)
      exact qLoopN (i + 1) .kp ⟨hlt, hix⟩ (by omega)
  · have hge : l.length ≤ i := by have := dF h1; omega
    rw [List.drop_eq_nil_of_le hge] at hix
    rw [← hix]
    repeat (first | (refine oR ?_; (conv => whnf)) | refine kOps ?_ | refine oNil ?_ | refine sSeq ?_ | refine sR ?_ | refine qSeqN ?_ | refine sRet ?_ | refine sExit ?_ | refine qSeqE ?_ | refine qX ?_ | refine qLoopE ?_)
    refine qEnd ?_
    conv => whnf
    rfl
/-- The blocks that DeleteFunc looks at. -/
def delB (row m : List Int) : List Blk := [.rows 3 1 (rI row), .box 28 [encI m]]
theorem del_Ll {row m : List Int} : Ll [(0, .rows 3 1 (rI row)), (1, .box 28 [encI m])] = lk (delB row m) := by
  funext i
  rcases i with _ | _ | i <;> rfl
theorem del_K {es : List Ent} {row m : List Int} (h : es.length = (delB row m).length) : ∀ i, i < es.length → memB [0, 1] i = true := by
  intro i hi
  rw [h] at hi
  have : i < 2 := hi
  rcases (show i = 0 ∨ i = 1 by omega) with rfl | rfl <;> rfl
def keptL (m l : List Int) : List Int := l.filter fun x => !decide (x ∈ m)
theorem c_del_none (l m : List Int) (hm : m.length ≤ 1099511627776) (hl : l.length ≤ 1099511627776) (hn : ∀ x ∈ l, x ∉ m) : CE Try.prog 44 [.rowf 0, .fn 46 [.ptr 1 0 0]] (delB l m) (.rowf 0) (delB l m) := by
  refine fnOkE mixed tyOk Try.func44 (code := Try.f44.body.getD .skip) rfl rfl rfl rfl rfl fun es hes => (gC_in ?_)
  have hc := c_indexl l m hm hl
  have hix : fxGo (fun x => decide (x ∈ m)) l 0 = -1 := by
    rcases fxGo_or (fun x => decide (x ∈ m)) l 0 with ⟨h, _⟩ | ⟨j, x, h1, h2, _⟩
    · exact h
    · simp at h2
      exact absurd h2 (hn x (List.mem_of_getElem? h1))
  rw [hix] at hc
  repeat (first | (refine oR ?_; (conv => whnf)) | refine kOps ?_ | refine oNil ?_ | refine sSeq ?_ | refine sR ?_ | refine qSeqN ?_)
  refine oCall rfl (.inl rfl) rfl rfl rfl (.bo (eI (-1))) rfl ⟨rfl, hc, ?_⟩
  conv => whnf
  repeat (first | (refine oR ?_; (conv => whnf)) | refine kOps ?_ | refine oNil ?_ | refine sSeq ?_ | refine sR ?_ | refine qSeqN ?_ | refine sT ?_ | refine sRet ?_ | refine qSeqR ?_)
  exact qEndE (efEnd_of [(4, .rowf 0)] [(0, .rows 3 1 (rI l)), (1, .box 28 [encI m])] ⟨rfl, rfl, trivial⟩ ⟨rfl, trivial⟩ rfl rfl del_Ll (del_K hes) rfl)
theorem keep_set {row l K : List Int} {j : Nat} {v : Int} (hl : row.length = l.length) (hk : row.take K.length = K) (hd : row.drop j = l.drop j) (hv : l[j]? = some v) (hlt : K.length < j) :
    (row.set K.length v).length = l.length ∧ (row.set K.length v).take (K.length + 1) = K ++ [v] ∧ (row.set K.length v).drop (j + 1) = l.drop (j + 1) := by
  have hj := lt_of_get hv
  refine ⟨by rw [List.length_set, hl], ?_, ?_⟩
  · have h0 : K.length < (row.set K.length v).length := by rw [List.length_set]; omega
    rw [List.take_succ_eq_append_getElem h0, List.take_set, List.set_eq_of_length_le (by rw [List.length_take]; omega), hk]
    simp
  · rw [List.drop_set, if_pos (by omega), show j + 1 = 1 + j by omega, Nat.add_comm 1 j, ← List.drop_drop, ← List.drop_drop, hd]
set_option maxRecDepth 100000 in
theorem c_del_some (l m : List Int) (hm : m.length ≤ 1099511627776) (hl : l.length ≤ 1099511627776) (hn : ∃ x ∈ l, x ∈ m) : CE Try.prog 44 [.rowf 0, .fn 46 [.ptr 1 0 0]] (delB l m) (.row 0 0 (keptL m l).length) (delB (keptL m l ++ List.replicate (l.length - (keptL m l).length) 0) m) := by
  refine fnOkE mixed tyOk Try.func44 (code := Try.f44.body.getD .skip) rfl rfl rfl rfl rfl fun es hes => (gC_in ?_)
  have hc := c_indexl l m hm hl
  obtain ⟨k0, x0, hk0, hx0, hix, hall⟩ : ∃ (j : Nat) (x : Int), l[j]? = some x ∧ x ∈ m ∧ fxGo (fun x => decide (x ∈ m)) l 0 = (j : Int) ∧ ∀ (q : Nat) (y : Int), q < j → l[q]? = some y → y ∉ m := by
    rcases fxGo_or (fun x => decide (x ∈ m)) l 0 with ⟨_, h⟩ | ⟨j, x, h1, h2, h3, h4⟩
    · obtain ⟨x, hx, hm⟩ := hn
      have := h x hx
      simp at this
      exact absurd hm this
    · exact ⟨j, x, h1, by simpa using h2, by simpa using h3, fun q y hq hy => by simpa using h4 q y hq hy⟩
  rw [hix] at hc
  have hkl := lt_of_get hk0
  have hkb : k0 ≤ 1099511627776 := by omega
  have e0 : keptL m (l.take k0) = l.take k0 := by
    refine List.filter_eq_self.2 fun y hy => ?_
    obtain ⟨q, hq⟩ := List.mem_iff_getElem?.1 hy
    have hql := lt_of_get hq
    rw [List.length_take] at hql
    rw [List.getElem?_take_of_lt (by omega)] at hq
    simpa using hall q y (by omega) hq
  have e1 : keptL m (l.take (k0 + 1)) = l.take k0 := by
    have := filter_snoc (p := fun x => !decide (x ∈ m)) hk0
    rw [if_neg (by simpa using hx0)] at this
    exact this.trans e0
  have hkw : IntKind.i64.wrap ((k0 : Int) + 1) = ((k0 + 1 : Nat) : Int) := wrapS (Nat.lt_succ_self k0) (by omega)
  repeat (first | (refine oR ?_; (conv => whnf)) | refine kOps ?_ | refine oNil ?_ | refine sSeq ?_ | refine sR ?_ | refine qSeqN ?_)
  refine oCall rfl (.inl rfl) rfl rfl rfl (.bo (eI (k0 : Int))) rfl ⟨rfl, hc, ?_⟩
  conv => whnf
  repeat (first | (refine oR ?_; (conv => whnf)) | refine kOps ?_ | refine oNil ?_ | refine sSeq ?_ | refine sR ?_ | refine qSeqN ?_ | refine sSkip ?_ | refine sF ?_ | refine sBlk ?_)
  refine sLoop (α := Nat × List Int) (fun a => k0 < a.1 ∧ a.1 ≤ l.length ∧ a.2.length = l.length ∧ a.2.take (keptL m (l.take a.1)).length = keptL m (l.take a.1) ∧ a.2.drop a.1 = l.drop a.1 ∧ (keptL m (l.take a.1)).length < a.1) (fun a => ⟨tl [(0, .rowf 0), (1, .fn 46 [.ptr 1 0 0]), (5, eI ((keptL m (l.take a.1)).length : Nat)), (6, eI (a.1 : Int))], Ll [(0, .rows 3 1 (rI a.2)), (1, .box 28 [encI m])], 42, 0, pins es, none⟩) (fun a => l.length - a.1) (k0 + 1, l)
    (.keep _ _ _ _ ⟨rfl, rfl, trivial⟩ ⟨rfl, rfl, congrArg (fun n : Nat => eI n) (by rw [e1, List.length_take]; omega), congrArg eI hkw, trivial⟩ rfl (pins_kA _ es (del_K hes)))
    ⟨Nat.lt_succ_self _, hkl, rfl, by show l.take (keptL m (l.take (k0 + 1))).length = _; rw [e1, List.length_take, Nat.min_eq_left (by omega)], rfl, by show (keptL m (l.take (k0 + 1))).length < k0 + 1; rw [e1, List.length_take]; omega⟩ fun a ha => ?_
  obtain ⟨j, row⟩ := a
  obtain ⟨hj0, hjl, hrl, hrt, hrd, hkj⟩ := ha
  simp only at hj0 hjl hrl hrt hrd hkj
  have hrow : (rI row).length = row.length := by simp [rI]
  repeat (first | (refine oR ?_; (conv => whnf)) | refine kOps ?_ | refine oNil ?_ | refine sSeq ?_ | refine sR ?_ | refine qSeqN ?_)
  refine sC rfl (fun h1 => ?_) (fun h1 => ?_)
  rotate_left
  · have hge : l.length ≤ j := by
      have := dF h1
      simp only [rI, List.length_map] at this
      omega
    have e : j = l.length := by omega
    subst e
    rw [List.take_of_length_le (Nat.le_refl _)] at hrt hkj ⊢
    have hKl : (keptL m l).length ≤ row.length := by omega
    repeat (first | (refine oR ?_; (conv => whnf)) | refine kOps ?_ | refine sSeq ?_ | refine sR ?_ | refine qSeqN ?_ | refine sExit ?_ | refine qSeqE ?_ | refine qX ?_ | refine qLoopE ?_)
    refine ⟨(keptL m l).length, rfl, by rw [hrow]; exact hKl, ?_⟩
    conv => whnf
    repeat (first | (refine oR ?_; (conv => whnf)) | refine kOps ?_ | refine oNil ?_ | refine sSeq ?_ | refine sR ?_ | refine qSeqN ?_)
    have hspl : splice (rI row) (keptL m l).length (List.replicate ((rI row).length - (keptL m l).length) [eI 0]) = rI (keptL m l ++ List.replicate (l.length - (keptL m l).length) 0) := by
      unfold splice rI
      rw [← List.map_take, hrt, List.drop_eq_nil_of_le (by simp; omega), List.append_nil, List.map_append, List.map_replicate, List.length_map, hrl]
    refine ⟨(keptL m l).length, rfl, by show _ ≤ (splice (rI row) (keptL m l).length (List.replicate ((rI row).length - (keptL m l).length) [eI 0])).length; rw [hspl]; simp [rI], ?_⟩
    conv => whnf
    repeat (first | (refine oR ?_; (conv => whnf)) | refine kOps ?_ | refine oNil ?_ | refine qSeqN ?_ | refine sRet ?_)
    exact qEndE (efEnd_of [(4, .row 0 0 (keptL m l).length)] [(0, .rows 3 1 (rI (keptL m l ++ List.replicate (l.length - (keptL m l).length) 0))), (1, .box 28 [encI m])] ⟨congrArg (Blk.rows 3 1) hspl, rfl, trivial⟩ ⟨rfl, trivial⟩ rfl rfl del_Ll (del_K hes) rfl)
  have hlt : j < l.length := by
    have := dT h1
    simp only [rI, List.length_map] at this
    omega
  obtain ⟨v, hv⟩ : ∃ v, l[j]? = some v := ⟨_, List.getElem?_eq_getElem hlt⟩
  have hrv : row[j]? = some v := by
    have h2 : (row.drop j)[0]? = (l.drop j)[0]? := by rw [hrd]
    simpa [hv] using h2
  have hfs := filter_snoc (p := fun x => !decide (x ∈ m)) hv
  repeat (first | (refine oR ?_; (conv => whnf)) | refine kOps ?_ | refine sSeq ?_ | refine sR ?_ | refine qSeqN ?_ | refine sSkip ?_ | refine sBlk ?_)
  refine ⟨j, rfl, by rw [hrow]; omega, ?_⟩
  repeat (first | (refine oR ?_; (conv => whnf)) | refine kOps ?_)
  refine ⟨[eI v], by simp [rI, hrv], ?_⟩
  conv => whnf
  repeat (first | (refine oR ?_; (conv => whnf)) | refine kOps ?_ | refine oNil ?_ | refine sSeq ?_ | refine sR ?_ | refine qSeqN ?_)
  refine oCall rfl (.inl rfl) rfl rfl rfl (.bo (.bool (decide (v ∈ m)))) rfl ⟨rfl, c_lost1 m v hm, ?_⟩
  conv => whnf
  repeat (first | (refine oR ?_; (conv => whnf)) | refine kOps ?_ | refine oNil ?_ | refine qSeqN ?_)
  by_cases hvm : v ∈ m
  · rw [if_neg (by simpa using hvm)] at hfs
    rw [decide_eq_true hvm]
    repeat (first | (refine oR ?_; (conv => whnf)) | refine kOps ?_ | refine oNil ?_ | refine sR ?_ | refine qSeqN ?_ | refine sSkip ?_ | refine sF ?_ | refine qBlkN ?_)
    exact qLoopN (j + 1, row) (.keep _ _ _ _ ⟨rfl, rfl, trivial⟩ ⟨rfl, rfl, congrArg (fun l : List Int => eI (l.length : Nat)) hfs.symm, congrArg eI (wrapS hlt hl), trivial⟩ rfl (pins_kA _ es (del_K hes)))
      ⟨Nat.lt_succ_of_lt hj0, hlt, hrl, by show row.take (keptL m (l.take (j + 1))).length = _; rw [show keptL m (l.take (j + 1)) = keptL m (l.take j) from hfs]; exact hrt, by show row.drop (j + 1) = _; rw [← List.drop_drop, ← List.drop_drop, hrd], by show (keptL m (l.take (j + 1))).length < j + 1; rw [show keptL m (l.take (j + 1)) = keptL m (l.take j) from hfs]; omega⟩ (show l.length - (j + 1) < l.length - j by omega)
  · rw [if_pos (by simpa using hvm)] at hfs
    rw [decide_eq_false hvm]
    obtain ⟨s1, s2, s3⟩ := keep_set hrl hrt hrd hv hkj
    have hKj : (keptL m (l.take j)).length ≤ 1099511627776 := by omega
    have hfl : (keptL m (l.take (j + 1))).length = (keptL m (l.take j)).length + 1 := by rw [show keptL m (l.take (j + 1)) = keptL m (l.take j) ++ [v] from hfs]; simp
    obtain ⟨y, hy⟩ : ∃ y, (rI row)[(keptL m (l.take j)).length]? = some [eI y] := ⟨row[(keptL m (l.take j)).length]'(by omega), by simp [rI]⟩
    repeat (first | (refine oR ?_; (conv => whnf)) | refine kOps ?_ | refine sSeq ?_ | refine sR ?_ | refine sT ?_)
    refine ⟨(keptL m (l.take j)).length, rfl, by rw [hrow]; omega, ?_⟩
    repeat (first | (refine oR ?_; (conv => whnf)) | refine kOps ?_)
    refine ⟨_, hy, ?_⟩
    conv => whnf
    repeat (first | (refine oR ?_; (conv => whnf)) | refine kOps ?_ | refine oNil ?_ | refine sR ?_ | refine qSeqN ?_ | refine qBlkN ?_)
    exact qLoopN (j + 1, row.set (keptL m (l.take j)).length v) (.keep _ _ _ _ ⟨congrArg (Blk.rows 3 1) (by simp [rI, List.map_set]), rfl, trivial⟩ ⟨rfl, rfl, congrArg eI (by rw [wrapS hkj (by omega), ← hfl]), congrArg eI (wrapS hlt hl), trivial⟩ rfl (pins_kA _ es (del_K hes)))
      ⟨Nat.lt_succ_of_lt hj0, hlt, s1, by show (row.set _ v).take (keptL m (l.take (j + 1))).length = _; rw [hfl, s2]; exact hfs.symm, s3, by show (keptL m (l.take (j + 1))).length < j + 1; rw [hfl]; omega⟩ (show l.length - (j + 1) < l.length - j by omega)
theorem c_prounds_ (cs : List Ce) (la sr : Int) (T : List Pl) (l : List Int) (hR : Rs cs) (hU : Un cs) (h8 : T.length ≤ 8) (hl : l.length ≤ 1099511627776) {N : Nat} (hN : PN cs T l N) : C Try.prog 29 [tS cs la sr, encT T, encI l] (.tup [encI (nthP cs T l N), eI (N : Int)]) :=
  c_prounds cs la sr T l hR h8 hl (c_live cs la sr hR hU) hN
theorem c_pfrom (cs : List Ce) (la sr : Int) (T : List Pl) (l : List Int) (hR : Rs cs) (hU : Un cs) (h8 : T.length ≤ 8) (hl : l.length ≤ 1099511627776) {N : Nat} (hN : PN cs T l N) : C Try.prog 12 [tS cs la sr, encT T, encI l] (encI (nthP cs T l N)) := by
  refine fnOk mixed tyOk Try.func12 (code := Try.f12.body.getD .skip) rfl rfl rfl (gC_in ?_)
  repeat (first | (refine oR ?_; (conv => whnf)) | refine kOps ?_ | refine oNil ?_ | refine sSeq ?_ | refine sR ?_ | refine qSeqN ?_)
  (refine oCall rfl (.inl rfl) rfl rfl rfl (.fz [] _) rfl ⟨rfl, c_prounds_ cs la sr T l hR hU h8 hl hN, ?_⟩; (conv => whnf))
  repeat (first | (refine oR ?_; (conv => whnf)) | refine kOps ?_ | refine oNil ?_ | refine sSeq ?_ | refine sR ?_ | refine qSeqN ?_ | refine sRet ?_)
  refine qEnd ?_
  conv => whnf
  rfl
theorem c_profunds (cs : List Ce) (la sr : Int) (T : List Pl) (l : List Int) (hR : Rs cs) (hU : Un cs) (h8 : T.length ≤ 8) (hl : l.length ≤ 1099511627776) {N : Nat} (hN : PN cs T l N) : C Try.prog 14 [tS cs la sr, encT T, encI l] (eI (N : Int)) := by
  refine fnOk mixed tyOk Try.func14 (code := Try.f14.body.getD .skip) rfl rfl rfl (gC_in ?_)
  repeat (first | (refine oR ?_; (conv => whnf)) | refine kOps ?_ | refine oNil ?_ | refine sSeq ?_ | refine sR ?_ | refine qSeqN ?_)
  (refine oCall rfl (.inl rfl) rfl rfl rfl (.fz [] _) rfl ⟨rfl, c_prounds_ cs la sr T l hR hU h8 hl hN, ?_⟩; (conv => whnf))
  repeat (first | (refine oR ?_; (conv => whnf)) | refine kOps ?_ | refine oNil ?_ | refine sSeq ?_ | refine sR ?_ | refine qSeqN ?_ | refine sRet ?_)
  refine qEnd ?_
  conv => whnf
  rfl
/-- What the program says of closed sets. -/
def pCl (cs : List Ce) (T : List Pl) (l : List Int) : Prop := newsL cs T l = [] ∧ ¬ ∃ x ∈ fromL cs l, x ∉ l
theorem c_pclosed (cs : List Ce) (la sr : Int) (T : List Pl) (l : List Int) (hR : Rs cs) (hU : Un cs) (h8 : T.length ≤ 8) (hl : l.length ≤ 1099511627776) : C Try.prog 15 [tS cs la sr, encT T, encI l] (.bool (decide (pCl cs T l))) := by
  refine fnOk mixed tyOk Try.func15 (code := Try.f15.body.getD .skip) rfl rfl rfl (gC_in ?_)
  have hcn := (c_news cs la sr T l hR (by omega) hl).toC
  have hcl := c_closed8 cs la sr l hR hl (c_live cs la sr hR hU)
  have hlen : (rI (newsL cs T l)).length = (newsL cs T l).length := by simp [rI]
  repeat (first | (refine oR ?_; (conv => whnf)) | refine kOps ?_ | refine oNil ?_ | refine sSeq ?_ | refine sR ?_ | refine qSeqN ?_)
  (refine oCall rfl (.inl rfl) rfl rfl rfl (.fz [] _) rfl ⟨rfl, hcn, ?_⟩; (conv => whnf))
  repeat (first | (refine oR ?_; (conv => whnf)) | refine kOps ?_)
  refine oS rfl rfl rfl (fun h1 => ?_) (fun h1 => ?_)
  · have h1 : newsL cs T l = [] := by
      have := dT h1
      rw [hlen] at this
      exact List.eq_nil_of_length_eq_zero (by omega)
    repeat (first | refine kOps ?_ | (refine oG ?_; (conv => whnf)))
    (refine oCall rfl (.inr ⟨_, _, _, rfl, rfl, rfl⟩) rfl rfl rfl (.fz [] _) rfl ⟨rfl, hcl, ?_⟩; (conv => whnf))
    repeat (first | (refine oR ?_; (conv => whnf)) | refine kOps ?_ | refine oNil ?_ | refine qSeqN ?_ | refine sRet ?_ | (refine sBT ?_; (conv => whnf)))
    refine qEnd ?_
    conv => whnf
    exact congrArg AV.bool (by
      by_cases hx : ∃ x ∈ fromL cs l, x ∉ l
      · rw [decide_eq_true hx, decide_eq_false (show ¬ pCl cs T l from fun h => h.2 hx)]
        rfl
      · rw [decide_eq_false hx, decide_eq_true (show pCl cs T l from ⟨h1, hx⟩)]
        rfl)
  · have h1 : ¬ newsL cs T l = [] := fun he => by simp [he, rI] at h1
    rw [decide_eq_false (show ¬ pCl cs T l from fun h => h1 h.1)]
    repeat (first | (refine oR ?_; (conv => whnf)) | refine kOps ?_ | refine oH ?_ | refine oNil ?_ | refine qSeqN ?_ | refine sRet ?_ | (refine sBF ?_; (conv => whnf)))
    refine qEnd ?_
    conv => whnf
    rfl
theorem c_plost (cs : List Ce) (la sr : Int) (T : List Pl) (l : List Int) (hR : Rs cs) (hU : Un cs) (h8 : T.length ≤ 8) (hl : l.length ≤ 1099511627776) {N : Nat} (hN : PN cs T l N) : C Try.prog 24 [tS cs la sr, encT T, encI l] (encI (keptL (nthP cs T l N) (liveL cs))) := by
  refine fnOk mixed tyOk Try.func24 (code := Try.f24.body.getD .skip) rfl rfl rfl (gC_in ?_)
  have hf := c_pfrom cs la sr T l hR hU h8 hl hN
  have hv := c_liveR cs la sr hR hU
  have h24 := nthP_len hR T l N
  have hl24 := liveL_len hR
  have hlb : (liveL cs).length ≤ 1099511627776 := by omega
  generalize nthP cs T l N = m at hf h24 ⊢
  have hmb : m.length ≤ 1099511627776 := by omega
  generalize liveL cs = all at hv hl24 hlb ⊢
  repeat (first | (refine oR ?_; (conv => whnf)) | refine kOps ?_ | refine oNil ?_ | refine sSeq ?_ | refine sR ?_ | refine qSeqN ?_)
  (refine oCall rfl (.inl rfl) rfl rfl rfl (.fz [] _) rfl ⟨rfl, hf, ?_⟩; (conv => whnf))
  repeat (first | (refine oR ?_; (conv => whnf)) | refine kOps ?_ | refine oNil ?_ | refine sSeq ?_ | refine sR ?_ | refine qSeqN ?_)
  refine oCall rfl (.inl rfl) rfl rfl rfl (.nw [] 3 1 (rI all)) rfl ⟨⟨rfl, rfl⟩, hv, ?_⟩
  conv => whnf
  repeat (first | (refine oR ?_; (conv => whnf)) | refine kOps ?_)
  by_cases hn : ∃ x ∈ all, x ∈ m
  · refine oCall rfl (.inl rfl) rfl rfl rfl (.ef [2, 1] (.row 0 0 (keptL m all).length) (delB (keptL m all ++ List.replicate (all.length - (keptL m all).length) 0) m)) rfl ⟨⟨rfl, rfl, rfl, rfl⟩, c_del_some all m hmb hlb hn, ?_⟩
    conv => whnf
    repeat (first | (refine oR ?_; (conv => whnf)) | refine kOps ?_ | refine oNil ?_ | refine qSeqN ?_ | refine sRet ?_)
    refine qEnd ?_
    conv => whnf
    exact congrArg AV.sl (by simp [rI])
  · have hn' : ∀ x ∈ all, x ∉ m := fun x hx hm => hn ⟨x, hx, hm⟩
    refine oCall rfl (.inl rfl) rfl rfl rfl (.ef [2, 1] (.rowf 0) (delB all m)) rfl ⟨⟨rfl, rfl, rfl, rfl⟩, c_del_none all m hmb hlb hn', ?_⟩
    conv => whnf
    repeat (first | (refine oR ?_; (conv => whnf)) | refine kOps ?_ | refine oNil ?_ | refine qSeqN ?_ | refine sRet ?_)
    refine qEnd ?_
    conv => whnf
    rw [keptL, List.filter_eq_self.2 fun x hx => by simpa using hn' x hx]
    rfl
end Go.Proofs.Ytcmciimogcfakaa

/- The plain law: what is reached by names and pairs. -/
set_option linter.unusedVariables false
set_option linter.unusedSimpArgs false
namespace Go.Proofs.Ytcmciimogcfakaa
open Go Go.RowKit
open Classical

theorem countP_lt {α : Type} {p q : α → Bool} : ∀ {L : List α}, (∀ x ∈ L, p x = true → q x = true) → (∃ x ∈ L, q x = true ∧ p x = false) → L.countP p < L.countP q
  | [], _, ⟨x, hx, _⟩ => by cases hx
  | a :: L, hm, ⟨x, hx, h1, h2⟩ => by
    have hle : L.countP p ≤ L.countP q := List.countP_mono_left fun y hy => hm y (by simp [hy])
    rw [List.countP_cons, List.countP_cons]
    rcases List.mem_cons.1 hx with rfl | hx
    · rw [if_pos h1, if_neg (by rw [h2]; decide)]
      omega
    · have ih := countP_lt (p := p) (q := q) (L := L) (fun y hy => hm y (by simp [hy])) ⟨x, hx, h1, h2⟩
      have ha := hm a (by simp)
      cases hp : p a with
      | true => rw [if_pos rfl, if_pos (ha hp)]; omega
      | false => rw [if_neg (by decide)]; split <;> omega
/-- What only grows stands still soon. -/
theorem pigeon {α : Type} (L : List α) (p : Nat → α → Bool) (hm : ∀ n x, x ∈ L → p n x = true → p (n + 1) x = true) : ∃ k, k ≤ L.length ∧ ∀ x ∈ L, p (k + 1) x = true → p k x = true := by
  refine Classical.byContradiction fun hn => ?_
  have h : ∀ k, k ≤ L.length + 1 → k ≤ L.countP (p k) := by
    intro k
    induction k with
    | zero => intro _; exact Nat.zero_le _
    | succ k ih =>
      intro hk
      have h1 := ih (by omega)
      have h2 : L.countP (p k) < L.countP (p (k + 1)) := countP_lt (hm k) (Classical.byContradiction fun h => hn ⟨k, by omega, fun x hx hq => by
        cases hp : p k x with
        | true => rfl
        | false => exact absurd ⟨x, hx, hq, hp⟩ h⟩)
      omega
  have h1 := h (L.length + 1) (Nat.le_refl _)
  have h2 : L.countP (p (L.length + 1)) ≤ L.length := List.countP_le_length
  omega
theorem least {P : Nat → Prop} : ∀ {k : Nat}, P k → ∃ N, N ≤ k ∧ P N ∧ ∀ n, n < N → ¬ P n
  | 0, h => ⟨0, Nat.le_refl _, h, fun n hn => by omega⟩
  | k + 1, h => by
    by_cases hk : ∃ n, n ≤ k ∧ P n
    · obtain ⟨n, hn, hp⟩ := hk
      have : ∀ m, m ≤ k → P m → ∃ N, N ≤ k ∧ P N ∧ ∀ n, n < N → ¬ P n := by
        intro m
        induction m using Nat.strongRecOn with
        | ind m ih =>
          intro hm hp
          by_cases hq : ∃ j, j < m ∧ P j
          · obtain ⟨j, hj, hpj⟩ := hq
            exact ih j hj (by omega) hpj
          · exact ⟨m, hm, hp, fun j hj hpj => hq ⟨j, hj, hpj⟩⟩
      obtain ⟨N, h1, h2, h3⟩ := this n hn hp
      exact ⟨N, by omega, h2, h3⟩
    · exact ⟨k + 1, Nat.le_refl _, h, fun n hn hp => hk ⟨n, by omega, hp⟩⟩

theorem lv_ne {cs : List Ce} {h : Int} (hv : lv cs h = true) : h ≠ 0 := by
  intro h0
  subst h0
  simp [lv, liveC, findH] at hv
theorem has_mem {l : List Int} {h : Int} (h0 : h ≠ 0) : has l h = true ↔ h ∈ l := by
  rw [has_iff]
  exact ⟨fun h => h.2, fun h => ⟨h0, h⟩⟩
theorem live_iff {cs : List Ce} (hR : Rs cs) {h : Int} : h ∈ liveL cs ↔ lv cs h = true := ⟨lv_of hR, live_mem⟩
theorem those_mem {all l : List Int} {x : Int} : x ∈ thoseL all l true ↔ x ∈ all ∧ has l x = true := by
  unfold thoseL
  rw [List.mem_filter]
  simp
theorem liveL_nodup {cs : List Ce} (hR : Rs cs) : (liveL cs).Nodup := by
  unfold liveL
  refine List.pairwise_map.2 ?_
  have h2 : (liveX cs).Nodup := (liveX_perm cs).symm.nodup ((inIx_nodup 1 cs 0).imp fun h => by omega)
  refine h2.imp_of_mem fun {a b} ha hb hne he => ?_
  obtain ⟨c, hc, _⟩ := liveX_mem.1 ha
  obtain ⟨d, hd', _⟩ := liveX_mem.1 hb
  rw [hd_of hc, hd_of hd'] at he
  have h1 := hR.at hc
  have h2 := hR.at hd'
  unfold pk at he
  exact hne (by omega)

theorem Rch.mono {cs : List Ce} {l m : List Int} (h : ∀ x ∈ l, lv cs x = true → Rch cs m x) {x : Int} (hx : Rch cs l x) : Rch cs m x := by
  induction hx with
  | base hm hv => exact h _ hm hv
  | step _ hm hv ih => exact .step ih hm hv
theorem mem_fromL {cs : List Ce} {l : List Int} {x : Int} : x ∈ fromL cs l ↔ Rch cs l x := by
  unfold fromL
  rw [List.mem_filter, decide_eq_true_iff]
  exact ⟨fun h => h.2, fun h => ⟨live_mem h.lives, h⟩⟩
theorem fromL_congr {cs : List Ce} {l m : List Int} (h : ∀ x, Rch cs l x ↔ Rch cs m x) : fromL cs l = fromL cs m := by
  unfold fromL
  exact List.filter_congr fun x _ => decide_eq_decide.2 (h x)
theorem itr_zero {cs : List Ce} (hR : Rs cs) {l : List Int} {x : Int} : x ∈ itrL cs l 0 ↔ lv cs x = true ∧ x ∈ l := by
  show x ∈ thoseL _ _ _ ↔ _
  rw [those_mem, live_iff hR]
  exact ⟨fun h => ⟨h.1, (has_mem (lv_ne h.1)).1 h.2⟩, fun h => ⟨h.1, (has_mem (lv_ne h.1)).2 h.2⟩⟩
theorem itr_succ {cs : List Ce} (hR : Rs cs) {l : List Int} {n : Nat} {x : Int} : x ∈ itrL cs l (n + 1) ↔ lv cs x = true ∧ (x ∈ itrL cs l n ∨ ∃ a ∈ itrL cs l n, x ∈ outL cs a) := by
  show x ∈ thoseL _ _ _ ↔ _
  rw [those_mem, live_iff hR]
  have : ∀ h0 : x ≠ 0, has (itrL cs l n ++ (itrL cs l n).flatMap (outL cs)) x = true ↔ (x ∈ itrL cs l n ∨ ∃ a ∈ itrL cs l n, x ∈ outL cs a) := fun h0 => by
    rw [has_mem h0, List.mem_append, List.mem_flatMap]
  exact ⟨fun h => ⟨h.1, (this (lv_ne h.1)).1 h.2⟩, fun h => ⟨h.1, (this (lv_ne h.1)).2 h.2⟩⟩
theorem itr_rch {cs : List Ce} (hR : Rs cs) {l : List Int} : ∀ {n : Nat} {x : Int}, x ∈ itrL cs l n → Rch cs l x
  | 0, x, h => by
    rw [itr_zero hR] at h
    exact .base h.2 h.1
  | n + 1, x, h => by
    rw [itr_succ hR] at h
    rcases h.2 with h1 | ⟨a, ha, h1⟩
    · exact itr_rch hR h1
    · exact .step (itr_rch hR ha) h1 h.1
theorem itr_up {cs : List Ce} (hR : Rs cs) {l : List Int} {n : Nat} {x : Int} (h : x ∈ itrL cs l n) : x ∈ itrL cs l (n + 1) :=
  (itr_succ hR).2 ⟨(itr_rch hR h).lives, .inl h⟩
theorem itr_le {cs : List Ce} (hR : Rs cs) {l : List Int} {n m : Nat} (hnm : n ≤ m) {x : Int} (h : x ∈ itrL cs l n) : x ∈ itrL cs l m := by
  induction hnm with
  | refl => exact h
  | step _ ih => exact itr_up hR ih
theorem rch_itr {cs : List Ce} (hR : Rs cs) {l : List Int} {x : Int} (h : Rch cs l x) : ∃ n, x ∈ itrL cs l n := by
  induction h with
  | base hm hv => exact ⟨0, (itr_zero hR).2 ⟨hv, hm⟩⟩
  | step _ hm hv ih =>
    obtain ⟨n, hn⟩ := ih
    exact ⟨n + 1, (itr_succ hR).2 ⟨hv, .inr ⟨_, hn, hm⟩⟩⟩
/-- The document's reach is what is reached. -/
theorem rFromL_eq {cs : List Ce} (hR : Rs cs) (l : List Int) : rFromL cs l = fromL cs l := by
  obtain ⟨k, hk, hst⟩ := pigeon (liveL cs) (fun n x => decide (x ∈ itrL cs l n)) fun n x _ h => by
    simp only [decide_eq_true_iff] at h ⊢
    exact itr_up hR h
  simp only [decide_eq_true_iff] at hst
  have hall : ∀ m x, x ∈ itrL cs l m → x ∈ itrL cs l k := by
    intro m
    induction m with
    | zero => intro x h; exact itr_le hR (Nat.zero_le _) h
    | succ m ih =>
      intro x h
      rw [itr_succ hR] at h
      refine hst x (live_mem h.1) ((itr_succ hR).2 ⟨h.1, ?_⟩)
      rcases h.2 with h1 | ⟨a, ha, h1⟩
      · exact .inl (ih x h1)
      · exact .inr ⟨a, ih a ha, h1⟩
  have hmem : ∀ x, x ∈ rFromL cs l ↔ Rch cs l x := fun x => ⟨fun h => itr_rch hR h, fun h => by
    obtain ⟨n, hn⟩ := rch_itr hR h
    exact itr_le hR hk (hall n x hn)⟩
  have hf : ∃ p : Int → Bool, rFromL cs l = (liveL cs).filter p := by
    unfold rFromL
    cases (liveL cs).length with
    | zero => exact ⟨_, rfl⟩
    | succ n => exact ⟨_, rfl⟩
  obtain ⟨p, hp⟩ := hf
  rw [hp]
  unfold fromL
  refine List.filter_congr fun x hx => ?_
  have h1 : p x = true ↔ Rch cs l x := by
    rw [← hmem, hp, List.mem_filter]
    exact ⟨fun h => ⟨hx, h⟩, fun h => h.2⟩
  cases hpx : p x with
  | true => exact (decide_eq_true (h1.1 hpx)).symm
  | false => exact (decide_eq_false fun h => by rw [h1.2 h] at hpx; cases hpx).symm

/-- What is reached by names and by pairs. -/
inductive RchT (cs : List Ce) (P : List Pr) (l : List Int) : Int → Prop
  | base {h : Int} (hm : h ∈ l) (hv : lv cs h = true) : RchT cs P l h
  | step {a h : Int} (ha : RchT cs P l a) (hm : h ∈ outL cs a) (hv : lv cs h = true) : RchT cs P l h
  | pair {q : Pr} (hq : q ∈ P) (hk : RchT cs P l q.1) (hv : lv cs q.2 = true) : RchT cs P l q.2
theorem RchT.lives {cs : List Ce} {P : List Pr} {l : List Int} {h : Int} (hr : RchT cs P l h) : lv cs h = true := by cases hr <;> assumption
theorem RchT.mono {cs : List Ce} {P P' : List Pr} {l m : List Int} (hP : ∀ q ∈ P, q ∈ P') (h : ∀ x ∈ l, lv cs x = true → RchT cs P' m x) {x : Int} (hx : RchT cs P l x) : RchT cs P' m x := by
  induction hx with
  | base hm hv => exact h _ hm hv
  | step _ hm hv ih => exact .step ih hm hv
  | pair hq _ hv ih => exact .pair (hP _ hq) ih hv
theorem Rch.toT {cs : List Ce} {P : List Pr} {l : List Int} {x : Int} (h : Rch cs l x) : RchT cs P l x := by
  induction h with
  | base hm hv => exact .base hm hv
  | step _ hm hv ih => exact .step ih hm hv
noncomputable def fixL (cs : List Ce) (T : List Pl) (l : List Int) : List Int := (liveL cs).filter fun h => decide (RchT cs (pairsL T) l h)
theorem mem_fixL {cs : List Ce} {T : List Pl} {l : List Int} {x : Int} : x ∈ fixL cs T l ↔ RchT cs (pairsL T) l x := by
  unfold fixL
  rw [List.mem_filter, decide_eq_true_iff]
  exact ⟨fun h => h.2, fun h => ⟨live_mem h.lives, h⟩⟩
theorem mem_newsL {cs : List Ce} {T : List Pl} {l : List Int} {v : Int} : v ∈ newsL cs T l ↔ ∃ q ∈ pairsL T, q.2 = v ∧ q.1 ∈ l ∧ lv cs q.1 = true ∧ lv cs q.2 = true ∧ q.2 ∉ l := by
  unfold newsL newP
  simp only [List.mem_map, List.mem_filter, Bool.and_eq_true, decide_eq_true_iff, Bool.not_eq_true', decide_eq_false_iff_not]
  exact ⟨fun ⟨q, ⟨h1, ⟨⟨h2, h3⟩, h4⟩, h5⟩, h6⟩ => ⟨q, h1, h6, h2, h3, h4, h5⟩, fun ⟨q, h1, h6, h2, h3, h4, h5⟩ => ⟨q, ⟨h1, ⟨⟨h2, h3⟩, h4⟩, h5⟩, h6⟩⟩
theorem mem_heldL {cs : List Ce} {T : List Pl} {l : List Int} {v : Int} : v ∈ heldL cs T l ↔ ∃ q ∈ pairsL T, q.2 = v ∧ q.1 ∈ l ∧ lv cs q.1 = true ∧ lv cs q.2 = true := by
  unfold heldL heldP
  simp only [List.mem_map, List.mem_filter, Bool.and_eq_true]
  exact ⟨fun ⟨q, ⟨h1, ⟨h2, h3⟩, h4⟩, h6⟩ => ⟨q, h1, h6, (has_mem (lv_ne h2)).1 h3, h2, h4⟩, fun ⟨q, h1, h6, h2, h3, h4⟩ => ⟨q, ⟨h1, ⟨h3, (has_mem (lv_ne h3)).2 h2⟩, h4⟩, h6⟩⟩
theorem nthP_f (cs : List Ce) (T : List Pl) (l : List Int) : ∀ n, ∃ m, nthP cs T l n = fromL cs m
  | 0 => ⟨_, rfl⟩
  | n + 1 => ⟨_, rfl⟩
theorem nthP_lv {cs : List Ce} {T : List Pl} {l : List Int} {n : Nat} {x : Int} (h : x ∈ nthP cs T l n) : lv cs x = true := by
  obtain ⟨m, hm⟩ := nthP_f cs T l n
  rw [hm, mem_fromL] at h
  exact h.lives
theorem from_idem (cs : List Ce) (l : List Int) : fromL cs (fromL cs l) = fromL cs l :=
  fromL_congr fun x => ⟨fun h => h.mono fun y hy _ => mem_fromL.1 hy, fun h => .base (mem_fromL.2 h) h.lives⟩
theorem nthP_idem (cs : List Ce) (T : List Pl) (l : List Int) (n : Nat) : fromL cs (nthP cs T l n) = nthP cs T l n := by
  obtain ⟨m, hm⟩ := nthP_f cs T l n
  rw [hm, from_idem]
theorem nthP_up {cs : List Ce} {T : List Pl} {l : List Int} {n : Nat} {x : Int} (h : x ∈ nthP cs T l n) : x ∈ nthP cs T l (n + 1) :=
  mem_fromL.2 (.base (List.mem_append.2 (.inr h)) (nthP_lv h))
theorem nthP_T {cs : List Ce} {T : List Pl} {l : List Int} : ∀ {n : Nat} {x : Int}, x ∈ nthP cs T l n → RchT cs (pairsL T) l x
  | 0, x, h => (mem_fromL.1 h).toT
  | n + 1, x, h => by
    have h := mem_fromL.1 h
    refine RchT.mono (l := newsL cs T (nthP cs T l n) ++ nthP cs T l n) (P := pairsL T) (fun _ h => h) (fun y hy hv => ?_) h.toT
    rcases List.mem_append.1 hy with hy | hy
    · obtain ⟨q, hq, rfl, h1, h2, h3, h4⟩ := mem_newsL.1 hy
      exact .pair hq (nthP_T h1) h3
    · exact nthP_T hy
/-- The program's rounds end, and soon. -/
theorem pn_ex (cs : List Ce) (T : List Pl) (l : List Int) (h8 : T.length ≤ 8) : ∃ N, N ≤ (pairsL T).length ∧ PN cs T l N := by
  obtain ⟨k, hk, hst⟩ := pigeon (pairsL T) (fun n q => decide (q.2 ∈ nthP cs T l n)) fun n q _ h => by
    simp only [decide_eq_true_iff] at h ⊢
    exact nthP_up h
  simp only [decide_eq_true_iff] at hst
  have hz : newsL cs T (nthP cs T l k) = [] := by
    refine List.eq_nil_iff_forall_not_mem.2 fun v hv => ?_
    obtain ⟨q, hq, rfl, h1, h2, h3, h4⟩ := mem_newsL.1 hv
    exact h4 (hst q hq (mem_fromL.2 (.base (List.mem_append.2 (.inl hv)) h3)))
  obtain ⟨N, h1, h2, h3⟩ := least (P := fun n => newsL cs T (nthP cs T l n) = []) hz
  have := pairsL_le T
  exact ⟨N, by omega, by omega, h3, h2⟩
theorem PN.eqL {cs : List Ce} {T : List Pl} {l : List Int} {N : Nat} (h : PN cs T l N) : nthP cs T l N = fixL cs T l := by
  have hmem : ∀ x, x ∈ nthP cs T l N ↔ RchT cs (pairsL T) l x := fun x => ⟨nthP_T, fun hx => by
    induction hx with
    | base hm hv =>
      have : ∀ n, _ ∈ nthP cs T l n := fun n => by
        induction n with
        | zero => exact mem_fromL.2 (.base hm hv)
        | succ n ih => exact nthP_up ih
      exact this N
    | step _ hm hv ih =>
      rw [← nthP_idem, mem_fromL] at ih ⊢
      exact .step ih hm hv
    | pair hq _ hv ih =>
      refine Classical.byContradiction fun hn => ?_
      have := mem_newsL.2 ⟨_, hq, rfl, ih, nthP_lv ih, hv, hn⟩
      rw [h.eq] at this
      cases this⟩
  obtain ⟨m, hm⟩ := nthP_f cs T l N
  rw [hm]
  unfold fromL fixL
  refine List.filter_congr fun x _ => decide_eq_decide.2 ?_
  rw [← hmem, hm, mem_fromL]
theorem nthR_eq {cs : List Ce} (hR : Rs cs) (T : List Pl) (l : List Int) : ∀ n, nthR cs T l n = nthP cs T l n
  | 0 => rFromL_eq hR l
  | n + 1 => by
    show rFromL cs _ = fromL cs _
    rw [rFromL_eq hR, nthR_eq hR T l n]
    refine fromL_congr fun x => ⟨fun h => h.mono fun y hy hv => ?_, fun h => h.mono fun y hy hv => ?_⟩
    · rcases List.mem_append.1 hy with hy | hy
      · exact .base (List.mem_append.2 (.inr hy)) hv
      · by_cases hm : y ∈ nthP cs T l n
        · exact .base (List.mem_append.2 (.inr hm)) hv
        · obtain ⟨q, hq, rfl, h1, h2, h3⟩ := mem_heldL.1 hy
          exact .base (List.mem_append.2 (.inl (mem_newsL.2 ⟨q, hq, rfl, h1, h2, h3, hm⟩))) hv
    · rcases List.mem_append.1 hy with hy | hy
      · obtain ⟨q, hq, rfl, h1, h2, h3, h4⟩ := mem_newsL.1 hy
        exact .base (List.mem_append.2 (.inr (mem_heldL.2 ⟨q, hq, rfl, h1, h2, h3⟩))) hv
      · exact .base (List.mem_append.2 (.inl hy)) hv
theorem news_of_eq {cs : List Ce} {T : List Pl} {l : List Int} {n : Nat} (h : nthP cs T l (n + 1) = nthP cs T l n) : newsL cs T (nthP cs T l n) = [] := by
  refine List.eq_nil_iff_forall_not_mem.2 fun v hv => ?_
  obtain ⟨q, hq, rfl, h1, h2, h3, h4⟩ := mem_newsL.1 hv
  have : q.2 ∈ nthP cs T l (n + 1) := mem_fromL.2 (.base (List.mem_append.2 (.inl hv)) h3)
  rw [h] at this
  exact h4 this
theorem PN.toR {cs : List Ce} (hR : Rs cs) {T : List Pl} {l : List Int} {N : Nat} (h : PN cs T l N) : RN cs T l N :=
  ⟨h.lt, fun n hn => by rw [nthR_eq hR, nthR_eq hR]; exact fun he => h.ne n hn (news_of_eq he), by
    rw [nthR_eq hR, nthR_eq hR]
    show fromL cs (newsL cs T (nthP cs T l N) ++ nthP cs T l N) = _
    rw [h.eq, List.nil_append, nthP_idem]⟩
theorem PN.uniq {cs : List Ce} {T : List Pl} {l : List Int} {N M : Nat} (h : PN cs T l N) (k : PN cs T l M) : N = M := by
  rcases Nat.lt_trichotomy N M with h1 | h1 | h1
  · exact absurd h.eq (k.ne _ h1)
  · exact h1
  · exact absurd k.eq (h.ne _ h1)
/-- How many rounds. -/
noncomputable def rdN (cs : List Ce) (T : List Pl) (l : List Int) : Nat := if h : ∃ N, N ≤ (pairsL T).length ∧ PN cs T l N then h.choose else 0
theorem rdN_ok (cs : List Ce) (T : List Pl) (l : List Int) (h8 : T.length ≤ 8) : rdN cs T l ≤ (pairsL T).length ∧ PN cs T l (rdN cs T l) := by
  have h := pn_ex cs T l h8
  unfold rdN
  rw [dif_pos h]
  exact h.choose_spec
theorem rdN_zero {cs : List Ce} {T : List Pl} {l : List Int} (h8 : T.length ≤ 8) (h : newsL cs T (fromL cs l) = []) : rdN cs T l = 0 :=
  (rdN_ok cs T l h8).2.uniq ⟨by decide, fun n hn => by omega, h⟩

/-- What is closed. -/
def Clo (cs : List Ce) (T : List Pl) (l : List Int) : Prop := (∀ a ∈ l, lv cs a = true → ∀ x ∈ outL cs a, lv cs x = true → x ∈ l) ∧ ∀ q ∈ pairsL T, q.1 ∈ l → lv cs q.1 = true → lv cs q.2 = true → q.2 ∈ l
theorem rCl_iff {cs : List Ce} (hR : Rs cs) {l : List Int} : rCl cs l ↔ ∀ a ∈ l, lv cs a = true → ∀ x ∈ outL cs a, lv cs x = true → x ∈ l := by
  unfold rCl
  refine ⟨fun h a ha hv x hx hxv => ?_, fun h a ha x hx => ?_⟩
  · exact (has_mem (lv_ne hxv)).1 (h a (those_mem.2 ⟨live_mem hv, (has_mem (lv_ne hv)).2 ha⟩) x (those_mem.2 ⟨live_mem hxv, (has_mem (lv_ne hxv)).2 hx⟩))
  · rw [those_mem, live_iff hR] at ha hx
    have h1 := lv_ne ha.1
    have h2 := lv_ne hx.1
    exact (has_mem h2).2 (h a ((has_mem h1).1 ha.2) ha.1 x ((has_mem h2).1 hx.2) hx.1)
theorem rCl12_iff {cs : List Ce} (hR : Rs cs) {T : List Pl} {l : List Int} : rCl12 cs T l ↔ Clo cs T l := by
  unfold rCl12 Clo
  rw [rCl_iff hR, and_comm]
  refine and_congr Iff.rfl ⟨fun h q hq h1 h2 h3 => (has_mem (lv_ne h3)).1 (h q.2 (mem_heldL.2 ⟨q, hq, rfl, h1, h2, h3⟩)), fun h v hv => ?_⟩
  obtain ⟨q, hq, rfl, h1, h2, h3⟩ := mem_heldL.1 hv
  exact (has_mem (lv_ne h3)).2 (h q hq h1 h2 h3)
theorem pCl_iff {cs : List Ce} {T : List Pl} {l : List Int} : pCl cs T l ↔ Clo cs T l := by
  unfold pCl Clo
  rw [and_comm]
  refine and_congr ⟨fun h a ha hv x hx hxv => ?_, fun h ⟨x, hx, hn⟩ => hn ?_⟩ ⟨fun h q hq h1 h2 h3 => ?_, fun h => ?_⟩
  · exact Classical.byContradiction fun hn => h ⟨x, mem_fromL.2 (.step (.base ha hv) hx hxv), hn⟩
  · replace hx := mem_fromL.1 hx
    clear hn
    induction hx with
    | base hm hv => exact hm
    | step ha hm hv ih => exact h _ ih ha.lives _ hm hv
  · exact Classical.byContradiction fun hn => by
      have := mem_newsL.2 ⟨q, hq, rfl, h1, h2, h3, hn⟩
      rw [h] at this
      cases this
  · refine List.eq_nil_iff_forall_not_mem.2 fun v hv => ?_
    obtain ⟨q, hq, rfl, h1, h2, h3, h4⟩ := mem_newsL.1 hv
    exact h4 (h q hq h1 h2 h3)
theorem clo_fix (cs : List Ce) (T : List Pl) (l : List Int) : Clo cs T (fixL cs T l) :=
  ⟨fun a ha hv x hx hxv => mem_fixL.2 (.step (mem_fixL.1 ha) hx hxv), fun q hq h1 h2 h3 => mem_fixL.2 (.pair hq (mem_fixL.1 h1) h3)⟩
theorem clo_least {cs : List Ce} {T : List Pl} {l m : List Int} (hc : Clo cs T m) (h : ∀ a ∈ l, lv cs a = true → a ∈ m) {x : Int} (hx : x ∈ fixL cs T l) : x ∈ m := by
  replace hx := mem_fixL.1 hx
  induction hx with
  | base hm hv => exact h _ hm hv
  | step ha hm hv ih => exact hc.1 _ ih ha.lives _ hm hv
  | pair hq hk hv ih => exact hc.2 _ hq ih hk.lives hv
theorem fixL_len {cs : List Ce} (hR : Rs cs) (T : List Pl) (l : List Int) : (fixL cs T l).length ≤ 24 := Nat.le_trans (List.length_filter_le _ _) (liveL_len hR)
theorem fixL_nodup {cs : List Ce} (hR : Rs cs) (T : List Pl) (l : List Int) : (fixL cs T l).Nodup := (liveL_nodup hR).filter _
theorem fix_twice (cs : List Ce) (T : List Pl) (l : List Int) : fixL cs T (fixL cs T l) = fixL cs T l := by
  unfold fixL
  refine List.filter_congr fun x _ => decide_eq_decide.2 ⟨fun h => h.mono (fun _ h => h) fun y hy _ => mem_fixL.1 hy, fun h => .base (mem_fixL.2 h) h.lives⟩
theorem from_fix (cs : List Ce) (T : List Pl) (l : List Int) : fromL cs (fixL cs T l) = fixL cs T l := by
  unfold fromL
  have : ∀ x, Rch cs (fixL cs T l) x ↔ RchT cs (pairsL T) l x := fun x => ⟨fun h => by
    induction h with
    | base hm hv => exact mem_fixL.1 hm
    | step _ hm hv ih => exact .step ih hm hv, fun h => .base (mem_fixL.2 h) h.lives⟩
  exact List.filter_congr fun x _ => decide_eq_decide.2 (this x)
theorem news_fix (cs : List Ce) (T : List Pl) (l : List Int) : newsL cs T (fixL cs T l) = [] :=
  (pCl_iff.2 (clo_fix cs T l)).1
theorem fix_plain {cs : List Ce} {T : List Pl} {l : List Int} (h : ∀ q ∈ pairsL T, q.1 ∉ fromL cs l) : fixL cs T l = fromL cs l := by
  unfold fixL
  have : ∀ x, RchT cs (pairsL T) l x ↔ Rch cs l x := fun x => ⟨fun hx => by
    induction hx with
    | base hm hv => exact .base hm hv
    | step _ hm hv ih => exact .step ih hm hv
    | pair hq _ hv ih => exact absurd (mem_fromL.2 ih) (h _ hq), fun hx => hx.toT⟩
  exact List.filter_congr fun x _ => decide_eq_decide.2 (this x)
theorem news_plain {cs : List Ce} {T : List Pl} {l : List Int} (h : ∀ q ∈ pairsL T, q.1 ∉ fromL cs l) : newsL cs T (fromL cs l) = [] := by
  refine List.eq_nil_iff_forall_not_mem.2 fun v hv => ?_
  obtain ⟨q, hq, rfl, h1, _⟩ := mem_newsL.1 hv
  exact h q hq h1
theorem fix_more {cs : List Ce} {T U : List Pl} {l m : List Int} (hT : ∀ q ∈ pairsL T, q ∈ pairsL U) (hl : ∀ x ∈ l, x ∈ m) {x : Int} (hx : x ∈ fixL cs T l) : x ∈ fixL cs U m :=
  mem_fixL.2 ((mem_fixL.1 hx).mono hT fun y hy hv => .base (hl y hy) hv)
theorem kept_len (m l : List Int) : (keptL m l).length + (l.filter fun x => decide (x ∈ m)).length = l.length := by
  unfold keptL
  induction l with
  | nil => rfl
  | cons a l ih =>
    by_cases h : a ∈ m
    · rw [List.filter_cons_of_neg (by simpa using h), List.filter_cons_of_pos (by simpa using h), List.length_cons, List.length_cons]
      omega
    · rw [List.filter_cons_of_pos (by simpa using h), List.filter_cons_of_neg (by simpa using h), List.length_cons, List.length_cons]
      omega
theorem fix_lost_len (cs : List Ce) (T : List Pl) (l : List Int) : (fixL cs T l).length + (keptL (fixL cs T l) (liveL cs)).length = (liveL cs).length := by
  have h1 := kept_len (fixL cs T l) (liveL cs)
  have h2 : ((liveL cs).filter fun x => decide (x ∈ fixL cs T l)) = fixL cs T l := by
    conv => rhs; unfold fixL
    exact List.filter_congr fun x _ => decide_eq_decide.2 mem_fixL
  rw [h2] at h1
  omega
theorem lost_eq {cs : List Ce} (hR : Rs cs) (m : List Int) : lostL cs m = keptL m (liveL cs) := by
  unfold lostL keptL
  refine List.filter_congr fun x hx => ?_
  have := has_mem (l := m) (lv_ne (lv_of hR hx))
  by_cases h : x ∈ m
  · rw [this.2 h, decide_eq_true h]
  · rw [decide_eq_false h]
    cases hh : has m x with
    | true => exact absurd (this.1 hh) h
    | false => rfl
end Go.Proofs.Ytcmciimogcfakaa

/- store.New, Make. -/
set_option linter.unusedVariables false
set_option linter.unusedSimpArgs false
namespace Go.Proofs.Ytcmciimogcfakaa
open Go Go.RowKit
open Classical

theorem ones8 (cs : List Ce) : ∀ y ∈ cs.map Ce.enc, y.length = 8 ∧ y.all oneC = true := fun y hy => by
  obtain ⟨p, _, rfl⟩ := List.mem_map.1 hy
  exact ⟨rfl, rfl⟩
theorem c_snew (n la : Int) (hn : 0 ≤ n ∧ n ≤ 24) (hla : 0 ≤ la ∧ la ≤ 9) : C Try.prog 38 [eI n, eI la] (tB (List.replicate n.toNat ce0) la) := by
  refine fnOk mixed tyOk Try.func38 (code := Try.f38.body.getD .skip) rfl rfl rfl (gC_in ?_)
  repeat (first | (refine oR ?_; (conv => whnf)) | refine kOps ?_ | refine oNil ?_ | refine sSeq ?_ | refine sR ?_ | refine qSeqN ?_)
  refine oS rfl rfl rfl (fun h1 => ?_) (fun h1 => ?_)
  · exact absurd (dT h1) (by omega)
  repeat (first | (refine oR ?_; (conv => whnf)) | refine kOps ?_ | (refine oG ?_; (conv => whnf)) | (refine sBF ?_; (conv => whnf)))
  refine oS rfl rfl rfl (fun h2 => ?_) (fun h2 => ?_)
  · exact absurd (dT h2) (by omega)
  repeat (first | (refine oR ?_; (conv => whnf)) | refine kOps ?_ | (refine oG ?_; (conv => whnf)) | (refine sBF ?_; (conv => whnf)))
  refine oS rfl rfl rfl (fun h3 => ?_) (fun h3 => ?_)
  · exact absurd (dT h3) (by omega)
  repeat (first | (refine oR ?_; (conv => whnf)) | refine kOps ?_ | (refine oG ?_; (conv => whnf)) | refine oNil ?_ | refine qSeqN ?_ | (refine sBF ?_; (conv => whnf)))
  refine sC rfl (fun h4 => ?_) (fun h4 => ?_)
  · exact absurd (dT h4) (by omega)
  repeat (first | (refine oR ?_; (conv => whnf)) | refine kOps ?_ | refine sSeq ?_ | refine sR ?_ | refine qSeqN ?_ | refine sSkip ?_)
  refine ⟨rfl, n.toNat, by omega, ⟨by decide, ?_⟩, ?_⟩
  · show n.toNat * 80 ≤ _
    omega
  repeat (first | (refine oR ?_; (conv => whnf)) | refine kOps ?_ | refine oNil ?_ | refine qSeqN ?_ | refine sRet ?_)
  refine qEnd ?_
  conv => whnf
  exact congrArg (fun z => AV.agg [.sl z, eI la]) (List.map_replicate (f := Ce.enc) (a := ce0)).symm
theorem c_tnew (n la : Int) (hn : 0 ≤ n ∧ n ≤ 24) (hla : 0 ≤ la ∧ la ≤ 9) : C Try.prog 21 [eI n, eI la] (tS (List.replicate n.toNat ce0) la 0) := by
  refine fnOk mixed tyOk Try.func21 (code := Try.f21.body.getD .skip) rfl rfl rfl (gC_in ?_)
  repeat (first | (refine oR ?_; (conv => whnf)) | refine kOps ?_ | refine oNil ?_ | refine sSeq ?_ | refine sR ?_ | refine qSeqN ?_)
  (refine oCall rfl (.inl rfl) rfl rfl rfl (.fz [] _) rfl ⟨rfl, c_snew n la hn hla, ?_⟩; (conv => whnf))
  repeat (first | (refine oR ?_; (conv => whnf)) | refine kOps ?_ | refine oNil ?_ | refine qSeqN ?_ | refine sRet ?_)
  refine qEnd ?_
  conv => whnf
  rfl
theorem c_vnew1 : C Try.prog 39 [eI 1] (.tup [encI [0], eI 0]) := by
  refine fnOk mixed tyOk Try.func39 (code := Try.f39.body.getD .skip) rfl rfl rfl (gC_in ?_)
  repeat (first | (refine oR ?_; (conv => whnf)) | refine kOps ?_ | (refine oG ?_; (conv => whnf)) | refine oNil ?_ | refine sSeq ?_ | refine sR ?_ | refine qSeqN ?_ | refine sSkip ?_ | refine sF ?_ | (refine sBF ?_; (conv => whnf)))
  refine ⟨rfl, 1, rfl, ⟨by decide, by decide⟩, ?_⟩
  repeat (first | (refine oR ?_; (conv => whnf)) | refine kOps ?_ | refine oNil ?_ | refine qSeqN ?_ | refine sRet ?_)
  refine qEnd ?_
  conv => whnf
  rfl
theorem c_cloneCR (cs : List Ce) (hT : cs.length ≤ 24) : CR Try.prog 76 [encC cs] 70 8 (cs.map Ce.enc) := by
  refine fnOkR mixed tyOk Try.func76 (code := Try.f76.body.getD .skip) rfl rfl rfl (gC_in ?_)
  repeat (first | (refine oR ?_; (conv => whnf)) | refine kOps ?_ | refine oNil ?_ | refine sSeq ?_ | refine sR ?_ | refine qSeqN ?_)
  intro b hb
  repeat (first | refine kOps ?_ | refine oNil ?_ | refine qSeqN ?_)
  refine sC rfl (fun h1 => ?_) (fun h1 => ?_)
  · have e : cs = [] := by
      cases cs with
      | nil => rfl
      | cons p T => exact absurd (hb (by simp)) (by simp [h1])
    rw [e]
    repeat (first | (refine oR ?_; (conv => whnf)) | refine kOps ?_ | refine oNil ?_ | refine sSeq ?_ | refine sR ?_ | refine qSeqN ?_ | refine sRet ?_ | refine qSeqR ?_)
    refine qEndR ⟨_, .adopt 2 0 70 8 rfl rfl (by decide), ?_⟩
    conv => whnf
    exact ⟨0, rfl, rfl⟩
  · repeat (first | (refine oR ?_; (conv => whnf)) | refine kOps ?_ | refine sSeq ?_ | refine sR ?_ | refine qSeqN ?_ | refine sSkip ?_)
    refine ⟨ones8 cs, ⟨by decide, by show _ * 80 ≤ _; rw [List.length_map, List.length_replicate]; omega⟩, ?_⟩
    repeat (first | (refine oR ?_; (conv => whnf)) | refine kOps ?_ | refine oNil ?_ | refine qSeqN ?_ | refine sRet ?_)
    refine qEndR ⟨_, .refl _, ?_⟩
    conv => whnf
    exact ⟨_, rfl, rfl⟩
theorem take_K {es : List Ent} {B : Blk} (h : es.length = [B].length) : ∀ i, i < es.length → memB [0] i = true := by
  intro i hi
  rw [h] at hi
  have : i < 1 := hi
  obtain rfl : i = 0 := by omega
  rfl
theorem take_Ll {B : Blk} : Ll [(0, B)] = lk [B] := by
  funext i
  rcases i with _ | i <;> rfl
theorem c_take1 (cs : List Ce) (i : Nat) (c : Ce) (o : Ob) (hc : cs[i]? = some c) : CE Try.prog 61 [.ptr 0 i 0, .vptr o.enc] [.rows 70 8 (cs.map Ce.enc)] (.tup []) [.rows 70 8 ((cs.set i ⟨1, c.gn, o⟩).map Ce.enc)] := by
  refine fnOkE mixed tyOk Try.func61 (code := Try.f61.body.getD .skip) rfl rfl rfl rfl rfl fun es hes => (gC_in ?_)
  have hi := lt_of_get hc
  have hg := encC_get hc
  have hg2 : ((cs.map Ce.enc).set i (⟨1, c.gn, c.ob⟩ : Ce).enc)[i]? = some (⟨1, c.gn, c.ob⟩ : Ce).enc := by simp [hi]
  have hs : ((cs.map Ce.enc).set i (⟨1, c.gn, c.ob⟩ : Ce).enc).set i (⟨1, c.gn, o⟩ : Ce).enc = (cs.set i ⟨1, c.gn, o⟩).map Ce.enc := by simp [List.map_set]
  skip
  refine sDt [5, 8] ?_
  repeat (first | refine g3skip ?_ | (apply g3run; exact rfl; exact rfl; exact .inl rfl; (conv => whnf); exact .mk rfl) | refine g3nil ?_ | refine kT ?_ | (apply gTrun; exact rfl; exact rfl; exact rfl; (conv => whnf)))
  refine ⟨_, hg, ?_⟩
  conv => whnf
  repeat (first | (apply gRcons; exact rfl; exact rfl; exact rfl; (conv => whnf); exact .mk rfl) | exact gRnil | exact KEq.mk rfl | (apply gTrun; exact rfl; exact rfl; exact rfl; (conv => whnf)))
  refine ⟨_, hg2, ?_⟩
  conv => whnf
  repeat (first | exact gRnil | refine gTnil ?_ | exact KEq.mk rfl)
  exact qEndEN (efEnd_of [] [(0, .rows 70 8 ((cs.set i ⟨1, c.gn, o⟩).map Ce.enc))] ⟨congrArg (Blk.rows 70 8) hs, trivial⟩ trivial rfl rfl take_Ll (take_K hes) rfl)
theorem c_turn (cs : List Ce) (la : Int) (i : Nat) (c : Ce) (o : Ob) (hc : cs[i]? = some c) (hT : cs.length ≤ 24) : C Try.prog 60 [tB cs la, eI (i : Int), .fn 61 [.vptr o.enc]] (tB (cs.set i ⟨1, c.gn, o⟩) la) := by
  refine fnOk mixed tyOk Try.func60 (code := Try.f60.body.getD .skip) rfl rfl rfl (gC_in ?_)
  have hi := lt_of_get hc
  have ht := c_take1 cs i c o hc
  repeat (first | (refine oR ?_; (conv => whnf)) | refine kOps ?_ | refine oNil ?_ | refine sSeq ?_ | refine sR ?_ | refine qSeqN ?_)
  refine oCall rfl (.inl rfl) rfl rfl rfl (.nw [] 70 8 (cs.map Ce.enc)) rfl ⟨⟨rfl, rfl⟩, c_cloneCR cs hT, ?_⟩
  conv => whnf
  repeat (first | (refine oR ?_; (conv => whnf)) | refine kOps ?_ | refine oNil ?_ | refine sSeq ?_ | refine sR ?_ | refine qSeqN ?_)
  refine ⟨i, rfl, by simpa using hi, ?_⟩
  conv => whnf
  repeat refine kOps ?_
  refine oCall rfl (.inl rfl) rfl rfl rfl (.ef [2] (.tup []) [.rows 70 8 ((cs.set i ⟨1, c.gn, o⟩).map Ce.enc)]) rfl ⟨⟨rfl, rfl, rfl, rfl⟩, ht, ?_⟩
  conv => whnf
  repeat (first | (refine oR ?_; (conv => whnf)) | refine kOps ?_ | refine oNil ?_ | refine sSeq ?_ | refine sR ?_ | refine qSeqN ?_ | refine sRet ?_)
  refine qEnd ?_
  conv => whnf
  rfl
theorem c_take (cs : List Ce) (la : Int) (i : Nat) (X : List Nat) (c : Ce) (o : Ob) (hR : Rs cs) (hX : inIx 0 cs 0 = i :: X) (hc : cs[i]? = some c) : C Try.prog 40 [tB cs la, .agg o.enc] (.tup [tB (cs.set i ⟨1, c.gn, o⟩) la, eI (pk i c.gn), eI 0]) := by
  refine fnOk mixed tyOk Try.func40 (code := Try.f40.body.getD .skip) rfl rfl rfl (gC_in ?_)
  have hT : cs.length ≤ 1099511627776 := Nat.le_trans hR.hl (by decide)
  have hit := it_in ⟨cs, la, 0⟩ 0 hT
  have hat := hR.at hc
  repeat (first | (refine oR ?_; (conv => whnf)) | refine kOps ?_ | refine oNil ?_ | refine sSeq ?_ | refine sR ?_ | refine qSeqN ?_)
  (refine oCall rfl (.inl rfl) rfl rfl rfl (.fz [] _) rfl ⟨rfl, c_in ⟨cs, la, 0⟩ 0, ?_⟩; (conv => whnf))
  repeat (first | refine kOps ?_ | refine oNil ?_ | refine qSeqN ?_ | refine sBlk ?_)
  refine forIn rfl rfl hit (fun _ => ⟨tl [(2, .ptr 0 0 0), (3, .ptr 1 0 0), (4, .ptr 2 0 0), (5, .ptr 3 0 0), (6, .ptr 4 0 0)], Ll [(0, .box 24 [encC cs, eI la]), (1, .box 68 o.enc), (2, .box 24 [.nilsl, i0]), (3, .box 3 [i0]), (4, .box 52 [i0])], 26, 5, [], none⟩) (fun n => n = 0) .kp rfl (fun n z hn hz => ?_) (fun hn => ?_)
  rotate_left
  · exfalso
    unfold inItems at hn
    simp only [hX] at hn
    simp at hn
  subst hn
  have hz : z = [eI (i : Int)] := by
    unfold inItems at hz
    simp only [hX] at hz
    simp at hz
    exact hz.symm
  subst hz
  refine ⟨rfl, rfl, ?_⟩
  repeat (first | (refine oR ?_; (conv => whnf)) | refine kOps ?_ | refine oNil ?_ | refine sR ?_)
  refine qAs ?_
  repeat (first | (refine oR ?_; (conv => whnf)) | refine kOps ?_ | refine sSeq ?_ | refine sR ?_ | refine sBlk ?_)
  (refine oCall rfl (.inl rfl) rfl rfl rfl (.fz [1] _) rfl ⟨rfl, c_turn cs la i c o hc hR.hl, ?_⟩; (conv => whnf))
  repeat (first | (refine oR ?_; (conv => whnf)) | refine kOps ?_ | refine oNil ?_ | refine sSeq ?_ | refine qSeqN ?_)
  refine sDt [9, 10, 11] ?_
  repeat (first | (apply g3run; exact rfl; exact rfl; exact .inl rfl; (conv => whnf); exact .mk rfl) | (apply g3run; exact rfl; exact rfl; exact .inl rfl; (conv => whnf)))
  refine ⟨i, _, rfl, encC_get hc, ?_⟩
  conv => whnf
  exact .mk rfl
  repeat (first | (apply g3run; exact rfl; exact rfl; exact .inl rfl; (conv => whnf); exact .mk rfl) | (apply g3run; exact rfl; exact rfl; exact .inl rfl; (conv => whnf)))
  (refine ⟨.fz [] _, rfl, c_pack (i : Int) c.gn hat.1 hat.2, ?_⟩; (conv => whnf); exact .mk rfl)
  repeat (first | refine qSeqN ?_ | refine sRet ?_ | refine qSeqR ?_ | refine qBlkR ?_ | refine qRndR ?_ | refine g3skip ?_ | refine g3nil ?_ | refine kT ?_ | (apply gTrun; exact rfl; exact rfl; exact rfl; (conv => whnf); exact .mk rfl) | exact gRnil | refine gTnil ?_)
  refine qEnd ?_
  conv => whnf
  rfl
end Go.Proofs.Ytcmciimogcfakaa

/- store.Make; the law's small case. -/
set_option linter.unusedVariables false
set_option linter.unusedSimpArgs false
namespace Go.Proofs.Ytcmciimogcfakaa
open Go Go.RowKit
open Classical

theorem c_make (cs : List Ce) (la sr : Int) (i : Nat) (X : List Nat) (c : Ce) (hR : Rs cs) (hX : inIx 0 cs 0 = i :: X) (hc : cs[i]? = some c) (hs : 0 ≤ sr ∧ sr < 1000) : C Try.prog 22 [tS cs la sr, eI 1, eI (-1)] (.tup [tS (cs.set i ⟨1, c.gn, ⟨sr + 1, 0, 0, -1, false, [0]⟩⟩) la (sr + 1), eI (pk i c.gn), eI 0]) := by
  have hw : IntKind.i64.wrap (sr + 1) = sr + 1 := wrapI (by omega) (by omega)
  rw [← hw]
  refine fnOk mixed tyOk Try.func22 (code := Try.f22.body.getD .skip) rfl rfl rfl (gC_in ?_)
  have ht := c_take cs la i X c ⟨IntKind.i64.wrap (sr + 1), 0, 0, -1, false, [0]⟩ hR hX hc
  repeat (first | (refine oR ?_; (conv => whnf)) | refine kOps ?_ | refine oNil ?_ | refine sSeq ?_ | refine sR ?_ | refine qSeqN ?_)
  (refine oCall rfl (.inl rfl) rfl rfl rfl (.fz [] _) rfl ⟨rfl, c_vnew1, ?_⟩; (conv => whnf))
  repeat (first | (refine oR ?_; (conv => whnf)) | refine kOps ?_ | (refine oG ?_; (conv => whnf)) | refine oNil ?_ | refine sSeq ?_ | refine sR ?_ | refine qSeqN ?_ | refine sSkip ?_ | refine sF ?_ | (refine sBT ?_; (conv => whnf)) | (refine sBF ?_; (conv => whnf)))
  (refine oCall rfl (.inl rfl) rfl rfl rfl (.fz [] _) rfl ⟨rfl, ht, ?_⟩; (conv => whnf))
  repeat (first | (refine oR ?_; (conv => whnf)) | refine kOps ?_ | refine oNil ?_ | refine sSeq ?_ | refine sR ?_ | refine qSeqN ?_ | refine sSkip ?_ | refine sF ?_ | refine sRet ?_)
  refine qEnd ?_
  conv => whnf
  rfl

section
variable (cs : List Ce) (la sr : Int) (T : List Pl) (l : List Int) (hR : Rs cs) (hU : Un cs) (h8 : T.length ≤ 8) (hl : l.length ≤ 1099511627776)
include hR hU h8 hl
theorem p_from : C Try.prog 12 [tS cs la sr, encT T, encI l] (encI (fixL cs T l)) := by
  have hN := (rdN_ok cs T l h8).2
  have := c_pfrom cs la sr T l hR hU h8 hl hN
  rwa [hN.eqL] at this
theorem p_rounds : C Try.prog 14 [tS cs la sr, encT T, encI l] (eI (rdN cs T l : Nat)) := c_profunds cs la sr T l hR hU h8 hl (rdN_ok cs T l h8).2
theorem p_lost : C Try.prog 24 [tS cs la sr, encT T, encI l] (encI (keptL (fixL cs T l) (liveL cs))) := by
  have hN := (rdN_ok cs T l h8).2
  have := c_plost cs la sr T l hR hU h8 hl hN
  rwa [hN.eqL] at this
theorem p_closed : C Try.prog 15 [tS cs la sr, encT T, encI l] (.bool (decide (Clo cs T l))) := by
  have := c_pclosed cs la sr T l hR hU h8 hl
  rwa [decide_eq_decide.2 pCl_iff] at this
variable (hT : Rt T)
include hT












end

/-- The store of the small case, so many made. -/
def mkc (i : Nat) : Ce := ⟨1, 0, ⟨(i : Int) + 1, 0, 0, -1, false, [0]⟩⟩
def czf (k i : Nat) : Ce := if i < k then mkc i else ce0
def cz (k : Nat) : List Ce := [czf k 0, czf k 1, czf k 2, czf k 3, czf k 4]
theorem cz_get {k i : Nat} {c : Ce} (h : (cz k)[i]? = some c) : i < 5 ∧ c = czf k i := by
  have hi := lt_of_get h
  have hi' : i < 5 := hi
  refine ⟨hi', ?_⟩
  rcases (show i = 0 ∨ i = 1 ∨ i = 2 ∨ i = 3 ∨ i = 4 by omega) with rfl | rfl | rfl | rfl | rfl <;> (cases h; rfl)
theorem cz_rs (k : Nat) : Rs (cz k) := by
  have h : ∀ c ∈ cz k, ∃ i, c = czf k i := fun c hc => by
    obtain ⟨i, hi⟩ := List.mem_iff_getElem?.1 hc
    exact ⟨i, (cz_get hi).2⟩
  refine ⟨show 5 ≤ 24 by decide, fun c hc => ?_, fun c hc => ?_⟩
  · obtain ⟨i, rfl⟩ := h c hc
    unfold czf
    split
    · exact (show (0 : Int) ≤ 0 ∧ (0 : Int) ≤ 9 by decide)
    · decide
  · obtain ⟨i, rfl⟩ := h c hc
    unfold czf
    split
    · exact (show 1 ≤ 4 by decide)
    · decide
theorem cz_un (k : Nat) : Un (cz k) := by
  intro i j c d hj hc hd' h1 h2
  obtain ⟨_, rfl⟩ := cz_get hc
  obtain ⟨_, rfl⟩ := cz_get hd'
  unfold czf at *
  split at h1 <;> split at h2 <;> rename_i h3 h4
  · rw [if_pos h3, if_pos h4]
    show (j : Int) + 1 ≠ (i : Int) + 1
    omega
  · exact absurd h2 (by decide)
  · exact absurd h1 (by decide)
  · exact absurd h1 (by decide)
theorem cz_make (k : Nat) (hk : k < 4) : C Try.prog 22 [tS (cz k) 3 (k : Int), eI 1, eI (-1)] (.tup [tS (cz (k + 1)) 3 ((k + 1 : Nat) : Int), eI (pk k 0), eI 0]) := by
  have h : ∃ X, inIx 0 (cz k) 0 = k :: X ∧ (cz k)[k]? = some ce0 ∧ (cz k).set k ⟨1, 0, ⟨(k : Int) + 1, 0, 0, -1, false, [0]⟩⟩ = cz (k + 1) := by
    rcases (show k = 0 ∨ k = 1 ∨ k = 2 ∨ k = 3 by omega) with rfl | rfl | rfl | rfl <;> exact ⟨_, rfl, rfl, rfl⟩
  obtain ⟨X, h1, h2, h3⟩ := h
  have := c_make (cz k) 3 (k : Int) k X ce0 (cz_rs k) h1 h2 (by omega)
  rw [h3] at this
  exact this
abbrev sB0 : List Pl := [pl0, pl0, pl0, pl0, pl0, pl0, pl0, pl0]
abbrev sB1 : List Pl := [pl0, pl0, pl0, pl0, pl0, pl0, ⟨1, 1, 2⟩, pl0]
abbrev sB2 : List Pl := [pl0, pl0, pl0, ⟨1, 2, 3⟩, pl0, pl0, ⟨1, 1, 2⟩, pl0]
abbrev sB3 : List Pl := [pl0, pl0, pl0, ⟨1, 2, 3⟩, pl0, ⟨1, 4, 4⟩, ⟨1, 1, 2⟩, pl0]
theorem z_set {T : List Pl} {k v : Int} (h : rightL T = true) (T' : List Pl) (o e : Int) (hs : setL T k v = (T', o, e)) : C Try.prog 23 [encT T, eI k, eI v] (.tup [encT T', eI o, eI e]) := by
  have := c_eset T k v ((rightL_iff T).1 h)
  rwa [hs] at this
theorem sB_prs : pairsL sB3 = [(2, 3), (4, 4), (1, 2)] := rfl
theorem cz_live : liveL (cz 4) = [1, 2, 3, 4] := by
  have h : liveX (cz 4) = [0, 1, 2, 3] := (liveX_of (cz_un 4) (X := [0, 1, 2, 3]) (by rw [show inIx 1 (cz 4) 0 = [0, 1, 2, 3] from rfl]) (by decide)).symm
  rw [liveL, h]
  rfl
theorem cz_lv (x : Int) : lv (cz 4) x = true ↔ x = 1 ∨ x = 2 ∨ x = 3 ∨ x = 4 := by
  rw [← live_iff (cz_rs 4), cz_live]
  simp
theorem cz_out {x : Int} (h : lv (cz 4) x = true) : outL (cz 4) x = [] := by
  rcases (cz_lv x).1 h with rfl | rfl | rfl | rfl <;> decide
theorem cz_rch (l : List Int) (x : Int) : Rch (cz 4) l x ↔ x ∈ l ∧ lv (cz 4) x = true := by
  refine ⟨fun h => ?_, fun h => .base h.1 h.2⟩
  cases h with
  | base hm hv => exact ⟨hm, hv⟩
  | step ha hm hv =>
    rw [cz_out ha.lives] at hm
    cases hm
theorem cz_from {l m : List Int} (h : ([1, 2, 3, 4] : List Int).filter (fun x => decide (x ∈ l)) = m) : fromL (cz 4) l = m := by
  unfold fromL
  rw [← h, cz_live]
  refine List.filter_congr fun x hx => ?_
  have hv : lv (cz 4) x = true := by
    rw [← live_iff (cz_rs 4), cz_live]
    exact hx
  by_cases hm : x ∈ l
  · rw [decide_eq_true hm, decide_eq_true ((cz_rch l x).2 ⟨hm, hv⟩)]
  · rw [decide_eq_false hm, decide_eq_false fun hr => hm ((cz_rch l x).1 hr).1]
theorem cz_pair {q : Pr} : q ∈ pairsL sB3 ↔ q = (2, 3) ∨ q = (4, 4) ∨ q = (1, 2) := by
  rw [sB_prs]
  simp
theorem cz_clo : Clo (cz 4) sB3 [1, 2, 3] := by
  refine ⟨fun a ha hv x hx => ?_, fun q hq h1 _ _ => ?_⟩
  · rw [cz_out hv] at hx
    cases hx
  · rcases cz_pair.1 hq with rfl | rfl | rfl
    · decide
    · exact absurd h1 (by decide)
    · decide
theorem cz_fix : fixL (cz 4) sB3 [1] = [1, 2, 3] := by
  have h1 : RchT (cz 4) (pairsL sB3) [1] 1 := .base (by decide) ((cz_lv 1).2 (by decide))
  have h2 : RchT (cz 4) (pairsL sB3) [1] 2 := .pair (q := (1, 2)) (cz_pair.2 (by decide)) h1 ((cz_lv 2).2 (by decide))
  have h3 : RchT (cz 4) (pairsL sB3) [1] 3 := .pair (q := (2, 3)) (cz_pair.2 (by decide)) h2 ((cz_lv 3).2 (by decide))
  have h4 : ¬ RchT (cz 4) (pairsL sB3) [1] 4 := fun h => by
    have := clo_least cz_clo (l := [1]) (fun a ha _ => by simp at ha; subst ha; decide) (mem_fixL.2 h)
    exact absurd this (by decide)
  rw [fixL, cz_live]
  simp [h1, h2, h3, h4]
theorem cz_news {l m : List Int} (h : (([(2, 3), (4, 4), (1, 2)] : List (Int × Int)).filter fun q => @decide (q.1 ∈ l) (List.instDecidableMemOfLawfulBEq q.1 l) && !@decide (q.2 ∈ l) (List.instDecidableMemOfLawfulBEq q.2 l)).map (·.2) = m) : newsL (cz 4) sB3 l = m := by
  rw [newsL, sB_prs, ← h]
  congr 1
  refine List.filter_congr fun q hq => ?_
  have hv : lv (cz 4) q.1 = true ∧ lv (cz 4) q.2 = true := by
    rw [cz_lv, cz_lv]
    simp at hq
    rcases hq with rfl | rfl | rfl <;> decide
  rw [newP, hv.1, hv.2, Bool.and_true, Bool.and_true]
theorem cz_rd : rdN (cz 4) sB3 [1] = 2 := by
  have e0 : nthP (cz 4) sB3 [1] 0 = [1] := cz_from (by simp)
  have n0 : newsL (cz 4) sB3 [1] = [2] := cz_news (by decide +kernel)
  have e1 : nthP (cz 4) sB3 [1] 1 = [1, 2] := by
    show fromL _ (newsL _ _ (nthP (cz 4) sB3 [1] 0) ++ nthP (cz 4) sB3 [1] 0) = _
    rw [e0, n0]
    exact cz_from (by simp)
  have n1 : newsL (cz 4) sB3 [1, 2] = [3] := cz_news (by decide +kernel)
  have e2 : nthP (cz 4) sB3 [1] 2 = [1, 2, 3] := by
    show fromL _ (newsL _ _ (nthP (cz 4) sB3 [1] 1) ++ nthP (cz 4) sB3 [1] 1) = _
    rw [e1, n1]
    exact cz_from (by simp)
  have n2 : newsL (cz 4) sB3 [1, 2, 3] = [] := cz_news (by decide +kernel)
  refine (rdN_ok (cz 4) sB3 [1] (by decide)).2.uniq ⟨by decide, fun n hn => ?_, by rw [e2, n2]⟩
  rcases (show n = 0 ∨ n = 1 by omega) with rfl | rfl
  · rw [e0, n0]
    decide
  · rw [e1, n1]
    decide
theorem cz_rd0 : rdN (cz 4) sB3 [] = 0 := rdN_zero (by decide) (by
  rw [cz_from (l := []) (m := []) (by simp)]
  exact cz_news (by decide +kernel))
theorem cz_kept : keptL [1, 2, 3] (liveL (cz 4)) = [4] := by
  rw [cz_live, keptL]
  simp
theorem cz_nclo : ¬ Clo (cz 4) sB3 [1, 2] := fun h => by
  have := h.2 (2, 3) (cz_pair.2 (by decide)) (by decide) ((cz_lv 2).2 (by decide)) ((cz_lv 3).2 (by decide))
  exact absurd this (by decide)
end Go.Proofs.Ytcmciimogcfakaa

/- The law's small case. -/
set_option linter.unusedVariables false
set_option linter.unusedSimpArgs false
namespace Go.Proofs.Ytcmciimogcfakaa
open Go Go.RowKit
open Classical

set_option maxRecDepth 100000 in
theorem c_shown12 : C Try.prog 7 [] (.bool true) := by
  refine fnOk mixed tyOk Try.func7 (code := Try.f7.body.getD .skip) rfl rfl rfl (gC_in ?_)
  have hn := c_tnew 5 3 (by decide) (by decide)
  have hn : C Try.prog 21 [eI 5, eI 3] (tS (cz 0) 3 0) := hn
  have hm := cz_make
  repeat (first | (refine oR ?_; (conv => whnf)) | refine kOps ?_ | refine oNil ?_ | refine sSeq ?_ | refine sR ?_ | refine qSeqN ?_)
  (refine oCall rfl (.inl rfl) rfl rfl rfl (.fz [] _) rfl ⟨rfl, hn, ?_⟩; (conv => whnf))
  repeat (first | (refine oR ?_; (conv => whnf)) | refine kOps ?_ | refine oNil ?_ | refine sSeq ?_ | refine sR ?_ | refine qSeqN ?_ | refine sBlk ?_)
  refine sLoop (α := Nat) (fun k => k ≤ 4) (fun k => ⟨tl [(1, .ptr 0 0 0), (2, eI (k : Int))], Ll [(0, .box 26 [encC (cz k), eI 3, eI (k : Int)])], 91, 1, [], none⟩) (fun k => 4 - k) 0 .kp (Nat.zero_le _) fun k hk => ?_
  have hmk := cz_make k
  repeat (first | (refine oR ?_; (conv => whnf)) | refine kOps ?_ | refine oNil ?_ | refine sSeq ?_ | refine sR ?_ | refine qSeqN ?_)
  refine sC rfl (fun h1 => ?_) (fun h1 => ?_)
  · have hlt : k < 4 := by have := dT h1; omega
    have hbig : (4 : Nat) ≤ 1099511627776 := by decide
    repeat (first | (refine oR ?_; (conv => whnf)) | refine kOps ?_ | refine sSeq ?_ | refine sR ?_ | refine qSeqN ?_ | refine sSkip ?_ | refine sBlk ?_)
    (refine oCall rfl (.inl rfl) rfl rfl rfl (.fz [] _) rfl ⟨rfl, hmk hlt, ?_⟩; (conv => whnf))
    repeat (first | (refine oR ?_; (conv => whnf)) | refine kOps ?_ | refine oNil ?_ | refine sR ?_ | refine qSeqN ?_ | refine qBlkN ?_)
    exact qLoopN (k + 1) .kp hlt (by omega)
  have hk4 : k = 4 := by have := dF h1; omega
  subst hk4
  have hR := cz_rs 4
  have hU := cz_un 4
  have f1 := p_from (cz 4) 3 4 sB3 [1] hR hU (by decide) (by decide)
  have f2 := p_lost (cz 4) 3 4 sB3 [1] hR hU (by decide) (by decide)
  have f3 := p_rounds (cz 4) 3 4 sB3 [1] hR hU (by decide) (by decide)
  have f4 := p_rounds (cz 4) 3 4 sB3 [] hR hU (by decide) (by decide)
  have f5 := p_closed (cz 4) 3 4 sB3 [1, 2, 3] hR hU (by decide) (by decide)
  have f6 := p_closed (cz 4) 3 4 sB3 [1, 2] hR hU (by decide) (by decide)
  rw [cz_fix] at f1 f2
  rw [cz_kept] at f2
  rw [cz_rd] at f3
  rw [cz_rd0] at f4
  rw [decide_eq_true cz_clo] at f5
  rw [decide_eq_false cz_nclo] at f6
  repeat (first | refine sSeq ?_ | refine sR ?_ | refine qSeqN ?_ | refine sExit ?_ | refine qSeqE ?_ | refine qX ?_ | refine qLoopE ?_)
  (refine oCall rfl (.inl rfl) rfl rfl rfl (.fz [] _) rfl ⟨rfl, x_new sB0 (by decide +kernel), ?_⟩; (conv => whnf))
  repeat refine kOps ?_
  (refine oCall rfl (.inl rfl) rfl rfl rfl (.fz [] _) rfl ⟨rfl, z_set (T := sB0) (by decide +kernel) sB1 0 0 (by decide +kernel), ?_⟩; (conv => whnf))
  repeat (first | (refine oR ?_; (conv => whnf)) | refine kOps ?_ | refine oNil ?_ | refine sSeq ?_ | refine sR ?_ | refine qSeqN ?_)
  (refine oCall rfl (.inl rfl) rfl rfl rfl (.fz [] _) rfl ⟨rfl, z_set (T := sB1) (by decide +kernel) sB2 0 0 (by decide +kernel), ?_⟩; (conv => whnf))
  repeat (first | (refine oR ?_; (conv => whnf)) | refine kOps ?_ | refine oNil ?_ | refine sSeq ?_ | refine sR ?_ | refine qSeqN ?_)
  (refine oCall rfl (.inl rfl) rfl rfl rfl (.fz [] _) rfl ⟨rfl, z_set (T := sB2) (by decide +kernel) sB3 0 0 (by decide +kernel), ?_⟩; (conv => whnf))
  repeat (first | (refine oR ?_; (conv => whnf)) | refine kOps ?_ | refine oNil ?_ | refine sSeq ?_ | refine sR ?_ | refine qSeqN ?_)
  (refine oCall rfl (.inl rfl) rfl rfl rfl (.fz [1] _) rfl ⟨rfl, f1, ?_⟩; (conv => whnf))
  repeat (first | (refine oR ?_; (conv => whnf)) | refine kOps ?_ | refine oNil ?_ | refine sSeq ?_ | refine sR ?_ | refine qSeqN ?_)
  (refine oCall rfl (.inl rfl) rfl rfl rfl (.fz [2] _) rfl ⟨rfl, f2, ?_⟩; (conv => whnf))
  repeat (first | (refine oR ?_; (conv => whnf)) | refine kOps ?_ | (refine oG ?_; (conv => whnf)) | refine oNil ?_ | refine sSeq ?_ | refine sR ?_ | refine qSeqN ?_)
  refine ⟨2, _, rfl, rfl, ?_⟩
  conv => whnf
  repeat (first | (refine oR ?_; (conv => whnf)) | refine kOps ?_ | (refine oG ?_; (conv => whnf)) | (refine sBT ?_; (conv => whnf)))
  refine ⟨0, _, rfl, rfl, ?_⟩
  conv => whnf
  repeat (first | (refine oR ?_; (conv => whnf)) | refine kOps ?_ | (refine oG ?_; (conv => whnf)) | (refine sBT ?_; (conv => whnf)))
  (refine oCall rfl (.inr ⟨_, _, _, rfl, rfl, rfl⟩) rfl rfl rfl (.fz [3] _) rfl ⟨rfl, f3, ?_⟩; (conv => whnf))
  repeat (first | (refine oR ?_; (conv => whnf)) | refine kOps ?_ | (refine oG ?_; (conv => whnf)) | (refine sBT ?_; (conv => whnf)))
  (refine oCall rfl (.inr ⟨_, _, _, rfl, rfl, rfl⟩) rfl rfl rfl (.fz [] _) rfl ⟨rfl, f4, ?_⟩; (conv => whnf))
  repeat (first | (refine oR ?_; (conv => whnf)) | refine kOps ?_ | (refine oG ?_; (conv => whnf)) | (refine sBT ?_; (conv => whnf)))
  (refine oCall rfl (.inr ⟨_, _, _, rfl, rfl, rfl⟩) rfl rfl rfl (.fz [] _) rfl ⟨rfl, f5, ?_⟩; (conv => whnf))
  repeat (first | (refine oR ?_; (conv => whnf)) | refine kOps ?_ | (refine oG ?_; (conv => whnf)) | (refine sBT ?_; (conv => whnf)))
  (refine oCall rfl (.inr ⟨_, _, _, rfl, rfl, rfl⟩) rfl rfl rfl (.fz [4] _) rfl ⟨rfl, f6, ?_⟩; (conv => whnf))
  repeat (first | (refine oR ?_; (conv => whnf)) | refine kOps ?_ | (refine oG ?_; (conv => whnf)) | refine oNil ?_ | refine qSeqN ?_ | refine sRet ?_ | (refine sBT ?_; (conv => whnf)))
  refine qEnd ?_
  conv => whnf
  rfl
end Go.Proofs.Ytcmciimogcfakaa

/- The law FixTells. -/
set_option linter.unusedVariables false
set_option linter.unusedSimpArgs false
namespace Go.Proofs.Ytcmciimogcfakaa
open Go Go.RowKit
open Classical

/-- What the guards let in. -/
structure Gd (cs : List Ce) (la sr : Int) (T : List Pl) (l : List Int) : Prop where
  g : G12 cs la sr
  t : Rt T
  l : l.length ≤ 50
theorem Gd.rs {cs : List Ce} {la sr : Int} {T : List Pl} {l : List Int} (h : Gd cs la sr T l) : Rs cs := h.g.rs
theorem Gd.un {cs : List Ce} {la sr : Int} {T : List Pl} {l : List Int} (h : Gd cs la sr T l) : Un cs := h.g.g.un
theorem ints_same (l : List Int) (hl : l.length ≤ 1099511627776) : C Try.prog 11 [encI l, encI l] (.bool true) := by
  have := c_ints l l hl
  rwa [decide_eq_true rfl] at this

































































































end Go.Proofs.Ytcmciimogcfakaa

/- The law FixLeast. -/
set_option linter.unusedVariables false
set_option linter.unusedSimpArgs false
namespace Go.Proofs.Ytcmciimogcfakaa
open Go Go.RowKit
open Classical

theorem times_iff {l : List Int} {a : Int} (h0 : a ≠ 0) : 0 < timesL l a ↔ a ∈ l := by
  have := has_mem (l := l) h0
  unfold has at this
  rwa [decide_eq_true_iff] at this
theorem times_one {r : List Int} (hn : r.Nodup) {a : Int} (h0 : a ≠ 0) (hm : a ∈ r) : timesL r a = 1 := by
  have h1 : timesL r a = r.count a := by
    unfold timesL List.count
    refine List.countP_congr fun x _ => ?_
    simp [h0]
  rw [h1, List.Nodup.count hn, if_pos hm]










































































































































































































end Go.Proofs.Ytcmciimogcfakaa

/- The laws FixPlain, FixTwice. -/
set_option linter.unusedVariables false
set_option linter.unusedSimpArgs false
namespace Go.Proofs.Ytcmciimogcfakaa
open Go Go.RowKit
open Classical

theorem p_reach (cs : List Ce) (la sr : Int) (l : List Int) (hR : Rs cs) (hU : Un cs) (hl : l.length ≤ 1099511627776) : C Try.prog 8 [tS cs la sr, encI l] (encI (fromL cs l)) := c_from8 cs la sr l hR hl (c_live cs la sr hR hU)
theorem prs_new : pairsL (newL 8) = [] := by decide +kernel
theorem new_len : (newL 8).length ≤ 8 := by decide +kernel
set_option maxRecDepth 100000 in
theorem FixTwice (cs : List Ce) (la sr : Int) (T : List Pl) (l : List Int) : C Try.prog 4 [tS cs la sr, encT T, encI l] (.bool true) := by
  refine fnOk mixed tyOk Try.func4 (code := Try.f4.body.getD .skip) rfl rfl rfl (gC_in ?_)
  have hr := c_right12 cs la sr
  have he := c_even T
  repeat (first | (refine oR ?_; (conv => whnf)) | refine kOps ?_ | refine oNil ?_ | refine sSeq ?_ | refine sR ?_ | refine qSeqN ?_)
  by_cases hG : G12 cs la sr
  rotate_left
  · rw [decide_eq_false hG] at hr
    (refine oCall rfl (.inl rfl) rfl rfl rfl (.fz [] _) rfl ⟨rfl, hr, ?_⟩; (conv => whnf))
    repeat (first | (refine oR ?_; (conv => whnf)) | refine kOps ?_ | refine oH ?_ | refine oNil ?_ | refine sSeq ?_ | refine sR ?_ | refine qSeqN ?_ | refine sT ?_ | (refine sBT ?_; (conv => whnf)))
    (refine oCall rfl (.inl rfl) rfl rfl rfl (.fz [] _) rfl ⟨rfl, c_shown12, ?_⟩; (conv => whnf))
    repeat (first | (refine oR ?_; (conv => whnf)) | refine kOps ?_ | refine oNil ?_ | refine qSeqN ?_ | refine sRet ?_ | refine qSeqR ?_)
    refine qEnd ?_
    conv => whnf
    rfl
  rw [decide_eq_true hG] at hr
  (refine oCall rfl (.inl rfl) rfl rfl rfl (.fz [] _) rfl ⟨rfl, hr, ?_⟩; (conv => whnf))
  repeat (first | (refine oR ?_; (conv => whnf)) | refine kOps ?_ | (refine oG ?_; (conv => whnf)))
  cases hev : rightL T with
  | false =>
    rw [hev] at he
    (refine oCall rfl (.inr ⟨_, _, _, rfl, rfl, rfl⟩) rfl rfl rfl (.fz [] _) rfl ⟨rfl, he, ?_⟩; (conv => whnf))
    repeat (first | (refine oR ?_; (conv => whnf)) | refine kOps ?_ | (refine oG ?_; (conv => whnf)) | refine oH ?_ | refine oNil ?_ | refine sSeq ?_ | refine sR ?_ | refine qSeqN ?_ | refine sT ?_ | (refine sBT ?_; (conv => whnf)) | (refine sBF ?_; (conv => whnf)))
    (refine oCall rfl (.inl rfl) rfl rfl rfl (.fz [] _) rfl ⟨rfl, c_shown12, ?_⟩; (conv => whnf))
    repeat (first | (refine oR ?_; (conv => whnf)) | refine kOps ?_ | refine oNil ?_ | refine qSeqN ?_ | refine sRet ?_ | refine qSeqR ?_)
    refine qEnd ?_
    conv => whnf
    rfl
  | true =>
  rw [hev] at he
  have hT := (rightL_iff T).1 hev
  (refine oCall rfl (.inr ⟨_, _, _, rfl, rfl, rfl⟩) rfl rfl rfl (.fz [] _) rfl ⟨rfl, he, ?_⟩; (conv => whnf))
  repeat (first | (refine oR ?_; (conv => whnf)) | refine kOps ?_ | (refine oG ?_; (conv => whnf)) | (refine sBF ?_; (conv => whnf)))
  refine oS rfl rfl rfl (fun h1 => ?_) (fun h1 => ?_)
  · repeat (first | (refine oR ?_; (conv => whnf)) | refine kOps ?_ | refine oH ?_ | refine oNil ?_ | refine sSeq ?_ | refine sR ?_ | refine qSeqN ?_ | refine sT ?_ | (refine sBT ?_; (conv => whnf)))
    (refine oCall rfl (.inl rfl) rfl rfl rfl (.fz [] _) rfl ⟨rfl, c_shown12, ?_⟩; (conv => whnf))
    repeat (first | (refine oR ?_; (conv => whnf)) | refine kOps ?_ | refine oNil ?_ | refine qSeqN ?_ | refine sRet ?_ | refine qSeqR ?_)
    refine qEnd ?_
    conv => whnf
    rfl
  have h50 : l.length ≤ 50 := by
    have := dF h1
    rw [List.length_map] at this
    omega
  have hR := hG.rs
  have hU : Un cs := hG.g.un
  have h8 := hT.le
  have hl : l.length ≤ 1099511627776 := by omega
  have hr24 := fixL_len hR T l
  have hrb : (fixL cs T l).length ≤ 1099511627776 := by omega
  have f1 := p_from cs la sr T l hR hU h8 hl
  have f2 := p_from cs la sr T (fixL cs T l) hR hU h8 hrb
  rw [fix_twice] at f2
  have f3 := p_reach cs la sr (fixL cs T l) hR hU hrb
  rw [from_fix] at f3
  have f4 := p_rounds cs la sr T (fixL cs T l) hR hU h8 hrb
  rw [rdN_zero h8 (by rw [from_fix]; exact news_fix cs T l)] at f4
  have f5 := p_closed cs la sr T (fixL cs T l) hR hU h8 hrb
  rw [decide_eq_true (clo_fix cs T l)] at f5
  have i1 := ints_same (fixL cs T l) hrb
  generalize fixL cs T l = r at *
  skip
  (refine oCall rfl (.inr ⟨_, _, _, rfl, rfl, rfl⟩) rfl rfl rfl (.fz [] _) rfl ⟨rfl, c_shown12, ?_⟩; (conv => whnf))
  repeat (first | (refine oR ?_; (conv => whnf)) | refine kOps ?_ | (refine oG ?_; (conv => whnf)) | refine oNil ?_ | refine sSeq ?_ | refine sR ?_ | refine qSeqN ?_ | refine sSkip ?_ | refine sF ?_ | (refine sBF ?_; (conv => whnf)))
  (refine oCall rfl (.inl rfl) rfl rfl rfl (.fz [] _) rfl ⟨rfl, f1, ?_⟩; (conv => whnf))
  repeat (first | (refine oR ?_; (conv => whnf)) | refine kOps ?_ | refine oNil ?_ | refine sSeq ?_ | refine sR ?_ | refine qSeqN ?_)
  (refine oCall rfl (.inl rfl) rfl rfl rfl (.fz [] _) rfl ⟨rfl, f2, ?_⟩; (conv => whnf))
  repeat (first | (refine oR ?_; (conv => whnf)) | refine kOps ?_)
  (refine oCall rfl (.inl rfl) rfl rfl rfl (.fz [] _) rfl ⟨rfl, i1, ?_⟩; (conv => whnf))
  repeat (first | (refine oR ?_; (conv => whnf)) | refine kOps ?_ | (refine oG ?_; (conv => whnf)))
  (refine oCall rfl (.inr ⟨_, _, _, rfl, rfl, rfl⟩) rfl rfl rfl (.fz [] _) rfl ⟨rfl, f3, ?_⟩; (conv => whnf))
  repeat (first | refine kOps ?_ | (refine oG ?_; (conv => whnf)))
  (refine oCall rfl (.inr ⟨_, _, _, rfl, rfl, rfl⟩) rfl rfl rfl (.fz [] _) rfl ⟨rfl, i1, ?_⟩; (conv => whnf))
  repeat (first | (refine oR ?_; (conv => whnf)) | refine kOps ?_ | (refine oG ?_; (conv => whnf)) | (refine sBT ?_; (conv => whnf)))
  (refine oCall rfl (.inr ⟨_, _, _, rfl, rfl, rfl⟩) rfl rfl rfl (.fz [] _) rfl ⟨rfl, f4, ?_⟩; (conv => whnf))
  repeat (first | (refine oR ?_; (conv => whnf)) | refine kOps ?_ | (refine oG ?_; (conv => whnf)) | (refine sBT ?_; (conv => whnf)))
  (refine oCall rfl (.inr ⟨_, _, _, rfl, rfl, rfl⟩) rfl rfl rfl (.fz [] _) rfl ⟨rfl, f5, ?_⟩; (conv => whnf))
  repeat (first | (refine oR ?_; (conv => whnf)) | refine kOps ?_ | refine oNil ?_ | refine qSeqN ?_ | refine sRet ?_ | (refine sBT ?_; (conv => whnf)))
  refine qEnd ?_
  conv => whnf
  rfl
set_option maxRecDepth 100000 in
theorem FixPlain (cs : List Ce) (la sr : Int) (T : List Pl) (l : List Int) : C Try.prog 3 [tS cs la sr, encT T, encI l] (.bool true) := by
  refine fnOk mixed tyOk Try.func3 (code := Try.f3.body.getD .skip) rfl rfl rfl (gC_in ?_)
  have hr := c_right12 cs la sr
  have he := c_even T
  repeat (first | (refine oR ?_; (conv => whnf)) | refine kOps ?_ | refine oNil ?_ | refine sSeq ?_ | refine sR ?_ | refine qSeqN ?_)
  by_cases hG : G12 cs la sr
  rotate_left
  · rw [decide_eq_false hG] at hr
    (refine oCall rfl (.inl rfl) rfl rfl rfl (.fz [] _) rfl ⟨rfl, hr, ?_⟩; (conv => whnf))
    repeat (first | (refine oR ?_; (conv => whnf)) | refine kOps ?_ | refine oH ?_ | refine oNil ?_ | refine sSeq ?_ | refine sR ?_ | refine qSeqN ?_ | refine sT ?_ | (refine sBT ?_; (conv => whnf)))
    (refine oCall rfl (.inl rfl) rfl rfl rfl (.fz [] _) rfl ⟨rfl, c_shown12, ?_⟩; (conv => whnf))
    repeat (first | (refine oR ?_; (conv => whnf)) | refine kOps ?_ | refine oNil ?_ | refine qSeqN ?_ | refine sRet ?_ | refine qSeqR ?_)
    refine qEnd ?_
    conv => whnf
    rfl
  rw [decide_eq_true hG] at hr
  (refine oCall rfl (.inl rfl) rfl rfl rfl (.fz [] _) rfl ⟨rfl, hr, ?_⟩; (conv => whnf))
  repeat (first | (refine oR ?_; (conv => whnf)) | refine kOps ?_ | (refine oG ?_; (conv => whnf)))
  cases hev : rightL T with
  | false =>
    rw [hev] at he
    (refine oCall rfl (.inr ⟨_, _, _, rfl, rfl, rfl⟩) rfl rfl rfl (.fz [] _) rfl ⟨rfl, he, ?_⟩; (conv => whnf))
    repeat (first | (refine oR ?_; (conv => whnf)) | refine kOps ?_ | (refine oG ?_; (conv => whnf)) | refine oH ?_ | refine oNil ?_ | refine sSeq ?_ | refine sR ?_ | refine qSeqN ?_ | refine sT ?_ | (refine sBT ?_; (conv => whnf)) | (refine sBF ?_; (conv => whnf)))
    (refine oCall rfl (.inl rfl) rfl rfl rfl (.fz [] _) rfl ⟨rfl, c_shown12, ?_⟩; (conv => whnf))
    repeat (first | (refine oR ?_; (conv => whnf)) | refine kOps ?_ | refine oNil ?_ | refine qSeqN ?_ | refine sRet ?_ | refine qSeqR ?_)
    refine qEnd ?_
    conv => whnf
    rfl
  | true =>
  rw [hev] at he
  have hT := (rightL_iff T).1 hev
  (refine oCall rfl (.inr ⟨_, _, _, rfl, rfl, rfl⟩) rfl rfl rfl (.fz [] _) rfl ⟨rfl, he, ?_⟩; (conv => whnf))
  repeat (first | (refine oR ?_; (conv => whnf)) | refine kOps ?_ | (refine oG ?_; (conv => whnf)) | (refine sBF ?_; (conv => whnf)))
  refine oS rfl rfl rfl (fun h1 => ?_) (fun h1 => ?_)
  · repeat (first | (refine oR ?_; (conv => whnf)) | refine kOps ?_ | refine oH ?_ | refine oNil ?_ | refine sSeq ?_ | refine sR ?_ | refine qSeqN ?_ | refine sT ?_ | (refine sBT ?_; (conv => whnf)))
    (refine oCall rfl (.inl rfl) rfl rfl rfl (.fz [] _) rfl ⟨rfl, c_shown12, ?_⟩; (conv => whnf))
    repeat (first | (refine oR ?_; (conv => whnf)) | refine kOps ?_ | refine oNil ?_ | refine qSeqN ?_ | refine sRet ?_ | refine qSeqR ?_)
    refine qEnd ?_
    conv => whnf
    rfl
  have h50 : l.length ≤ 50 := by
    have := dF h1
    rw [List.length_map] at this
    omega
  have hR := hG.rs
  have hU : Un cs := hG.g.un
  have h8 := hT.le
  have hl : l.length ≤ 1099511627776 := by omega
  have hr24 := fromL_len hR l
  have hrb : (fromL cs l).length ≤ 1099511627776 := by omega
  have f1 := p_reach cs la sr l hR hU hl
  have f2 := c_prs T (by omega)
  have f3 := p_from cs la sr (newL 8) l hR hU new_len hl
  rw [fix_plain (by rw [prs_new]; intro q hq; cases hq)] at f3
  have f4 := p_from cs la sr T l hR hU h8 hl
  have f5 := p_rounds cs la sr T l hR hU h8 hl
  have i1 := ints_same (fromL cs l) hrb
  have hpl : ∀ h : (∀ q ∈ pairsL T, q.1 ∉ fromL cs l), fixL cs T l = fromL cs l ∧ rdN cs T l = 0 := fun h => ⟨fix_plain h, rdN_zero h8 (news_plain h)⟩
  have hrv : ∀ x, x ∈ fromL cs l → x ≠ 0 := fun x hx => lv_ne (mem_fromL.1 hx).lives
  have hple := pairsL_le T
  generalize fixL cs T l = fx at *
  generalize rdN cs T l = N at *
  generalize pairsL T = P at *
  generalize fromL cs l = r at *
  have hPb : P.length ≤ 1099511627776 := by omega
  have tr := fun x => c_times r x hrb
  have hn8 := c_hnew 8
  skip
  (refine oCall rfl (.inr ⟨_, _, _, rfl, rfl, rfl⟩) rfl rfl rfl (.fz [] _) rfl ⟨rfl, c_shown12, ?_⟩; (conv => whnf))
  repeat (first | (refine oR ?_; (conv => whnf)) | refine kOps ?_ | (refine oG ?_; (conv => whnf)) | refine oNil ?_ | refine sSeq ?_ | refine sR ?_ | refine qSeqN ?_ | refine sSkip ?_ | refine sF ?_ | (refine sBF ?_; (conv => whnf)))
  (refine oCall rfl (.inl rfl) rfl rfl rfl (.fz [] _) rfl ⟨rfl, f1, ?_⟩; (conv => whnf))
  repeat (first | (refine oR ?_; (conv => whnf)) | refine kOps ?_ | refine oNil ?_ | refine sSeq ?_ | refine sR ?_ | refine qSeqN ?_)
  (refine oCall rfl (.inl rfl) rfl rfl rfl (.fz [] _) rfl ⟨rfl, f2, ?_⟩; (conv => whnf))
  repeat (first | (refine oR ?_; (conv => whnf)) | refine kOps ?_ | refine oNil ?_ | refine sSeq ?_ | refine sR ?_ | refine qSeqN ?_ | refine sBlk ?_)
  refine sLoop (α := Nat × Bool) (fun a => a.1 ≤ P.length ∧ (a.2 = true → ∀ (j : Nat) (q : Pr), j < a.1 → P[j]? = some q → q.1 ∉ r)) (fun a => ⟨tl [(1, encT T), (2, encI l), (3, .ptr 0 0 0), (7, encI r), (8, encQ P), (9, .bool a.2), (10, eI (a.1 : Int))], Ll [(0, .box 26 [encC cs, eI la, eI sr])], 76, 1, [], none⟩) (fun a => P.length - a.1) (0, true) .kp ⟨Nat.zero_le _, fun _ j q hj => absurd hj (Nat.not_lt_zero _)⟩ fun a ha => ?_
  obtain ⟨i, h⟩ := a
  obtain ⟨hi, hok⟩ := ha
  simp only at hi hok
  repeat (first | (refine oR ?_; (conv => whnf)) | refine kOps ?_ | refine oNil ?_ | refine sSeq ?_ | refine sR ?_ | refine qSeqN ?_)
  refine sC rfl (fun h2 => ?_) (fun h2 => ?_)
  · have hlt : i < P.length := by
      have := dT h2
      rw [List.length_map] at this
      omega
    obtain ⟨q, hq⟩ : ∃ q, P[i]? = some q := ⟨_, List.getElem?_eq_getElem hlt⟩
    cases h with
    | false =>
      repeat (first | (refine oR ?_; (conv => whnf)) | refine kOps ?_ | refine oH ?_ | refine oNil ?_ | refine sSeq ?_ | refine sR ?_ | refine qSeqN ?_ | refine sSkip ?_ | refine sBlk ?_ | refine qBlkN ?_ | (refine sBF ?_; (conv => whnf)))
      exact qLoopN (i + 1, false) .kp ⟨hlt, fun h => by cases h⟩ (show P.length - (i + 1) < P.length - i by omega)
    | true =>
      repeat (first | (refine oR ?_; (conv => whnf)) | refine kOps ?_ | (refine oG ?_; (conv => whnf)) | refine sSeq ?_ | refine sR ?_ | refine qSeqN ?_ | refine sSkip ?_ | refine sBlk ?_)
      refine ⟨i, _, rfl, encP_get hq, ?_⟩
      conv => whnf
      repeat (first | refine kOps ?_ | (refine oG ?_; (conv => whnf)))
      (refine oCall rfl (.inr ⟨_, _, _, rfl, rfl, rfl⟩) rfl rfl rfl (.fz [] _) rfl ⟨rfl, tr q.1, ?_⟩; (conv => whnf))
      repeat (first | (refine oR ?_; (conv => whnf)) | refine kOps ?_ | (refine oG ?_; (conv => whnf)) | refine oNil ?_ | refine sR ?_ | refine qSeqN ?_ | refine qBlkN ?_ | (refine sBT ?_; (conv => whnf)))
      refine qLoopN (i + 1, ((timesL r q.1 : Nat) : Int) == 0) .kp ⟨hlt, fun h j p hj hp => ?_⟩ (show P.length - (i + 1) < P.length - i by omega)
      rcases (show j < i ∨ j = i by have : j < i + 1 := hj; omega) with hj | rfl
      · exact hok rfl j p hj hp
      · rw [hq] at hp
        cases hp
        intro hm
        have h2 := (times_iff (hrv _ hm)).2 hm
        have h3 : ((timesL r q.1 : Nat) : Int) = 0 := by simpa using h
        omega
  · have hge : P.length ≤ i := by
      have := dF h2
      rw [List.length_map] at this
      omega
    cases h with
    | false =>
      repeat (first | refine sSeq ?_ | refine qSeqN ?_ | refine sExit ?_ | refine qSeqE ?_ | refine qX ?_ | refine qLoopE ?_ | refine sD ?_ | (apply drRun; exact rfl; exact .inl rfl; (conv => whnf); exact .mk rfl) | (apply drRun; exact rfl; exact .inl rfl; (conv => whnf)))
      (refine ⟨.fz [] _, rfl, hn8, ?_⟩; (conv => whnf); exact .mk rfl)
      repeat (first | (apply drRun; exact rfl; exact .inl rfl; (conv => whnf); exact .mk rfl) | (apply drRun; exact rfl; exact .inl rfl; (conv => whnf)))
      (refine ⟨.fz [] _, rfl, f3, ?_⟩; (conv => whnf); exact .mk rfl)
      repeat (first | (apply drRun; exact rfl; exact .inl rfl; (conv => whnf); exact .mk rfl) | (apply drRun; exact rfl; exact .inl rfl; (conv => whnf)))
      (refine ⟨.fz [] _, rfl, i1, ?_⟩; (conv => whnf); exact .mk rfl)
      repeat (first | refine qSeqN ?_ | refine sRet ?_ | (refine sBT ?_; (conv => whnf)) | exact KPl.mk rfl | (apply drRun; exact rfl; exact .inl rfl; (conv => whnf); exact .mk rfl) | (apply drRun; exact rfl; exact .inr ⟨_, _, _, rfl, rfl, rfl⟩; (conv => whnf); exact .mk rfl) | refine dH ?_ | refine dV ?_ | (apply drRun; exact rfl; exact .inl rfl; (conv => whnf)) | (apply drRun; exact rfl; exact .inr ⟨_, _, _, rfl, rfl, rfl⟩; (conv => whnf)) | refine drNil ?_)
      refine qEnd ?_
      conv => whnf
      rfl
    | true =>
      have hall : ∀ q ∈ P, q.1 ∉ r := fun q hq => by
        obtain ⟨j, hj⟩ := List.mem_iff_getElem?.1 hq
        exact hok rfl j q (by have := lt_of_get hj; omega) hj
      obtain ⟨e1, e2⟩ := hpl hall
      rw [e1] at f4
      rw [e2] at f5
      repeat (first | refine sSeq ?_ | refine qSeqN ?_ | refine sExit ?_ | refine qSeqE ?_ | refine qX ?_ | refine qLoopE ?_ | refine sD ?_ | (apply drRun; exact rfl; exact .inl rfl; (conv => whnf); exact .mk rfl) | (apply drRun; exact rfl; exact .inl rfl; (conv => whnf)))
      (refine ⟨.fz [] _, rfl, hn8, ?_⟩; (conv => whnf); exact .mk rfl)
      repeat (first | (apply drRun; exact rfl; exact .inl rfl; (conv => whnf); exact .mk rfl) | (apply drRun; exact rfl; exact .inl rfl; (conv => whnf)))
      (refine ⟨.fz [] _, rfl, f3, ?_⟩; (conv => whnf); exact .mk rfl)
      repeat (first | (apply drRun; exact rfl; exact .inl rfl; (conv => whnf); exact .mk rfl) | (apply drRun; exact rfl; exact .inl rfl; (conv => whnf)))
      (refine ⟨.fz [] _, rfl, i1, ?_⟩; (conv => whnf); exact .mk rfl)
      repeat (first | (apply drRun; exact rfl; exact .inl rfl; (conv => whnf); exact .mk rfl) | (apply drRun; exact rfl; exact .inr ⟨_, _, _, rfl, rfl, rfl⟩; (conv => whnf); exact .mk rfl) | (apply drRun; exact rfl; exact .inr ⟨_, _, _, rfl, rfl, rfl⟩; (conv => whnf)))
      (refine ⟨.fz [] _, rfl, f4, ?_⟩; (conv => whnf); exact .mk rfl)
      repeat (first | (apply drRun; exact rfl; exact .inr ⟨_, _, _, rfl, rfl, rfl⟩; (conv => whnf); exact .mk rfl) | (apply drRun; exact rfl; exact .inr ⟨_, _, _, rfl, rfl, rfl⟩; (conv => whnf)))
      (refine ⟨.fz [] _, rfl, i1, ?_⟩; (conv => whnf); exact .mk rfl)
      repeat (first | (apply drRun; exact rfl; exact .inr ⟨_, _, _, rfl, rfl, rfl⟩; (conv => whnf); exact .mk rfl) | (apply drRun; exact rfl; exact .inr ⟨_, _, _, rfl, rfl, rfl⟩; (conv => whnf)))
      (refine ⟨.fz [] _, rfl, f5, ?_⟩; (conv => whnf); exact .mk rfl)
      repeat (first | refine qSeqN ?_ | refine sRet ?_ | (refine sBT ?_; (conv => whnf)) | (refine sBF ?_; (conv => whnf)) | exact KPl.mk rfl | (apply drRun; exact rfl; exact .inl rfl; (conv => whnf); exact .mk rfl) | (apply drRun; exact rfl; exact .inr ⟨_, _, _, rfl, rfl, rfl⟩; (conv => whnf); exact .mk rfl) | (apply drRun; exact rfl; exact .inl rfl; (conv => whnf)) | (apply drRun; exact rfl; exact .inr ⟨_, _, _, rfl, rfl, rfl⟩; (conv => whnf)) | refine drNil ?_)
      refine qEnd ?_
      conv => whnf
      rfl
end Go.Proofs.Ytcmciimogcfakaa

/- What a law is handed, and what it leaves: the row's frame. -/
set_option linter.unusedVariables false
set_option linter.unusedSimpArgs false
namespace Go.Proofs.Ytcmciimogcfakaa
open Go Go.RowKit Go.ChangeShapes Go.WideShapes

section
variable {H : Type} {enc : TypeId × Value → H} {P : Program} {W : World}
/-- One argument, as the walk tells it. -/
def TypedA (P : Program) (d : Nat) (t : TypeId) (a : AV) : Prop := match P.underlying t with
  | some (.struct _) => ∃ cs, a = .agg cs ∧ Typed P d t cs
  | _ => Typed P d t [a]
theorem f2_one {R : AV → Value → Prop} {avs : List AV} {v : Value} (h : F2 R avs [v]) : ∃ a, avs = [a] ∧ R a v := by
  cases h with
  | cons hr ht => cases ht; exact ⟨_, rfl, hr⟩
theorem arg_read {d : Nat} {t : TypeId} {v : Value} {x : DataW H} {ps : List MemPlace} {base : Nat} (h : DataW.Trod enc P W 0 (fun _ => true) true t v x ps) (hok : Value.okWide P W .any base t v) (hp : plainTy P d t = true) (hw : (x.weights P t).all (· ≤ reachBytes) = true) :
    ∃ a, R0 W (okW W) a v ∧ TypedA P d t a := by
  obtain ⟨fuel, h⟩ := h
  obtain ⟨avs, h2, hty, hl⟩ := read fuel d t v.cells.toList (x, ps) h hp hw
  unfold TypedA
  have key : (∃ cs, v = .agg cs) ∨ v.cells = #[v] := by
    cases v <;> first | exact .inr rfl | exact .inl ⟨_, rfl⟩
  cases d with
  | zero => cases hp
  | succ d =>
  cases hu : P.underlying t with
  | none => simp [plainTy, hu] at hp
  | some ds =>
    cases ds with
    | struct fs =>
      obtain ⟨cs, rfl, _⟩ := okWide_struct hu hok
      refine ⟨.agg avs, .agg (cs := avs) (vs := cs.toList) h2.length (fun i a u ha hv => ?_), avs, rfl, hty⟩
      obtain ⟨u', hu', hr⟩ := h2.get i ha
      have hv' : cs.toList[i]? = some u := hv
      rw [show (Value.agg cs).cells.toList = cs.toList from rfl, hv'] at hu'
      cases hu'
      exact hr
    | int k =>
      obtain ⟨n, rfl⟩ := okWide_int hu hok
      obtain ⟨a, rfl, hr⟩ := f2_one h2
      exact ⟨a, hr, hty⟩
    | bool =>
      obtain ⟨b, rfl⟩ := okWide_bool hu hok
      obtain ⟨a, rfl, hr⟩ := f2_one h2
      exact ⟨a, hr, hty⟩
    | slice e =>
      obtain ⟨b, l, c, rfl⟩ := okWide_slice hu hok
      obtain ⟨a, rfl, hr⟩ := f2_one h2
      exact ⟨a, hr, hty⟩
    | _ => simp [plainTy, hu] at hp
def TypedAs (P : Program) (d : Nat) : List TypeId → List AV → Prop
  | [], avs => avs = []
  | t :: ts, avs => ∃ a l, avs = a :: l ∧ TypedA P d t a ∧ TypedAs P d ts l
theorem args_read {d : Nat} {base : Nat} : ∀ (ts : List TypeId) (vs : List Value) (xs : List (DataW H)) (ps : List MemPlace), DataW.TrodAll enc P W 0 (fun _ => true) true ts vs xs ps → (∀ (j : Nat) (t : TypeId) (v : Value), ts[j]? = some t → vs[j]? = some v → Value.okWide P W .any base t v) →
    ts.all (plainTy P d) = true → (DataW.weightsEach P ts xs).all (· ≤ reachBytes) = true → ∃ avs, F2 (R0 W (okW W)) avs vs ∧ TypedAs P d ts avs
  | [], vs, xs, ps, h, hok, hp, hw => by
    obtain ⟨rfl, _, _⟩ := trodAll_nil h
    exact ⟨[], .nil, rfl⟩
  | t :: ts, vs, xs, ps, h, hok, hp, hw => by
    obtain ⟨v, vs', x, xs', p, q, rfl, rfl, rfl, h1, h2⟩ := trodAll_cons h
    simp only [List.all_cons, Bool.and_eq_true] at hp
    simp only [DataW.weightsEach, List.all_append, Bool.and_eq_true] at hw
    obtain ⟨a, g1, g2⟩ := arg_read h1 (hok 0 t v rfl rfl) hp.1 hw.1
    obtain ⟨avs, g3, g4⟩ := args_read ts vs' xs' q h2 (fun j t' v' ht hv => hok (j + 1) t' v' (by simpa using ht) (by simpa using hv)) hp.2 hw.2
    exact ⟨a :: avs, .cons g1 g3, a, avs, rfl, g2, g4⟩
theorem args_back (hl : laidOutB P = true) {W' : World} (hb : Below W.heap.size W W') : ∀ (ts : List TypeId) (vs : List Value) (xs : List (DataW H)) (ps : List MemPlace), DataW.TrodAll enc P W 0 (fun _ => true) true ts vs xs ps → ts.all (fun t => P.readableRec t && decide (t < P.types.size)) = true →
    DataW.TrodAll enc P W' 0 (fun b => decide (b < W.heap.size)) true ts vs xs ps
  | [], vs, xs, ps, h, _ => by
    obtain ⟨rfl, rfl, rfl⟩ := trodAll_nil h
    exact trodAll_mk0
  | t :: ts, vs, xs, ps, h, hp => by
    obtain ⟨v, vs', x, xs', p, q, rfl, rfl, rfl, h1, h2⟩ := trodAll_cons h
    simp only [List.all_cons, Bool.and_eq_true, decide_eq_true_eq] at hp
    refine trodAll_cons_mk (Below.trod hl hp.1.1 hp.1.2 h1 hb ?_) (args_back hl hb ts vs' xs' q h2 hp.2)
    obtain ⟨m, hm⟩ := h1
    exact DataW.trod_lt m _ _ _ hm
/-- The law's contract, in the row's words. -/
theorem law_calls {f : FuncId} {args : List AV} {vs : List Value} (hc : C P f args (.bool true)) (h : F2 (R0 W (okW W)) args vs) : Calls P f vs.toArray W fun e W' => e = .returned (.bool true) ∧ Below W.heap.size W W' := by
  refine (callsIn_wide (n := 0)).1 ((hc.2 ⟨W, okW W, fun _ => none, none⟩ vs ?_ (h.imp fun _ _ _ h => .pure h)).mono ?_)
  · exact ⟨fun i hi => by simp [lk, Blk.alive] at hi, fun i e he => (by cases he), fun i j e e' he => (by cases he), fun b hb => ⟨hb, fun ⟨i, e, he, _⟩ => (by cases he)⟩⟩
  · rintro e w' ⟨v, d, rfl, rfl, hf, _, hr, _⟩
    exact ⟨by rw [hr.bool_inv], hf.os, hf.tape, hf.output, hf.size, fun k hk => hf.same k hk fun ⟨i, e, he, _⟩ => (by cases he)⟩
end
end Go.Proofs.Ytcmciimogcfakaa
