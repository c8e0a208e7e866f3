/- What a law is handed, as the walk tells it. -/
import Derived.Test.YtcfbhojpemjjpaaY
import Derived.Deep.Slices
import Derived.SizedLaws
import Derived.ProofKit
import Derived.OpenShut
import Derived.ChangeOld
set_option linter.unusedVariables false
set_option linter.unusedSimpArgs false
namespace Go.Proofs.Ytcfbhojpemjjpaa
open Go Go.RowKit

section
variable (P : Program)
def consec : Nat → Nat → List Field → Bool
  | o, n, [] => Nat.beq o n
  | o, n, f :: fs => Nat.beq f.offset o && consec (o + P.cellsOf f.type) n fs
/-- Types of whole numbers, truth values, slices and structs of them. -/
def plainTy : Nat → TypeId → Bool
  | 0, _ => false
  | d + 1, t => match P.underlying t with
    | some (.int _) => Nat.beq (P.cellsOf t) 1
    | some .bool => Nat.beq (P.cellsOf t) 1
    | some (.slice e) => Nat.beq (P.cellsOf t) 1 && Nat.blt 0 (P.cellsOf e) && plainTy d e
    | some (.struct fs) => consec P 0 (P.cellsOf t) fs.toList && fs.toList.all fun f => plainTy d f.type
    | _ => false
def TypedL (T : TypeId → List AV → Prop) : List Field → List AV → Prop
  | [], avs => avs = []
  | f :: fs, avs => ∃ x y, avs = x ++ y ∧ T f.type x ∧ TypedL T fs y
def Typed : Nat → TypeId → List AV → Prop
  | 0, _, _ => False
  | d + 1, t, avs => match P.underlying t with
    | some (.int k) => ∃ n, avs = [.int k n] ∧ (Lit.int k n).wf = true
    | some .bool => ∃ b, avs = [.bool b]
    | some (.slice e) => ∃ xs, avs = [.sl xs] ∧ (∀ x ∈ xs, Typed d e x) ∧ xs.length * P.bytesOf e ≤ reachBytes
    | some (.struct fs) => TypedL (Typed d) fs.toList avs
    | _ => False
end
theorem pick_list {α : Type} {p : Nat → α → Prop} : ∀ (n : Nat), (∀ i, i < n → ∃ x, p i x) → ∃ l : List α, l.length = n ∧ ∀ i x, l[i]? = some x → p i x
  | 0, _ => ⟨[], rfl, fun i x h => by simp at h⟩
  | n + 1, h => by
    obtain ⟨l, hl, hp⟩ := pick_list n fun i hi => h i (by omega)
    obtain ⟨x, hx⟩ := h n (by omega)
    refine ⟨l ++ [x], by simp [hl], fun i y hy => ?_⟩
    by_cases hi : i < n
    · rw [List.getElem?_append_left (by omega)] at hy
      exact hp i y hy
    · rw [List.getElem?_append_right (by omega)] at hy
      by_cases hin : i = n
      · subst hin
        rw [hl, Nat.sub_self] at hy
        simp at hy
        subst hy
        exact hx
      · rw [List.getElem?_eq_none (by simp; omega)] at hy
        cases hy
section
variable {H : Type} {enc : TypeId × Value → H} {P : Program} {W : World} {base : Nat} {spare : Nat → Bool} {held : Bool}
theorem cells_list {n : Nat} {a : Addr} {cs : List Value} (h : W.cells? base a n = some cs) : cs.length = n ∧ ∀ i, i < n → ∃ v, cs[i]? = some v ∧ W.cell? (a.add i) = some v := by
  unfold World.cells? at h
  split at h
  · have key : ∀ (l : List Nat) (cs : List Value), (l.mapM fun i => W.cell? (a.add i)) = some cs → cs.length = l.length ∧ ∀ (i : Nat) (x : Nat), l[i]? = some x → ∃ v, cs[i]? = some v ∧ W.cell? (a.add x) = some v := by
      intro l
      induction l with
      | nil => intro cs h; simp at h; subst h; exact ⟨rfl, fun i x h => by simp at h⟩
      | cons y l ih =>
        intro cs h
        rw [List.mapM_cons] at h
        obtain ⟨v, hv, h⟩ := Option.bind_eq_some_iff.1 h
        obtain ⟨vs, hvs, h⟩ := Option.bind_eq_some_iff.1 h
        cases h
        obtain ⟨h1, h2⟩ := ih vs hvs
        refine ⟨by simp [h1], fun i x hx => ?_⟩
        cases i with
        | zero => simp at hx; subst hx; exact ⟨v, rfl, hv⟩
        | succ i => exact h2 i x (by simpa using hx)
    obtain ⟨h1, h2⟩ := key _ _ h
    exact ⟨by simpa using h1, fun i hi => h2 i i (by simp [hi])⟩
  · cases h
theorem weights_all {P : Program} {e : TypeId} : ∀ {l : List (DataW H)}, (DataW.weightsAll P e l).all (· ≤ reachBytes) = true → ∀ d ∈ l, (d.weights P e).all (· ≤ reachBytes) = true
  | [], _, d, hd => by cases hd
  | x :: l, h, d, hd => by
    simp only [DataW.weightsAll, List.all_append, Bool.and_eq_true] at h
    rcases List.mem_cons.1 hd with rfl | hd
    · exact h.1
    · exact weights_all h.2 d hd
theorem cell_plain {a : Addr} {v : Value} (h : W.cell? a = some v) : a.spot = none ∧ a.block < W.heap.size := by
  unfold World.cell? at h
  split at h
  · rename_i c _ _ hh
    refine ⟨?_, (Array.getElem?_eq_some_iff.1 hh).1⟩
    split at h
    · cases h
    · rename_i hs; simpa using hs
  · cases h
abbrev okW (W : World) (b : Nat) : Prop := b < W.heap.size
theorem read : ∀ (fuel : Nat) (dep : Nat) (t : TypeId) (cs : List Value) (x : DataW H × List MemPlace), DataW.trod enc P W base spare held fuel t cs = some x → plainTy P dep t = true → (x.1.weights P t).all (· ≤ reachBytes) = true →
    ∃ avs, F2 (R0 W (okW W)) avs cs ∧ Typed P dep t avs ∧ cs.length = P.cellsOf t := by
  intro fuel
  induction fuel with
  | zero => intro dep t cs x h; simp [DataW.trod] at h
  | succ fuel ih =>
    intro dep t cs x h hp hw
    cases dep with
    | zero => cases hp
    | succ dep =>
    simp only [plainTy] at hp
    simp only [Typed]
    cases hu : P.underlying t with
    | none => rw [hu] at hp; cases hp
    | some dsc =>
    rw [hu] at hp
    cases dsc <;> simp only at hp <;> try (cases hp; done)
    case int k =>
      obtain ⟨n, rfl, _, hwf⟩ := DataW.trod_int hu h
      exact ⟨[.int k n], .cons (.int k n) .nil, ⟨n, rfl, hwf⟩, (Nat.eq_of_beq_eq_true hp).symm⟩
    case bool =>
      obtain ⟨b, rfl, _⟩ := DataW.trod_bool hu h
      exact ⟨[.bool b], .cons (.bool b) .nil, ⟨b, rfl⟩, (Nat.eq_of_beq_eq_true hp).symm⟩
    case struct fs =>
      rw [Bool.and_eq_true] at hp
      obtain ⟨xs, n, hn, rfl, hcl, hxl, hxs⟩ := DataW.trod_struct hu h
      cases hn
      have hw' : (DataW.weightsEach P (fs.toList.map (·.type)) (xs.map (·.1))).all (· ≤ reachBytes) = true := by
        simpa [DataW.weights, hu] using hw
      have key : ∀ (fl : List Field) (o : Nat) (xl : List (DataW H × List MemPlace)), consec P o (P.cellsOf t) fl = true → (∀ f ∈ fl, plainTy P dep f.type = true) → o ≤ P.cellsOf t → (∀ (i : Nat) (f : Field), fl[i]? = some f → DataW.trod enc P W base spare held fuel f.type ((cs.drop f.offset).take (P.cellsOf f.type)) = xl[i]?) → xl.length = fl.length →
          (DataW.weightsEach P (fl.map (·.type)) (xl.map (·.1))).all (· ≤ reachBytes) = true → ∃ avs, F2 (R0 W (okW W)) avs (cs.drop o) ∧ TypedL (Typed P dep) fl avs := by
        intro fl
        induction fl with
        | nil =>
          intro o xl hc _ _ _ _ _
          have := Nat.eq_of_beq_eq_true hc
          refine ⟨[], ?_, rfl⟩
          rw [List.drop_eq_nil_of_le (by omega)]
          exact .nil
        | cons f fl ihf =>
          intro o xl hc hpl ho hx hl hw
          simp only [consec, Bool.and_eq_true] at hc
          have hoff := Nat.eq_of_beq_eq_true hc.1
          cases xl with
          | nil => simp at hl
          | cons x xl =>
            have h0 := hx 0 f rfl
            simp only [List.getElem?_cons_zero] at h0
            simp only [List.map_cons, DataW.weightsEach, List.all_append, Bool.and_eq_true] at hw
            obtain ⟨avs, g1, g2, g3⟩ := ih dep f.type _ x h0 (hpl f (by simp)) hw.1
            rw [List.length_take, List.length_drop, hoff] at g3
            have hle : o + P.cellsOf f.type ≤ cs.length ∨ P.cellsOf f.type = 0 := by omega
            have ho' : o + P.cellsOf f.type ≤ P.cellsOf t := by omega
            obtain ⟨avs', g4, g5⟩ := ihf (o + P.cellsOf f.type) xl hc.2 (fun f' hf' => hpl f' (by simp [hf'])) ho' (fun i f' hf' => hx (i + 1) f' (by simpa using hf')) (by simpa using hl) hw.2
            refine ⟨avs ++ avs', ?_, avs, avs', rfl, g2, g5⟩
            have := g1.append g4
            rw [hoff, ← List.drop_drop, List.take_append_drop] at this
            exact this
      obtain ⟨avs, g1, g2⟩ := key fs.toList 0 xs hp.1 (fun f hf => List.all_eq_true.1 hp.2 f hf) (Nat.zero_le _) (fun i f hf => hxs i f (by simpa using hf)) (by simpa using hxl) hw'
      exact ⟨avs, g1, g2, hcl⟩
    case slice e =>
      rw [Bool.and_eq_true, Bool.and_eq_true] at hp
      obtain ⟨⟨hc1, hc0⟩, hpe⟩ := hp
      have hc0 : 0 < P.cellsOf e := by simpa [Nat.blt_eq] using hc0
      have hc1 := Nat.eq_of_beq_eq_true hc1
      rcases DataW.trod_slice hu h with ⟨rfl, rfl⟩ | ⟨a, len, cap, elems, rest, n, hn, rfl, rfl, hb, hl, hm, hlen, hel, hsp, hns⟩
      · exact ⟨[.sl []], .cons (.sle none 0) .nil, ⟨[], rfl, by simp, by simp⟩, by simp [hc1]⟩
      · cases hn
        have hw' : (elems.length + rest.length) * P.bytesOf e ≤ reachBytes ∧ (DataW.weightsAll P e (elems.map (·.1))).all (· ≤ reachBytes) = true := by
          simp only [DataW.weights, hu, List.all_cons, List.all_append, Bool.and_eq_true, decide_eq_true_eq, List.length_map] at hw
          exact ⟨hw.1, hw.2.1⟩
        have hone : ∀ i, i < len → ∃ y : List AV × List Value, F2 (R0 W (okW W)) y.1 y.2 ∧ Typed P dep e y.1 ∧ y.2.length = P.cellsOf e ∧ W.cells? base (a.add (i * P.cellsOf e)) (P.cellsOf e) = some y.2 := fun i hi => by
          have h1 := hel i hi
          rw [List.getElem?_eq_getElem (by omega)] at h1
          obtain ⟨cs', h2, h3⟩ := Option.bind_eq_some_iff.1 h1
          obtain ⟨avs, g1, g2, g3⟩ := ih dep e cs' _ h3 hpe (weights_all hw'.2 _ (List.mem_map.2 ⟨_, List.getElem_mem _, rfl⟩))
          exact ⟨(avs, cs'), g1, g2, g3, h2⟩
        obtain ⟨ys, hyl, hys⟩ := pick_list len hone
        have hyx : ∀ x ∈ ys.map (·.1), x.length = P.cellsOf e ∧ Typed P dep e x := fun x hx => by
          obtain ⟨y, hy, rfl⟩ := List.mem_map.1 hx
          obtain ⟨i, hi⟩ := List.mem_iff_getElem?.1 hy
          obtain ⟨g1, g2, g3, _⟩ := hys i y hi
          exact ⟨by rw [g1.length]; exact g3, g2⟩
        have hty : ∃ xs, ([AV.sl (ys.map (·.1))] : List AV) = [.sl xs] ∧ (∀ x ∈ xs, Typed P dep e x) ∧ xs.length * P.bytesOf e ≤ reachBytes := by
          refine ⟨_, rfl, fun x hx => (hyx x hx).2, ?_⟩
          have : len * P.bytesOf e ≤ (elems.length + rest.length) * P.bytesOf e := Nat.mul_le_mul_right _ (by omega)
          rw [List.length_map, hyl]
          omega
        refine ⟨[.sl (ys.map (·.1))], .cons ?_ .nil, hty, by simp [hc1]⟩
        rcases Nat.eq_zero_or_pos len with h0 | h0
        · obtain rfl : ys = [] := List.eq_nil_of_length_eq_zero (by omega)
          rw [h0]
          exact .sle _ _
        · have hcell : ∀ j, j < len * P.cellsOf e → ∃ i y r v, i < len ∧ ys[i]? = some y ∧ r < P.cellsOf e ∧ j = i * P.cellsOf e + r ∧ y.2[r]? = some v ∧ W.cell? (a.add j) = some v := fun j hj => by
            have hi : j / P.cellsOf e < len := (Nat.div_lt_iff_lt_mul hc0).2 hj
            have hy : ys[j / P.cellsOf e]? = some ys[j / P.cellsOf e] := List.getElem?_eq_getElem (by omega)
            obtain ⟨_, _, _, g4⟩ := hys _ _ hy
            obtain ⟨v, hv1, hv2⟩ := (cells_list g4).2 (j % P.cellsOf e) (Nat.mod_lt _ hc0)
            have hd : j / P.cellsOf e * P.cellsOf e + j % P.cellsOf e = j := by rw [Nat.mul_comm]; exact Nat.div_add_mod _ _
            refine ⟨_, _, _, v, hi, hy, Nat.mod_lt _ hc0, hd.symm, hv1, ?_⟩
            rw [← hv2]
            congr 1
            have hadd : ∀ (a : Addr) (m k : Nat), (a.add m).add k = a.add (m + k) := fun a m k => by
              obtain ⟨b, o, s⟩ := a
              unfold Addr.add
              split <;> split <;> simp_all <;> omega
            rw [hadd, hd]
          obtain ⟨_, _, _, v0, _, _, _, _, _, hv0⟩ := hcell 0 (Nat.mul_pos h0 hc0)
          have hsp0 : a.spot = none ∧ a.block < W.heap.size := by
            have := cell_plain hv0
            have e0 : a.add 0 = a := by
              obtain ⟨b, o, s⟩ := a
              unfold Addr.add
              split <;> simp_all
            rw [e0] at this
            exact this
          obtain ⟨b, off, sp⟩ := a
          obtain ⟨rfl, hbl⟩ := hsp0
          have hlx : (ys.map (·.1)).length = len := by simpa using hyl
          have := R0.sl (w := W) (ok := okW W) (xs := ys.map (·.1)) b off (P.cellsOf e) cap (fun j => (W.cell? ⟨b, off + j, none⟩).getD undef) hbl (by rw [hlx]; exact hl) (fun x hx => (hyx x hx).1) (fun j hj => by
            rw [hlx] at hj
            obtain ⟨_, _, _, v, _, _, _, _, _, hv⟩ := hcell j hj
            rw [add_at] at hv
            rw [hv]; rfl) (fun j av hav => by
            have hj : j < len * P.cellsOf e := by
              have := (List.getElem?_eq_some_iff.1 hav).1
              rw [flatten_len (fun x hx => (hyx x hx).1), hlx] at this
              exact this
            obtain ⟨i, y, r, v, hi, hy, hr, rfl, hv1, hv⟩ := hcell j hj
            rw [flatten_get (fun x hx => (hyx x hx).1) (by rw [List.getElem?_map, hy]; rfl) hr] at hav
            obtain ⟨g1, _⟩ := hys i y hy
            obtain ⟨u, hu', hrel⟩ := g1.get r hav
            rw [hv1] at hu'
            cases hu'
            rw [add_at] at hv
            simp only [hv, Option.getD_some]
            exact hrel)
          rw [hlx] at this
          exact this
end
end Go.Proofs.Ytcfbhojpemjjpaa
