/- Part 8 of the walk that the law rests on: Rw, Rx. -/
import Derived.Test.YtcmciimogcfakaaM7
import Derived.Test.YtcmciimogcfakaaRows
/- What the laws' arguments are. -/
set_option maxRecDepth 100000
set_option linter.unusedVariables false
set_option linter.unusedSimpArgs false
namespace Go.Proofs.Ytcmciimogcfakaa
open Go Go.RowKit

theorem own : ownKnob Try.prog.godebug = none := by kernel_rfl
theorem laidOut : laidOutB Try.prog = true := by kernel_rfl
def wfI (n : Int) : Prop := -9223372036854775808 ≤ n ∧ n ≤ 9223372036854775807
theorem ty_int {d : Nat} {avs : List AV} (h : Typed Try.prog (d + 1) 3 avs) : ∃ n, avs = [.int .i64 n] ∧ wfI n := by
  simp only [Typed, Try.underlying3] at h
  obtain ⟨n, rfl, hw⟩ := h
  exact ⟨n, rfl, by simpa [Lit.wf, IntKind.min, IntKind.max, IntKind.signed, IntKind.bits, wfI] using hw⟩
theorem ta_int {d : Nat} {a : AV} (h : TypedA Try.prog (d + 1) 3 a) : ∃ n, a = .int .i64 n ∧ wfI n := by
  simp only [TypedA, Try.underlying3] at h
  obtain ⟨n, h, hw⟩ := ty_int h
  cases h
  exact ⟨n, rfl, hw⟩
theorem ta_u8 {d : Nat} {a : AV} (h : TypedA Try.prog (d + 1) 5 a) : ∃ n : Int, a = .int .u8 n ∧ 0 ≤ n ∧ n ≤ 255 := by
  simp only [TypedA, Try.underlying5] at h
  simp only [Typed, Try.underlying5] at h
  obtain ⟨n, h, hw⟩ := h
  cases h
  exact ⟨n, rfl, by simpa [Lit.wf, IntKind.min, IntKind.max, IntKind.signed, IntKind.bits] using hw⟩
theorem list_of {α : Type} {p : List AV → α → Prop} : ∀ (xs : List (List AV)), (∀ x ∈ xs, ∃ a, p x a) → ∃ l : List α, F2 p xs l
  | [], _ => ⟨[], .nil⟩
  | x :: xs, h => by
    obtain ⟨a, ha⟩ := h x (by simp)
    obtain ⟨l, hl⟩ := list_of xs fun y hy => h y (by simp [hy])
    exact ⟨a :: l, .cons ha hl⟩
theorem ta_ints {d : Nat} {a : AV} (h : TypedA Try.prog (d + 2) 28 a) : ∃ l : List Int, a = encI l ∧ (∀ n ∈ l, wfI n) ∧ l.length ≤ 17592186044416 := by
  simp only [TypedA, Try.underlying28] at h
  rw [Typed] at h
  simp only [Try.underlying28] at h
  obtain ⟨xs, h, hx, hs⟩ := h
  cases h
  obtain ⟨l, hl⟩ := list_of (p := fun x n => x = [.int .i64 n] ∧ wfI n) xs fun x hx' => ty_int (hx x hx')
  have e : xs = l.map fun n => [AV.int .i64 n] := by
    clear hx hs
    induction hl with
    | nil => rfl
    | cons h _ ih => rw [List.map_cons, ← ih, h.1]
  refine ⟨l, by rw [e], ?_, ?_⟩
  · clear hx hs e
    induction hl with
    | nil => simp
    | cons h _ ih => intro m hm; exact (List.mem_cons.1 hm).elim (fun he => he ▸ h.2) (ih m)
  · have e8 : Try.prog.bytesOf 3 = 8 := by kernel_rfl
    rw [e8, hl.length] at hs
    unfold reachBytes at hs
    omega
theorem ta_tab {d : Nat} {a : AV} (h : TypedA Try.prog (d + 3) 27 a) : ∃ T : List Pl, a = encT T ∧ (∀ p ∈ T, wfI p.st ∧ wfI p.ky ∧ wfI p.vl) ∧ T.length ≤ 17592186044416 := by
  simp only [TypedA, Try.underlying27] at h
  rw [Typed] at h
  simp only [Try.underlying27] at h
  obtain ⟨xs, h, hx, hs⟩ := h
  cases h
  obtain ⟨l, hl⟩ := list_of (p := fun x (p : Pl) => x = p.enc ∧ wfI p.st ∧ wfI p.ky ∧ wfI p.vl) xs fun x hx' => by
    have := hx x hx'
    rw [Typed] at this
    simp only [Try.underlying85] at this
    obtain ⟨x1, y1, rfl, h1, x2, y2, rfl, h2, x3, y3, rfl, h3, rfl⟩ := this
    obtain ⟨n1, rfl, w1⟩ := ty_int h1
    obtain ⟨n2, rfl, w2⟩ := ty_int h2
    obtain ⟨n3, rfl, w3⟩ := ty_int h3
    exact ⟨⟨n1, n2, n3⟩, rfl, w1, w2, w3⟩
  have e : xs = l.map Pl.enc := by
    clear hx hs
    induction hl with
    | nil => rfl
    | cons h _ ih => rw [List.map_cons, ← ih, h.1]
  refine ⟨l, by rw [e], ?_, ?_⟩
  · clear hx hs e
    induction hl with
    | nil => simp
    | cons h _ ih => intro m hm; exact (List.mem_cons.1 hm).elim (fun he => he ▸ h.2) (ih m)
  · have e8 : Try.prog.bytesOf 85 = 24 := by kernel_rfl
    rw [e8, hl.length] at hs
    unfold reachBytes at hs
    omega
end Go.Proofs.Ytcmciimogcfakaa

/- What the laws' arguments are: stores. -/
set_option maxRecDepth 100000
set_option linter.unusedVariables false
set_option linter.unusedSimpArgs false
namespace Go.Proofs.Ytcmciimogcfakaa
open Go Go.RowKit

theorem f2_map {α : Type} {p : List AV → α → Prop} {f : α → List AV} (hp : ∀ x a, p x a → x = f a) {xs : List (List AV)} {l : List α} (h : F2 p xs l) : xs = l.map f := by
  induction h with
  | nil => rfl
  | cons h _ ih => rw [List.map_cons, ← ih, hp _ _ h]
theorem ty_ints {d : Nat} {avs : List AV} (h : Typed Try.prog (d + 2) 28 avs) : ∃ l : List Int, avs = [encI l] := by
  rw [Typed] at h
  simp only [Try.underlying28] at h
  obtain ⟨xs, rfl, hx, _⟩ := h
  obtain ⟨l, hl⟩ := list_of (p := fun x n => x = [.int .i64 n] ∧ wfI n) xs fun x hx' => ty_int (hx x hx')
  exact ⟨l, by rw [f2_map (f := fun n => [AV.int .i64 n]) (fun x a h => h.1) hl]⟩
theorem ty_bool {d : Nat} {avs : List AV} (h : Typed Try.prog (d + 1) 4 avs) : ∃ b, avs = [.bool b] := by
  simp only [Typed, Try.underlying4] at h
  exact h
theorem ty_obj {d : Nat} {avs : List AV} (h : Typed Try.prog (d + 3) 68 avs) : ∃ o : Ob, avs = o.enc := by
  rw [Typed] at h
  simp only [Try.underlying68] at h
  obtain ⟨x1, y1, rfl, h1, x2, y2, rfl, h2, x3, y3, rfl, h3, x4, y4, rfl, h4, x5, y5, rfl, h5, x6, y6, rfl, h6, rfl⟩ := h
  obtain ⟨n1, rfl, _⟩ := ty_int h1
  obtain ⟨n2, rfl, _⟩ := ty_int h2
  obtain ⟨n3, rfl, _⟩ := ty_int h3
  obtain ⟨n4, rfl, _⟩ := ty_int h4
  obtain ⟨n5, rfl⟩ := ty_bool h5
  obtain ⟨n6, rfl⟩ := ty_ints h6
  exact ⟨⟨n1, n2, n3, n4, n5, n6⟩, rfl⟩
theorem ty_cell {d : Nat} {avs : List AV} (h : Typed Try.prog (d + 4) 70 avs) : ∃ c : Ce, avs = c.enc := by
  rw [Typed] at h
  simp only [Try.underlying70] at h
  obtain ⟨x1, y1, rfl, h1, x2, y2, rfl, h2, x3, y3, rfl, h3, rfl⟩ := h
  obtain ⟨n1, rfl, _⟩ := ty_int h1
  obtain ⟨n2, rfl, _⟩ := ty_int h2
  obtain ⟨o, rfl⟩ := ty_obj h3
  exact ⟨⟨n1, n2, o⟩, by simp [Ce.enc, Ob.enc]⟩
theorem ta_store {d : Nat} {a : AV} (h : TypedA Try.prog (d + 7) 26 a) : ∃ S : Sto, a = eT S := by
  simp only [TypedA, Try.underlying26] at h
  obtain ⟨cs0, rfl, h⟩ := h
  rw [Typed] at h
  simp only [Try.underlying26] at h
  obtain ⟨x1, y1, rfl, h1, x2, y2, rfl, h2, rfl⟩ := h
  obtain ⟨n2, rfl, _⟩ := ty_int h2
  rw [Typed] at h1
  simp only [Try.underlying24] at h1
  obtain ⟨x3, y3, rfl, h3, x4, y4, rfl, h4, rfl⟩ := h1
  obtain ⟨n4, rfl, _⟩ := ty_int h4
  rw [Typed] at h3
  simp only [Try.underlying22] at h3
  obtain ⟨xs, rfl, hx, _⟩ := h3
  obtain ⟨l, hl⟩ := list_of (p := fun x (c : Ce) => x = c.enc) xs fun x hx' => ty_cell (hx x hx')
  exact ⟨⟨l, n4, n2⟩, by rw [f2_map (f := Ce.enc) (fun x a h => h) hl]; rfl⟩
end Go.Proofs.Ytcmciimogcfakaa
