/- What the laws' arguments are. -/
import Derived.Test.YtcfbhojpemjjpaaAA
import Derived.Test.YtcfbhojpemjjpaaSp
import Derived.Test.YtcfbhojpemjjpaaRows
set_option linter.unusedVariables false
set_option linter.unusedSimpArgs false
namespace Go.Proofs.Ytcfbhojpemjjpaa
open Go Go.RowKit

theorem own : ownKnob Try.prog.godebug = none := by kernel_rfl
theorem laidOut : laidOutB Try.prog = true := by kernel_rfl
def wfI (n : Int) : Prop := -9223372036854775808 ≤ n ∧ n ≤ 9223372036854775807
theorem ty_int {d : Nat} {avs : List AV} (h : Typed Try.prog (d + 1) 3 avs) : ∃ n, avs = [.int .i64 n] ∧ wfI n := by
  simp only [Typed, Try.underlying3] at h
  obtain ⟨n, rfl, hw⟩ := h
  exact ⟨n, rfl, by simpa [Lit.wf, IntKind.min, IntKind.max, IntKind.signed, IntKind.bits, wfI] using hw⟩
theorem ta_int {d : Nat} {a : AV} (h : TypedA Try.prog (d + 1) 3 a) : ∃ n, a = .int .i64 n ∧ wfI n := by
  simp only [TypedA, Try.underlying3] at h
  obtain ⟨n, h, hw⟩ := ty_int h
  cases h
  exact ⟨n, rfl, hw⟩
theorem ta_u8 {d : Nat} {a : AV} (h : TypedA Try.prog (d + 1) 5 a) : ∃ n : Int, a = .int .u8 n ∧ 0 ≤ n ∧ n ≤ 255 := by
  simp only [TypedA, Try.underlying5] at h
  simp only [Typed, Try.underlying5] at h
  obtain ⟨n, h, hw⟩ := h
  cases h
  exact ⟨n, rfl, by simpa [Lit.wf, IntKind.min, IntKind.max, IntKind.signed, IntKind.bits] using hw⟩
theorem list_of {α : Type} {p : List AV → α → Prop} : ∀ (xs : List (List AV)), (∀ x ∈ xs, ∃ a, p x a) → ∃ l : List α, F2 p xs l
  | [], _ => ⟨[], .nil⟩
  | x :: xs, h => by
    obtain ⟨a, ha⟩ := h x (by simp)
    obtain ⟨l, hl⟩ := list_of xs fun y hy => h y (by simp [hy])
    exact ⟨a :: l, .cons ha hl⟩
theorem ta_ints {d : Nat} {a : AV} (h : TypedA Try.prog (d + 2) 43 a) : ∃ l : List Int, a = encI l ∧ (∀ n ∈ l, wfI n) ∧ l.length ≤ 17592186044416 := by
  simp only [TypedA, Try.underlying43] at h
  rw [Typed] at h
  simp only [Try.underlying43] at h
  obtain ⟨xs, h, hx, hs⟩ := h
  cases h
  obtain ⟨l, hl⟩ := list_of (p := fun x n => x = [.int .i64 n] ∧ wfI n) xs fun x hx' => ty_int (hx x hx')
  have e : xs = l.map fun n => [AV.int .i64 n] := by
    clear hx hs
    induction hl with
    | nil => rfl
    | cons h _ ih => rw [List.map_cons, ← ih, h.1]
  refine ⟨l, by rw [e], ?_, ?_⟩
  · clear hx hs e
    induction hl with
    | nil => simp
    | cons h _ ih => intro m hm; exact (List.mem_cons.1 hm).elim (fun he => he ▸ h.2) (ih m)
  · have e8 : Try.prog.bytesOf 3 = 8 := by kernel_rfl
    rw [e8, hl.length] at hs
    unfold reachBytes at hs
    omega
theorem ta_tab {d : Nat} {a : AV} (h : TypedA Try.prog (d + 3) 22 a) : ∃ T : List Pl, a = encT T ∧ (∀ p ∈ T, wfI p.st ∧ wfI p.ky ∧ wfI p.vl) ∧ T.length ≤ 17592186044416 := by
  simp only [TypedA, Try.underlying22] at h
  rw [Typed] at h
  simp only [Try.underlying22] at h
  obtain ⟨xs, h, hx, hs⟩ := h
  cases h
  obtain ⟨l, hl⟩ := list_of (p := fun x (p : Pl) => x = p.enc ∧ wfI p.st ∧ wfI p.ky ∧ wfI p.vl) xs fun x hx' => by
    have := hx x hx'
    rw [Typed] at this
    simp only [Try.underlying78] at this
    obtain ⟨x1, y1, rfl, h1, x2, y2, rfl, h2, x3, y3, rfl, h3, rfl⟩ := this
    obtain ⟨n1, rfl, w1⟩ := ty_int h1
    obtain ⟨n2, rfl, w2⟩ := ty_int h2
    obtain ⟨n3, rfl, w3⟩ := ty_int h3
    exact ⟨⟨n1, n2, n3⟩, rfl, w1, w2, w3⟩
  have e : xs = l.map Pl.enc := by
    clear hx hs
    induction hl with
    | nil => rfl
    | cons h _ ih => rw [List.map_cons, ← ih, h.1]
  refine ⟨l, by rw [e], ?_, ?_⟩
  · clear hx hs e
    induction hl with
    | nil => simp
    | cons h _ ih => intro m hm; exact (List.mem_cons.1 hm).elim (fun he => he ▸ h.2) (ih m)
  · have e8 : Try.prog.bytesOf 78 = 24 := by kernel_rfl
    rw [e8, hl.length] at hs
    unfold reachBytes at hs
    omega
end Go.Proofs.Ytcfbhojpemjjpaa
