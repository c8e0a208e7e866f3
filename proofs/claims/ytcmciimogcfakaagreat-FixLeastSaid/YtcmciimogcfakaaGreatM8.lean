/- Part 8 of the walk that the law rests on: Rw, Rx, Ge, Gf. -/
import Derived.Test.YtcmciimogcfakaaGreatM7
import Derived.Test.YtcmciimogcfakaaGreatRows
/- What the laws' arguments are. -/
set_option maxRecDepth 100000
set_option linter.unusedVariables false
set_option linter.unusedSimpArgs false
namespace Go.Proofs.YtcmciimogcfakaaGreat
open Go Go.RowKit

theorem own : ownKnob Tryz.prog.godebug = none := by kernel_rfl
theorem laidOut : laidOutB Tryz.prog = true := by kernel_rfl
def wfI (n : Int) : Prop := -9223372036854775808 ≤ n ∧ n ≤ 9223372036854775807
theorem ty_int {d : Nat} {avs : List AV} (h : Typed Tryz.prog (d + 1) 3 avs) : ∃ n, avs = [.int .i64 n] ∧ wfI n := by
  simp only [Typed, Tryz.underlying3] at h
  obtain ⟨n, rfl, hw⟩ := h
  exact ⟨n, rfl, by simpa [Lit.wf, IntKind.min, IntKind.max, IntKind.signed, IntKind.bits, wfI] using hw⟩
theorem ta_int {d : Nat} {a : AV} (h : TypedA Tryz.prog (d + 1) 3 a) : ∃ n, a = .int .i64 n ∧ wfI n := by
  simp only [TypedA, Tryz.underlying3] at h
  obtain ⟨n, h, hw⟩ := ty_int h
  cases h
  exact ⟨n, rfl, hw⟩
theorem ta_u8 {d : Nat} {a : AV} (h : TypedA Tryz.prog (d + 1) 5 a) : ∃ n : Int, a = .int .u8 n ∧ 0 ≤ n ∧ n ≤ 255 := by
  simp only [TypedA, Tryz.underlying5] at h
  simp only [Typed, Tryz.underlying5] at h
  obtain ⟨n, h, hw⟩ := h
  cases h
  exact ⟨n, rfl, by simpa [Lit.wf, IntKind.min, IntKind.max, IntKind.signed, IntKind.bits] using hw⟩
theorem list_of {α : Type} {p : List AV → α → Prop} : ∀ (xs : List (List AV)), (∀ x ∈ xs, ∃ a, p x a) → ∃ l : List α, F2 p xs l
  | [], _ => ⟨[], .nil⟩
  | x :: xs, h => by
    obtain ⟨a, ha⟩ := h x (by simp)
    obtain ⟨l, hl⟩ := list_of xs fun y hy => h y (by simp [hy])
    exact ⟨a :: l, .cons ha hl⟩
theorem ta_ints {d : Nat} {a : AV} (h : TypedA Tryz.prog (d + 2) 28 a) : ∃ l : List Int, a = encI l ∧ (∀ n ∈ l, wfI n) ∧ l.length ≤ 17592186044416 := by
  simp only [TypedA, Tryz.underlying28] at h
  rw [Typed] at h
  simp only [Tryz.underlying28] at h
  obtain ⟨xs, h, hx, hs⟩ := h
  cases h
  obtain ⟨l, hl⟩ := list_of (p := fun x n => x = [.int .i64 n] ∧ wfI n) xs fun x hx' => ty_int (hx x hx')
  have e : xs = l.map fun n => [AV.int .i64 n] := by
    clear hx hs
    induction hl with
    | nil => rfl
    | cons h _ ih => rw [List.map_cons, ← ih, h.1]
  refine ⟨l, by rw [e], ?_, ?_⟩
  · clear hx hs e
    induction hl with
    | nil => simp
    | cons h _ ih => intro m hm; exact (List.mem_cons.1 hm).elim (fun he => he ▸ h.2) (ih m)
  · have e8 : Tryz.prog.bytesOf 3 = 8 := by kernel_rfl
    rw [e8, hl.length] at hs
    unfold reachBytes at hs
    omega
theorem ta_tab {d : Nat} {a : AV} (h : TypedA Tryz.prog (d + 3) 27 a) : ∃ T : List Pl, a = encT T ∧ (∀ p ∈ T, wfI p.st ∧ wfI p.ky ∧ wfI p.vl) ∧ T.length ≤ 17592186044416 := by
  simp only [TypedA, Tryz.underlying27] at h
  rw [Typed] at h
  simp only [Tryz.underlying27] at h
  obtain ⟨xs, h, hx, hs⟩ := h
  cases h
  obtain ⟨l, hl⟩ := list_of (p := fun x (p : Pl) => x = p.enc ∧ wfI p.st ∧ wfI p.ky ∧ wfI p.vl) xs fun x hx' => by
    have := hx x hx'
    rw [Typed] at this
    simp only [Tryz.underlying72] at this
    obtain ⟨x1, y1, rfl, h1, x2, y2, rfl, h2, x3, y3, rfl, h3, rfl⟩ := this
    obtain ⟨n1, rfl, w1⟩ := ty_int h1
    obtain ⟨n2, rfl, w2⟩ := ty_int h2
    obtain ⟨n3, rfl, w3⟩ := ty_int h3
    exact ⟨⟨n1, n2, n3⟩, rfl, w1, w2, w3⟩
  have e : xs = l.map Pl.enc := by
    clear hx hs
    induction hl with
    | nil => rfl
    | cons h _ ih => rw [List.map_cons, ← ih, h.1]
  refine ⟨l, by rw [e], ?_, ?_⟩
  · clear hx hs e
    induction hl with
    | nil => simp
    | cons h _ ih => intro m hm; exact (List.mem_cons.1 hm).elim (fun he => he ▸ h.2) (ih m)
  · have e8 : Tryz.prog.bytesOf 72 = 24 := by kernel_rfl
    rw [e8, hl.length] at hs
    unfold reachBytes at hs
    omega
end Go.Proofs.YtcmciimogcfakaaGreat

/- What the laws' arguments are: stores. -/
set_option maxRecDepth 100000
set_option linter.unusedVariables false
set_option linter.unusedSimpArgs false
namespace Go.Proofs.YtcmciimogcfakaaGreat
open Go Go.RowKit

theorem f2_map {α : Type} {p : List AV → α → Prop} {f : α → List AV} (hp : ∀ x a, p x a → x = f a) {xs : List (List AV)} {l : List α} (h : F2 p xs l) : xs = l.map f := by
  induction h with
  | nil => rfl
  | cons h _ ih => rw [List.map_cons, ← ih, hp _ _ h]
theorem ty_ints {d : Nat} {avs : List AV} (h : Typed Tryz.prog (d + 2) 28 avs) : ∃ l : List Int, avs = [encI l] := by
  rw [Typed] at h
  simp only [Tryz.underlying28] at h
  obtain ⟨xs, rfl, hx, _⟩ := h
  obtain ⟨l, hl⟩ := list_of (p := fun x n => x = [.int .i64 n] ∧ wfI n) xs fun x hx' => ty_int (hx x hx')
  exact ⟨l, by rw [f2_map (f := fun n => [AV.int .i64 n]) (fun x a h => h.1) hl]⟩
theorem ty_bool {d : Nat} {avs : List AV} (h : Typed Tryz.prog (d + 1) 4 avs) : ∃ b, avs = [.bool b] := by
  simp only [Typed, Tryz.underlying4] at h
  exact h
theorem ty_obj {d : Nat} {avs : List AV} (h : Typed Tryz.prog (d + 3) 63 avs) : ∃ o : Ob, avs = o.enc := by
  rw [Typed] at h
  simp only [Tryz.underlying63] at h
  obtain ⟨x1, y1, rfl, h1, x2, y2, rfl, h2, x3, y3, rfl, h3, x4, y4, rfl, h4, x5, y5, rfl, h5, x6, y6, rfl, h6, rfl⟩ := h
  obtain ⟨n1, rfl, _⟩ := ty_int h1
  obtain ⟨n2, rfl, _⟩ := ty_int h2
  obtain ⟨n3, rfl, _⟩ := ty_int h3
  obtain ⟨n4, rfl, _⟩ := ty_int h4
  obtain ⟨n5, rfl⟩ := ty_bool h5
  obtain ⟨n6, rfl⟩ := ty_ints h6
  exact ⟨⟨n1, n2, n3, n4, n5, n6⟩, rfl⟩
theorem ty_cell {d : Nat} {avs : List AV} (h : Typed Tryz.prog (d + 4) 65 avs) : ∃ c : Ce, avs = c.enc := by
  rw [Typed] at h
  simp only [Tryz.underlying65] at h
  obtain ⟨x1, y1, rfl, h1, x2, y2, rfl, h2, x3, y3, rfl, h3, rfl⟩ := h
  obtain ⟨n1, rfl, _⟩ := ty_int h1
  obtain ⟨n2, rfl, _⟩ := ty_int h2
  obtain ⟨o, rfl⟩ := ty_obj h3
  exact ⟨⟨n1, n2, o⟩, by simp [Ce.enc, Ob.enc]⟩
theorem ta_store {d : Nat} {a : AV} (h : TypedA Tryz.prog (d + 7) 26 a) : ∃ S : Sto, a = eT S := by
  simp only [TypedA, Tryz.underlying26] at h
  obtain ⟨cs0, rfl, h⟩ := h
  rw [Typed] at h
  simp only [Tryz.underlying26] at h
  obtain ⟨x1, y1, rfl, h1, x2, y2, rfl, h2, rfl⟩ := h
  obtain ⟨n2, rfl, _⟩ := ty_int h2
  rw [Typed] at h1
  simp only [Tryz.underlying24] at h1
  obtain ⟨x3, y3, rfl, h3, x4, y4, rfl, h4, rfl⟩ := h1
  obtain ⟨n4, rfl, _⟩ := ty_int h4
  rw [Typed] at h3
  simp only [Tryz.underlying22] at h3
  obtain ⟨xs, rfl, hx, _⟩ := h3
  obtain ⟨l, hl⟩ := list_of (p := fun x (c : Ce) => x = c.enc) xs fun x hx' => ty_cell (hx x hx')
  exact ⟨⟨l, n4, n2⟩, by rw [f2_map (f := Ce.enc) (fun x a h => h) hl]; rfl⟩
end Go.Proofs.YtcmciimogcfakaaGreat

/- The law FixLeast. -/
set_option linter.unusedVariables false
set_option linter.unusedSimpArgs false
namespace Go.Proofs.YtcmciimogcfakaaGreat
open Go Go.RowKit
open Classical

theorem times_iff {l : List Int} {a : Int} (h0 : a ≠ 0) : 0 < timesL l a ↔ a ∈ l := by
  have := has_mem (l := l) h0
  unfold has at this
  rwa [decide_eq_true_iff] at this
theorem times_one {r : List Int} (hn : r.Nodup) {a : Int} (h0 : a ≠ 0) (hm : a ∈ r) : timesL r a = 1 := by
  have h1 : timesL r a = r.count a := by
    unfold timesL List.count
    refine List.countP_congr fun x _ => ?_
    simp [h0]
  rw [h1, List.Nodup.count hn, if_pos hm]
set_option maxRecDepth 100000 in
theorem FixLeast (cs : List Ce) (la sr : Int) (T : List Pl) (l m : List Int) : C Tryz.prog 4 [tS cs la sr, encT T, encI l, encI m] (.bool true) := by
  refine fnOk mixed tyOk Tryz.func4 (code := Tryz.f4.body.getD .skip) rfl rfl rfl (gC_in ?_)
  have hr := c_right12 cs la sr
  have he := c_even T
  repeat (first | (refine oR ?_; (conv => whnf)) | refine kOps ?_ | refine oNil ?_ | refine sSeq ?_ | refine sR ?_ | refine qSeqN ?_)
  by_cases hG : G12 cs la sr
  rotate_left
  · rw [decide_eq_false hG] at hr
    (refine oCall rfl (.inl rfl) rfl rfl rfl (.fz [] _) rfl ⟨rfl, hr, ?_⟩; (conv => whnf))
    repeat (first | (refine oR ?_; (conv => whnf)) | refine kOps ?_ | refine oH ?_ | refine oNil ?_ | refine sSeq ?_ | refine sR ?_ | refine qSeqN ?_ | refine sT ?_ | (refine sBT ?_; (conv => whnf)))
    (refine oCall rfl (.inl rfl) rfl rfl rfl (.fz [] _) rfl ⟨rfl, c_shown12, ?_⟩; (conv => whnf))
    repeat (first | (refine oR ?_; (conv => whnf)) | refine kOps ?_ | refine oNil ?_ | refine qSeqN ?_ | refine sRet ?_ | refine qSeqR ?_)
    refine qEnd ?_
    conv => whnf
    rfl
  rw [decide_eq_true hG] at hr
  (refine oCall rfl (.inl rfl) rfl rfl rfl (.fz [] _) rfl ⟨rfl, hr, ?_⟩; (conv => whnf))
  repeat (first | (refine oR ?_; (conv => whnf)) | refine kOps ?_ | (refine oG ?_; (conv => whnf)))
  cases hev : rightL T with
  | false =>
    rw [hev] at he
    (refine oCall rfl (.inr ⟨_, _, _, rfl, rfl, rfl⟩) rfl rfl rfl (.fz [] _) rfl ⟨rfl, he, ?_⟩; (conv => whnf))
    repeat (first | (refine oR ?_; (conv => whnf)) | refine kOps ?_ | (refine oG ?_; (conv => whnf)) | refine oH ?_ | refine oNil ?_ | refine sSeq ?_ | refine sR ?_ | refine qSeqN ?_ | refine sT ?_ | (refine sBT ?_; (conv => whnf)) | (refine sBF ?_; (conv => whnf)))
    (refine oCall rfl (.inl rfl) rfl rfl rfl (.fz [] _) rfl ⟨rfl, c_shown12, ?_⟩; (conv => whnf))
    repeat (first | (refine oR ?_; (conv => whnf)) | refine kOps ?_ | refine oNil ?_ | refine qSeqN ?_ | refine sRet ?_ | refine qSeqR ?_)
    refine qEnd ?_
    conv => whnf
    rfl
  | true =>
  rw [hev] at he
  have hT := (rightL_iff T).1 hev
  (refine oCall rfl (.inr ⟨_, _, _, rfl, rfl, rfl⟩) rfl rfl rfl (.fz [] _) rfl ⟨rfl, he, ?_⟩; (conv => whnf))
  repeat (first | (refine oR ?_; (conv => whnf)) | refine kOps ?_ | (refine oG ?_; (conv => whnf)) | (refine sBF ?_; (conv => whnf)))
  refine oS rfl rfl rfl (fun h1 => ?_) (fun h1 => ?_)
  · repeat (first | (refine oR ?_; (conv => whnf)) | refine kOps ?_ | refine oH ?_ | refine oNil ?_ | refine sSeq ?_ | refine sR ?_ | refine qSeqN ?_ | refine sT ?_ | (refine sBT ?_; (conv => whnf)))
    (refine oCall rfl (.inl rfl) rfl rfl rfl (.fz [] _) rfl ⟨rfl, c_shown12, ?_⟩; (conv => whnf))
    repeat (first | (refine oR ?_; (conv => whnf)) | refine kOps ?_ | refine oNil ?_ | refine qSeqN ?_ | refine sRet ?_ | refine qSeqR ?_)
    refine qEnd ?_
    conv => whnf
    rfl
  repeat (first | (refine oR ?_; (conv => whnf)) | refine kOps ?_ | (refine oG ?_; (conv => whnf)) | (refine sBF ?_; (conv => whnf)))
  refine oS rfl rfl rfl (fun h2 => ?_) (fun h2 => ?_)
  · repeat (first | (refine oR ?_; (conv => whnf)) | refine kOps ?_ | refine oH ?_ | refine oNil ?_ | refine sSeq ?_ | refine sR ?_ | refine qSeqN ?_ | refine sT ?_ | (refine sBT ?_; (conv => whnf)))
    (refine oCall rfl (.inl rfl) rfl rfl rfl (.fz [] _) rfl ⟨rfl, c_shown12, ?_⟩; (conv => whnf))
    repeat (first | (refine oR ?_; (conv => whnf)) | refine kOps ?_ | refine oNil ?_ | refine qSeqN ?_ | refine sRet ?_ | refine qSeqR ?_)
    refine qEnd ?_
    conv => whnf
    rfl
  have h50 : l.length ≤ 50 := by
    have := dF h1
    rw [List.length_map] at this
    omega
  have m50 : m.length ≤ 50 := by
    have := dF h2
    rw [List.length_map] at this
    omega
  have hR := hG.rs
  have hU : Un cs := hG.g.un
  have h8 := hT.le
  have hl : l.length ≤ 1099511627776 := by omega
  have hm : m.length ≤ 1099511627776 := by omega
  have hr24 := fixL_len hR T l
  have hrb : (fixL cs T l).length ≤ 1099511627776 := by omega
  have f1 := p_from cs la sr T l hR hU h8 hl
  have g3 := r_closed cs la sr T (fixL cs T l) hR hU h8 hrb hT
  rw [decide_eq_true (clo_fix cs T l)] at g3
  obtain ⟨b0, g4, hb0⟩ : ∃ b0, C Tryz.prog 17 [tS cs la sr, encT T, encI m] (.bool b0) ∧ (b0 = true → Clo cs T m) := ⟨_, r_closed cs la sr T m hR hU h8 hm hT, fun h => of_decide_eq_true h⟩
  have hi : C Tryz.prog 9 [tS cs la sr] (tS cs la sr) := c_its ⟨cs, la, sr⟩ (by have := hR.hl; show cs.length ≤ _; omega)
  have ht := c_tab T (by omega)
  have hlv := c_rlive cs la sr hR hU
  have hl24 := liveL_len hR
  have hmem : ∀ x, x ∈ liveL cs ↔ lv cs x = true := fun x => live_iff hR
  have hnd := fixL_nodup hR T l
  have hbase : ∀ x, x ∈ l → lv cs x = true → x ∈ fixL cs T l := fun x hx hv => mem_fixL.2 (.base hx hv)
  have hrv : ∀ x, x ∈ fixL cs T l → x ≠ 0 := fun x hx => lv_ne (mem_fixL.1 hx).lives
  have hlst : b0 = true → (∀ a ∈ liveL cs, a ∈ l → a ∈ m) → ∀ x ∈ fixL cs T l, x ∈ m := fun h1 h2 x hx => clo_least (hb0 h1) (fun a ha hv => h2 a ((hmem a).2 hv) ha) hx
  generalize fixL cs T l = r at *
  generalize liveL cs = all at *
  have hab : all.length ≤ 1099511627776 := by omega
  have tl1 := fun a => c_times l a hl
  have tm1 := fun a => c_times m a hm
  have tr1 := fun a => c_times r a hrb
  skip
  (refine oCall rfl (.inr ⟨_, _, _, rfl, rfl, rfl⟩) rfl rfl rfl (.fz [] _) rfl ⟨rfl, c_shown12, ?_⟩; (conv => whnf))
  repeat (first | (refine oR ?_; (conv => whnf)) | refine kOps ?_ | (refine oG ?_; (conv => whnf)) | refine oNil ?_ | refine sSeq ?_ | refine sR ?_ | refine qSeqN ?_ | refine sSkip ?_ | refine sF ?_ | (refine sBF ?_; (conv => whnf)))
  (refine oCall rfl (.inl rfl) rfl rfl rfl (.fz [] _) rfl ⟨rfl, hi, ?_⟩; (conv => whnf))
  repeat (first | (refine oR ?_; (conv => whnf)) | refine kOps ?_ | refine oNil ?_ | refine sSeq ?_ | refine sR ?_ | refine qSeqN ?_)
  (refine oCall rfl (.inl rfl) rfl rfl rfl (.fz [] _) rfl ⟨rfl, f1, ?_⟩; (conv => whnf))
  repeat (first | (refine oR ?_; (conv => whnf)) | refine kOps ?_ | refine oNil ?_ | refine sSeq ?_ | refine qSeqN ?_ | refine sD ?_ | (apply drRun; exact rfl; exact .inl rfl; (conv => whnf); exact .mk rfl))
  refine drS rfl rfl rfl (fun h3 => ?_) (fun h3 => ?_)
  · exfalso
    have := dT h3
    rw [List.length_map] at this
    omega
  repeat (first | (apply drRun; exact rfl; exact .inr ⟨_, _, _, rfl, rfl, rfl⟩; (conv => whnf); exact .mk rfl) | (apply drRun; exact rfl; exact .inr ⟨_, _, _, rfl, rfl, rfl⟩; (conv => whnf)))
  (refine ⟨.fz [] _, rfl, ht, ?_⟩; (conv => whnf); exact .mk rfl)
  repeat (first | (apply drRun; exact rfl; exact .inr ⟨_, _, _, rfl, rfl, rfl⟩; (conv => whnf); exact .mk rfl) | (apply drRun; exact rfl; exact .inr ⟨_, _, _, rfl, rfl, rfl⟩; (conv => whnf)))
  (refine ⟨.fz [] _, rfl, g3, ?_⟩; (conv => whnf); exact .mk rfl)
  repeat (first | (refine oR ?_; (conv => whnf)) | refine kOps ?_ | refine sSeq ?_ | refine sR ?_ | refine qSeqN ?_ | refine sSkip ?_ | refine sF ?_ | (refine sBF ?_; (conv => whnf)) | exact KPl.mk rfl | (apply drRun; exact rfl; exact .inr ⟨_, _, _, rfl, rfl, rfl⟩; (conv => whnf); exact .mk rfl) | (apply drRun; exact rfl; exact .inl rfl; (conv => whnf)) | refine drNil ?_)
  (refine oCall rfl (.inl rfl) rfl rfl rfl (.fz [] _) rfl ⟨rfl, hlv, ?_⟩; (conv => whnf))
  repeat (first | (refine oR ?_; (conv => whnf)) | refine kOps ?_ | refine oNil ?_ | refine sSeq ?_ | refine qSeqN ?_ | refine sD ?_ | (apply drRun; exact rfl; exact .inl rfl; (conv => whnf); exact .mk rfl) | (apply drRun; exact rfl; exact .inl rfl; (conv => whnf)))
  (refine ⟨.fz [] _, rfl, ht, ?_⟩; (conv => whnf); exact .mk rfl)
  repeat (first | (apply drRun; exact rfl; exact .inl rfl; (conv => whnf); exact .mk rfl) | (apply drRun; exact rfl; exact .inl rfl; (conv => whnf)))
  (refine ⟨.fz [] _, rfl, g4, ?_⟩; (conv => whnf); exact .mk rfl)
  repeat (first | (refine oR ?_; (conv => whnf)) | refine kOps ?_ | refine oNil ?_ | refine sSeq ?_ | refine sR ?_ | refine qSeqN ?_ | refine sBlk ?_ | (apply drRun; exact rfl; exact .inl rfl; (conv => whnf); exact .mk rfl) | refine drNil ?_)
  refine sLoop (α := Nat × Bool) (fun a => a.1 ≤ all.length ∧ (a.2 = true → b0 = true ∧ ∀ (j : Nat) (x : Int), j < a.1 → all[j]? = some x → x ∈ l → x ∈ m)) (fun a => ⟨tl [(2, encI l), (3, encI m), (10, encI r), (11, encI all), (12, .bool a.2), (13, eI (a.1 : Int))], Ll [], 108, 0, [], none⟩) (fun a => all.length - a.1) (0, b0) .kp ⟨Nat.zero_le _, fun h => ⟨h, fun j x hj => absurd hj (Nat.not_lt_zero _)⟩⟩ fun a ha => ?_
  obtain ⟨i, h⟩ := a
  obtain ⟨hi, hok⟩ := ha
  simp only at hi hok
  repeat (first | (refine oR ?_; (conv => whnf)) | refine kOps ?_ | refine oNil ?_ | refine sSeq ?_ | refine sR ?_ | refine qSeqN ?_)
  refine sC rfl (fun h4 => ?_) (fun h4 => ?_)
  · have hlt : i < all.length := by
      have := dT h4
      rw [List.length_map] at this
      omega
    obtain ⟨x, hx⟩ : ∃ x, all[i]? = some x := ⟨_, List.getElem?_eq_getElem hlt⟩
    have hxa := List.mem_of_getElem? hx
    have hxv := (hmem x).1 hxa
    have hx0 := lv_ne hxv
    repeat (first | (refine oR ?_; (conv => whnf)) | refine kOps ?_ | refine sSeq ?_ | refine sR ?_ | refine qSeqN ?_ | refine sSkip ?_ | refine sBlk ?_)
    refine ⟨i, _, rfl, encI_get hx, ?_⟩
    conv => whnf
    repeat (first | (refine oR ?_; (conv => whnf)) | refine kOps ?_)
    (refine oCall rfl (.inl rfl) rfl rfl rfl (.fz [] _) rfl ⟨rfl, tl1 x, ?_⟩; (conv => whnf))
    repeat (first | (refine oR ?_; (conv => whnf)) | refine kOps ?_ | refine oNil ?_ | refine qSeqN ?_)
    refine sC rfl (fun h5 => ?_) (fun h5 => ?_)
    · have hxl : x ∈ l := (times_iff hx0).1 (by have := dT h5; omega)
      have hxr := hbase x hxl hxv
      have h1x := times_one hnd hx0 hxr
      have tr := tr1 x
      rw [h1x] at tr
      repeat (first | (refine oR ?_; (conv => whnf)) | refine kOps ?_ | refine sSeq ?_ | refine sR ?_)
      refine ⟨i, _, rfl, encI_get hx, ?_⟩
      conv => whnf
      repeat (first | (refine oR ?_; (conv => whnf)) | refine kOps ?_)
      (refine oCall rfl (.inl rfl) rfl rfl rfl (.fz [] _) rfl ⟨rfl, tr, ?_⟩; (conv => whnf))
      repeat (first | (refine oR ?_; (conv => whnf)) | refine kOps ?_ | refine oNil ?_ | refine sR ?_ | refine qSeqN ?_ | refine sSkip ?_ | refine sF ?_)
      cases h with
      | false =>
        repeat (first | (refine oR ?_; (conv => whnf)) | refine kOps ?_ | refine oH ?_ | refine oNil ?_ | refine sR ?_ | refine qSeqN ?_ | refine qBlkN ?_ | (refine sBF ?_; (conv => whnf)))
        exact qLoopN (i + 1, false) .kp ⟨hlt, fun h => by cases h⟩ (show all.length - (i + 1) < all.length - i by omega)
      | true =>
        repeat (first | refine kOps ?_ | (refine oG ?_; (conv => whnf)))
        refine ⟨i, _, rfl, encI_get hx, ?_⟩
        conv => whnf
        repeat (first | refine kOps ?_ | (refine oG ?_; (conv => whnf)))
        (refine oCall rfl (.inr ⟨_, _, _, rfl, rfl, rfl⟩) rfl rfl rfl (.fz [] _) rfl ⟨rfl, tm1 x, ?_⟩; (conv => whnf))
        repeat (first | (refine oR ?_; (conv => whnf)) | refine kOps ?_ | (refine oG ?_; (conv => whnf)) | refine oNil ?_ | refine sR ?_ | refine qSeqN ?_ | refine qBlkN ?_ | (refine sBT ?_; (conv => whnf)))
        refine qLoopN (i + 1, decide (((timesL m x : Nat) : Int) > 0)) .kp ⟨hlt, fun h => ⟨(hok rfl).1, fun j y hj hy hyl => ?_⟩⟩ (show all.length - (i + 1) < all.length - i by omega)
        rcases (show j < i ∨ j = i by have : j < i + 1 := hj; omega) with hj | rfl
        · exact (hok rfl).2 j y hj hy hyl
        · rw [hx] at hy
          cases hy
          exact (times_iff hx0).1 (by have : ((timesL m x : Nat) : Int) > 0 := of_decide_eq_true h; omega)
    · have hxl : x ∉ l := fun hm => by
        have h1 := (times_iff hx0).2 hm
        have h2 := dF h5
        omega
      repeat (first | (refine oR ?_; (conv => whnf)) | refine kOps ?_ | refine oNil ?_ | refine sR ?_ | refine qSeqN ?_ | refine sSkip ?_ | refine qBlkN ?_)
      refine qLoopN (i + 1, h) .kp ⟨hlt, fun hh => ⟨(hok hh).1, fun j y hj hy hyl => ?_⟩⟩ (show all.length - (i + 1) < all.length - i by omega)
      rcases (show j < i ∨ j = i by have : j < i + 1 := hj; omega) with hj | rfl
      · exact (hok hh).2 j y hj hy hyl
      · rw [hx] at hy
        cases hy
        exact absurd hyl hxl
  have hge : all.length ≤ i := by
    have := dF h4
    rw [List.length_map] at this
    omega
  have hsub : h = true → ∀ x ∈ r, x ∈ m := fun hh => hlst (hok hh).1 fun x hx hxl => by
    obtain ⟨j, hj⟩ := List.mem_iff_getElem?.1 hx
    exact (hok hh).2 j x (by have := lt_of_get hj; omega) hj hxl
  clear hok
  repeat (first | (refine oR ?_; (conv => whnf)) | refine kOps ?_ | refine oNil ?_ | refine sSeq ?_ | refine sR ?_ | refine qSeqN ?_ | refine sBlk ?_ | refine sExit ?_ | refine qSeqE ?_ | refine qX ?_ | refine qLoopE ?_)
  refine sLoop (α := Nat) (fun k => k ≤ r.length) (fun k => ⟨tl [(3, encI m), (10, encI r), (12, .bool h), (14, eI (k : Int))], Ll [], 108, 0, [], none⟩) (fun k => r.length - k) 0 .kp (Nat.zero_le _) fun k hk => ?_
  repeat (first | (refine oR ?_; (conv => whnf)) | refine kOps ?_ | refine oNil ?_ | refine sSeq ?_ | refine sR ?_ | refine qSeqN ?_)
  refine sC rfl (fun h6 => ?_) (fun h6 => ?_)
  · have hlt : k < r.length := by
      have := dT h6
      rw [List.length_map] at this
      omega
    obtain ⟨x, hx⟩ : ∃ x, r[k]? = some x := ⟨_, List.getElem?_eq_getElem hlt⟩
    have hxr := List.mem_of_getElem? hx
    have hx0 := hrv x hxr
    cases h with
    | false =>
      repeat (first | (refine oR ?_; (conv => whnf)) | refine kOps ?_ | refine oH ?_ | refine oNil ?_ | refine sSeq ?_ | refine sR ?_ | refine qSeqN ?_ | refine sSkip ?_ | refine sF ?_ | refine sBlk ?_ | refine qBlkN ?_ | (refine sBF ?_; (conv => whnf)))
      exact qLoopN (k + 1) .kp hlt (by omega)
    | true =>
      have h1 := (times_iff hx0).2 (hsub rfl x hxr)
      repeat (first | (refine oR ?_; (conv => whnf)) | refine kOps ?_ | (refine oG ?_; (conv => whnf)) | refine sSeq ?_ | refine sR ?_ | refine qSeqN ?_ | refine sSkip ?_ | refine sBlk ?_)
      refine ⟨k, _, rfl, encI_get hx, ?_⟩
      conv => whnf
      repeat (first | refine kOps ?_ | (refine oG ?_; (conv => whnf)))
      (refine oCall rfl (.inr ⟨_, _, _, rfl, rfl, rfl⟩) rfl rfl rfl (.fz [] _) rfl ⟨rfl, tm1 x, ?_⟩; (conv => whnf))
      repeat (first | (refine oR ?_; (conv => whnf)) | refine kOps ?_ | (refine oG ?_; (conv => whnf)) | refine oNil ?_ | refine qSeqN ?_ | (refine sBT ?_; (conv => whnf)))
      refine sC rfl (fun h7 => ?_) (fun h7 => ?_)
      · exfalso
        have h3 : ((timesL m x : Nat) : Int) = 0 := by simpa using h7
        omega
      repeat (first | (refine oR ?_; (conv => whnf)) | refine kOps ?_ | refine oNil ?_ | refine sR ?_ | refine qSeqN ?_ | refine sSkip ?_ | refine qBlkN ?_)
      exact qLoopN (k + 1) .kp hlt (by omega)
  · repeat (first | (refine oR ?_; (conv => whnf)) | refine kOps ?_ | refine oNil ?_ | refine sSeq ?_ | refine sR ?_ | refine qSeqN ?_ | refine sRet ?_ | refine sExit ?_ | refine qSeqE ?_ | refine qX ?_ | refine qLoopE ?_)
    refine qEnd ?_
    conv => whnf
    rfl
end Go.Proofs.YtcmciimogcfakaaGreat

/- The law FixMore. -/
set_option linter.unusedVariables false
set_option linter.unusedSimpArgs false
namespace Go.Proofs.YtcmciimogcfakaaGreat
open Go Go.RowKit
open Classical

theorem prs_look {T : List Pl} (h : Rt T) {q : Pr} : q ∈ pairsL T ↔ look T q.1 = some q.2 := by
  rw [h.look_iff]
  unfold pairsL fullT
  rw [List.mem_map]
  refine ⟨fun ⟨p, hp, he⟩ => ?_, fun ⟨i, p, hp, hf, hv⟩ => ?_⟩
  · rw [List.mem_filter] at hp
    obtain ⟨i, hi⟩ := List.mem_iff_getElem?.1 hp.1
    subst he
    exact ⟨i, p, hi, ⟨by simpa using hp.2, rfl⟩, rfl⟩
  · refine ⟨p, List.mem_filter.2 ⟨List.mem_of_getElem? hp, by simpa using hf.1⟩, ?_⟩
    obtain ⟨q1, q2⟩ := q
    exact Prod.ext hf.2 hv
theorem set_len (T : List Pl) (k v : Int) : (setL T k v).1.length = T.length := by
  unfold setL
  split
  · rfl
  · split
    · exact dropL_len T k
    · split
      · exact putL_len T k v
      · rfl
theorem set_more {T : List Pl} (h : Rt T) {k v : Int} (he : (getL T k).2 ≠ 0) : ∀ q ∈ pairsL T, q ∈ pairsL (setL T k v).1 := by
  have hl : look T k = none := by
    cases hlk : look T k with
    | none => rfl
    | some u => rw [h.get_some hlk] at he; exact absurd rfl he
  unfold setL
  split
  · exact fun q hq => hq
  · split
    · rw [h.drop_none hl]
      exact fun q hq => hq
    · split
      · rename_i hs
        intro q hq
        rw [prs_look h] at hq
        rw [prs_look (h.put k v), h.look_put k v q.1 hs, if_neg (fun e => by rw [e, hl] at hq; cases hq)]
        exact hq
      · exact fun q hq => hq
set_option maxRecDepth 100000 in
theorem FixMore (cs : List Ce) (la sr : Int) (T : List Pl) (l m : List Int) (k v : Int) : C Tryz.prog 5 [tS cs la sr, encT T, encI l, encI m, eI k, eI v] (.bool true) := by
  refine fnOk mixed tyOk Tryz.func5 (code := Tryz.f5.body.getD .skip) rfl rfl rfl (gC_in ?_)
  have hr := c_right12 cs la sr
  have he := c_even T
  repeat (first | (refine oR ?_; (conv => whnf)) | refine kOps ?_ | refine oNil ?_ | refine sSeq ?_ | refine sR ?_ | refine qSeqN ?_)
  by_cases hG : G12 cs la sr
  rotate_left
  · rw [decide_eq_false hG] at hr
    (refine oCall rfl (.inl rfl) rfl rfl rfl (.fz [] _) rfl ⟨rfl, hr, ?_⟩; (conv => whnf))
    repeat (first | (refine oR ?_; (conv => whnf)) | refine kOps ?_ | refine oH ?_ | refine oNil ?_ | refine sSeq ?_ | refine sR ?_ | refine qSeqN ?_ | refine sT ?_ | (refine sBT ?_; (conv => whnf)))
    (refine oCall rfl (.inl rfl) rfl rfl rfl (.fz [] _) rfl ⟨rfl, c_shown12, ?_⟩; (conv => whnf))
    repeat (first | (refine oR ?_; (conv => whnf)) | refine kOps ?_ | refine oNil ?_ | refine qSeqN ?_ | refine sRet ?_ | refine qSeqR ?_)
    refine qEnd ?_
    conv => whnf
    rfl
  rw [decide_eq_true hG] at hr
  (refine oCall rfl (.inl rfl) rfl rfl rfl (.fz [] _) rfl ⟨rfl, hr, ?_⟩; (conv => whnf))
  repeat (first | (refine oR ?_; (conv => whnf)) | refine kOps ?_ | (refine oG ?_; (conv => whnf)))
  cases hev : rightL T with
  | false =>
    rw [hev] at he
    (refine oCall rfl (.inr ⟨_, _, _, rfl, rfl, rfl⟩) rfl rfl rfl (.fz [] _) rfl ⟨rfl, he, ?_⟩; (conv => whnf))
    repeat (first | (refine oR ?_; (conv => whnf)) | refine kOps ?_ | (refine oG ?_; (conv => whnf)) | refine oH ?_ | refine oNil ?_ | refine sSeq ?_ | refine sR ?_ | refine qSeqN ?_ | refine sT ?_ | (refine sBT ?_; (conv => whnf)) | (refine sBF ?_; (conv => whnf)))
    (refine oCall rfl (.inl rfl) rfl rfl rfl (.fz [] _) rfl ⟨rfl, c_shown12, ?_⟩; (conv => whnf))
    repeat (first | (refine oR ?_; (conv => whnf)) | refine kOps ?_ | refine oNil ?_ | refine qSeqN ?_ | refine sRet ?_ | refine qSeqR ?_)
    refine qEnd ?_
    conv => whnf
    rfl
  | true =>
  rw [hev] at he
  have hT := (rightL_iff T).1 hev
  (refine oCall rfl (.inr ⟨_, _, _, rfl, rfl, rfl⟩) rfl rfl rfl (.fz [] _) rfl ⟨rfl, he, ?_⟩; (conv => whnf))
  repeat (first | (refine oR ?_; (conv => whnf)) | refine kOps ?_ | (refine oG ?_; (conv => whnf)) | (refine sBF ?_; (conv => whnf)))
  refine oS rfl rfl rfl (fun h1 => ?_) (fun h1 => ?_)
  · repeat (first | (refine oR ?_; (conv => whnf)) | refine kOps ?_ | refine oH ?_ | refine oNil ?_ | refine sSeq ?_ | refine sR ?_ | refine qSeqN ?_ | refine sT ?_ | (refine sBT ?_; (conv => whnf)))
    (refine oCall rfl (.inl rfl) rfl rfl rfl (.fz [] _) rfl ⟨rfl, c_shown12, ?_⟩; (conv => whnf))
    repeat (first | (refine oR ?_; (conv => whnf)) | refine kOps ?_ | refine oNil ?_ | refine qSeqN ?_ | refine sRet ?_ | refine qSeqR ?_)
    refine qEnd ?_
    conv => whnf
    rfl
  repeat (first | (refine oR ?_; (conv => whnf)) | refine kOps ?_ | (refine oG ?_; (conv => whnf)) | (refine sBF ?_; (conv => whnf)))
  refine oS rfl rfl rfl (fun h2 => ?_) (fun h2 => ?_)
  · repeat (first | (refine oR ?_; (conv => whnf)) | refine kOps ?_ | refine oH ?_ | refine oNil ?_ | refine sSeq ?_ | refine sR ?_ | refine qSeqN ?_ | refine sT ?_ | (refine sBT ?_; (conv => whnf)))
    (refine oCall rfl (.inl rfl) rfl rfl rfl (.fz [] _) rfl ⟨rfl, c_shown12, ?_⟩; (conv => whnf))
    repeat (first | (refine oR ?_; (conv => whnf)) | refine kOps ?_ | refine oNil ?_ | refine qSeqN ?_ | refine sRet ?_ | refine qSeqR ?_)
    refine qEnd ?_
    conv => whnf
    rfl
  have h50 : l.length ≤ 50 := by
    have := dF h1
    rw [List.length_map] at this
    omega
  have m50 : m.length ≤ 50 := by
    have := dF h2
    rw [List.length_map] at this
    omega
  have hR := hG.rs
  have hU : Un cs := hG.g.un
  have h8 := hT.le
  have hl : l.length ≤ 1099511627776 := by omega
  have hm : m.length ≤ 1099511627776 := by omega
  have hlm : (l ++ m).length ≤ 1099511627776 := by rw [List.length_append]; omega
  have f1 := p_from cs la sr T l hR hU h8 hl
  have f2 := p_from cs la sr T (l ++ m) hR hU h8 hlm
  have u8 : (setL T k v).1.length ≤ 8 := by rw [set_len]; exact h8
  have f3 := p_from cs la sr (setL T k v).1 l hR hU u8 hl
  have f4 := p_rounds cs la sr T l hR hU h8 hl
  have f5 := p_lost cs la sr T l hR hU h8 hl
  have f6 := c_prs T (by omega)
  have f7 := c_eget T k hT
  have f8 := c_eset T k v hT
  have hi : C Tryz.prog 9 [tS cs la sr] (tS cs la sr) := c_its ⟨cs, la, sr⟩ (by have := hR.hl; show cs.length ≤ _; omega)
  have hlv := c_rlive cs la sr hR hU
  have hl24 := liveL_len hR
  have hr24 := fixL_len hR T l
  have ha24 := fixL_len hR T (l ++ m)
  have hb24 := fixL_len hR (setL T k v).1 l
  have hrv : ∀ x, x ∈ fixL cs T l → x ≠ 0 := fun x hx => lv_ne (mem_fixL.1 hx).lives
  have hra : ∀ x, x ∈ fixL cs T l → x ∈ fixL cs T (l ++ m) := fun x hx => fix_more (fun _ h => h) (fun y hy => List.mem_append.2 (.inl hy)) hx
  have hrb : (getL T k).2 ≠ 0 → ∀ x, x ∈ fixL cs T l → x ∈ fixL cs (setL T k v).1 l := fun he x hx => fix_more (set_more hT he) (fun y hy => hy) hx
  have hrd := (rdN_ok cs T l h8).1
  have hlost := fix_lost_len cs T l
  generalize rdN cs T l = N at *
  generalize pairsL T = P at *
  generalize keptL (fixL cs T l) (liveL cs) = lo at *
  generalize fixL cs T l = r at *
  generalize fixL cs T (l ++ m) = a at *
  generalize fixL cs (setL T k v).1 l = b at *
  generalize liveL cs = all at *
  generalize setL T k v = su at *
  obtain ⟨U, o, e2⟩ := su
  generalize getL T k = ge at *
  obtain ⟨v0, e⟩ := ge
  simp only at f3 f7 f8 hrb
  rw [encI, List.map_append] at f2
  have hab : a.length ≤ 1099511627776 := by omega
  have hbb : b.length ≤ 1099511627776 := by omega
  have ta := fun x => c_times a x hab
  have tb := fun x => c_times b x hbb
  skip
  (refine oCall rfl (.inr ⟨_, _, _, rfl, rfl, rfl⟩) rfl rfl rfl (.fz [] _) rfl ⟨rfl, c_shown12, ?_⟩; (conv => whnf))
  repeat (first | (refine oR ?_; (conv => whnf)) | refine kOps ?_ | (refine oG ?_; (conv => whnf)) | refine oNil ?_ | refine sSeq ?_ | refine sR ?_ | refine qSeqN ?_ | refine sSkip ?_ | refine sF ?_ | (refine sBF ?_; (conv => whnf)))
  (refine oCall rfl (.inl rfl) rfl rfl rfl (.fz [] _) rfl ⟨rfl, f1, ?_⟩; (conv => whnf))
  repeat (first | (refine oR ?_; (conv => whnf)) | refine kOps ?_ | refine oNil ?_ | refine sSeq ?_ | refine qSeqN ?_)
  refine sDt [2, 4, 6, 7, 8] ?_
  repeat (first | refine g3skip ?_ | (apply g3run; exact rfl; exact rfl; exact .inl rfl; (conv => whnf); exact .mk rfl) | refine g3nil ?_ | refine kT ?_ | (apply gTrun; exact rfl; exact rfl; exact rfl; (conv => whnf); exact .mk rfl) | (apply gRcons; exact rfl; exact rfl; exact rfl; (conv => whnf); exact .mk rfl) | exact gRnil | (apply gTrun; exact rfl; exact rfl; exact rfl; (conv => whnf)))
  refine ⟨ones1 l, roomI (by simp; omega), ?_⟩
  conv => whnf
  repeat (first | (apply gRcons; exact rfl; exact rfl; exact rfl; (conv => whnf); exact .mk rfl) | exact gRnil | exact KEq.mk rfl | (apply gTrun; exact rfl; exact rfl; exact rfl; (conv => whnf)))
  refine ⟨ones1 m, roomI (by simp; omega), ?_⟩
  conv => whnf
  repeat (first | (apply gRcons; exact rfl; exact rfl; exact rfl; (conv => whnf); exact .mk rfl) | exact gRnil | exact KEq.mk rfl | (apply gTrun; exact rfl; exact rfl; exact rfl; (conv => whnf)))
  (refine ⟨.fz [1] _, rfl, f2, ?_⟩; (conv => whnf); exact .mk rfl)
  repeat (first | (refine oR ?_; (conv => whnf)) | refine kOps ?_ | refine sSeq ?_ | refine sR ?_ | refine qSeqN ?_ | (apply gTrun; exact rfl; exact rfl; exact rfl; (conv => whnf); exact .mk rfl) | exact gRnil | refine gTnil ?_)
  (refine oCall rfl (.inl rfl) rfl rfl rfl (.fz [] _) rfl ⟨rfl, f7, ?_⟩; (conv => whnf))
  repeat (first | (refine oR ?_; (conv => whnf)) | refine kOps ?_ | refine oNil ?_ | refine sSeq ?_ | refine sR ?_ | refine qSeqN ?_)
  (refine oCall rfl (.inl rfl) rfl rfl rfl (.fz [] _) rfl ⟨rfl, f8, ?_⟩; (conv => whnf))
  repeat (first | (refine oR ?_; (conv => whnf)) | refine kOps ?_ | refine oNil ?_ | refine sSeq ?_ | refine sR ?_ | refine qSeqN ?_)
  (refine oCall rfl (.inl rfl) rfl rfl rfl (.fz [] _) rfl ⟨rfl, f3, ?_⟩; (conv => whnf))
  repeat (first | (refine oR ?_; (conv => whnf)) | refine kOps ?_ | refine oNil ?_ | refine sSeq ?_ | refine sR ?_ | refine qSeqN ?_ | refine sBlk ?_)
  refine sLoop (α := Nat) (fun i => i ≤ r.length) (fun i => ⟨tl [(1, encT T), (2, encI l), (6, .ptr 0 0 0), (13, encI r), (14, encI a), (16, eI e), (20, encI b), (21, eI (i : Int))], Ll [(0, .box 26 [encC cs, eI la, eI sr])], 128, 1, [], none⟩) (fun i => r.length - i) 0 .kp (Nat.zero_le _) fun i hii => ?_
  have hrlb : r.length ≤ 1099511627776 := by omega
  have hfin : IntKind.i64.wrap ((r.length : Nat) + (lo.length : Nat)) = ((all.length : Nat) : Int) := by
    rw [wrapI (by omega) (by omega)]
    omega
  repeat (first | (refine oR ?_; (conv => whnf)) | refine kOps ?_ | refine sSeq ?_ | refine sR ?_)
  refine oS rfl rfl rfl (fun h3 => ?_) (fun h3 => ?_)
  · have hlt : i < r.length := by
      have := dT h3
      rw [List.length_map] at this
      omega
    repeat (first | (refine oR ?_; (conv => whnf)) | refine kOps ?_ | (refine oG ?_; (conv => whnf)) | refine oNil ?_ | refine qSeqN ?_ | (refine sBT ?_; (conv => whnf)))
    refine sC rfl (fun h4 => ?_) (fun h4 => ?_)
    · obtain ⟨x, hx⟩ : ∃ x, r[i]? = some x := ⟨_, List.getElem?_eq_getElem hlt⟩
      have hxr := List.mem_of_getElem? hx
      have hx0 := hrv x hxr
      have hxa := (times_iff hx0).2 (hra x hxr)
      repeat (first | (refine oR ?_; (conv => whnf)) | refine kOps ?_ | refine sSeq ?_ | refine sR ?_ | refine qSeqN ?_ | refine sSkip ?_ | refine sBlk ?_)
      refine ⟨i, _, rfl, encI_get hx, ?_⟩
      conv => whnf
      repeat (first | (refine oR ?_; (conv => whnf)) | refine kOps ?_)
      (refine oCall rfl (.inl rfl) rfl rfl rfl (.fz [] _) rfl ⟨rfl, ta x, ?_⟩; (conv => whnf))
      repeat (first | (refine oR ?_; (conv => whnf)) | refine kOps ?_)
      refine oS rfl rfl rfl (fun h5 => ?_) (fun h5 => ?_)
      · exfalso
        have h3 : ((timesL a x : Nat) : Int) = 0 := by simpa using h5
        omega
      repeat (first | refine kOps ?_ | (refine oG ?_; (conv => whnf)))
      refine oS rfl rfl rfl (fun h6 => ?_) (fun h6 => ?_)
      · have he0 : e ≠ 0 := by simpa using h6
        have hxb := (times_iff hx0).2 (hrb he0 x hxr)
        repeat (first | refine kOps ?_ | (refine oG ?_; (conv => whnf)))
        refine ⟨i, _, rfl, encI_get hx, ?_⟩
        conv => whnf
        repeat (first | refine kOps ?_ | (refine oG ?_; (conv => whnf)))
        (refine oCall rfl (.inr ⟨_, _, _, rfl, rfl, rfl⟩) rfl rfl rfl (.fz [] _) rfl ⟨rfl, tb x, ?_⟩; (conv => whnf))
        repeat (first | (refine oR ?_; (conv => whnf)) | refine kOps ?_ | (refine oG ?_; (conv => whnf)) | refine oNil ?_ | refine qSeqN ?_ | (refine sBT ?_; (conv => whnf)) | (refine sBF ?_; (conv => whnf)))
        refine sC rfl (fun h7 => ?_) (fun h7 => ?_)
        · exfalso
          have h3 : ((timesL b x : Nat) : Int) = 0 := by simpa using h7
          omega
        repeat (first | (refine oR ?_; (conv => whnf)) | refine kOps ?_ | refine oNil ?_ | refine sR ?_ | refine qSeqN ?_ | refine sSkip ?_ | refine qBlkN ?_)
        exact qLoopN (i + 1) .kp hlt (by omega)
      · repeat (first | (refine oR ?_; (conv => whnf)) | refine kOps ?_ | (refine oG ?_; (conv => whnf)) | refine oH ?_ | refine oNil ?_ | refine sR ?_ | refine qSeqN ?_ | refine sSkip ?_ | refine sF ?_ | refine qBlkN ?_ | (refine sBF ?_; (conv => whnf)))
        exact qLoopN (i + 1) .kp hlt (by omega)
    · exfalso
      have := dF h4
      omega
  · repeat (first | (refine oR ?_; (conv => whnf)) | refine kOps ?_ | refine oH ?_ | refine oNil ?_ | refine sSeq ?_ | refine qSeqN ?_ | refine sF ?_ | refine sExit ?_ | refine qSeqE ?_ | refine qX ?_ | refine qLoopE ?_ | (refine sBF ?_; (conv => whnf)) | refine sD ?_ | (apply drRun; exact rfl; exact .inl rfl; (conv => whnf); exact .mk rfl) | (apply drRun; exact rfl; exact .inl rfl; (conv => whnf)))
    (refine ⟨.fz [] _, rfl, f4, ?_⟩; (conv => whnf); exact .mk rfl)
    repeat (first | (apply drRun; exact rfl; exact .inl rfl; (conv => whnf); exact .mk rfl) | (apply drRun; exact rfl; exact .inl rfl; (conv => whnf)))
    (refine ⟨.fz [] _, rfl, f6, ?_⟩; (conv => whnf); exact .mk rfl)
    repeat (apply drRun; exact rfl; exact .inl rfl; (conv => whnf); exact .mk rfl)
    refine drS rfl rfl rfl (fun h8 => ?_) (fun h8 => ?_)
    rotate_left
    · exfalso
      have := dF h8
      rw [List.length_map] at this
      omega
    repeat (first | (apply drRun; exact rfl; exact .inr ⟨_, _, _, rfl, rfl, rfl⟩; (conv => whnf); exact .mk rfl) | (apply drRun; exact rfl; exact .inr ⟨_, _, _, rfl, rfl, rfl⟩; (conv => whnf)))
    (refine ⟨.fz [] _, rfl, f5, ?_⟩; (conv => whnf); exact .mk rfl)
    repeat (first | (apply drRun; exact rfl; exact .inr ⟨_, _, _, rfl, rfl, rfl⟩; (conv => whnf); exact .mk rfl) | (apply drRun; exact rfl; exact .inr ⟨_, _, _, rfl, rfl, rfl⟩; (conv => whnf)))
    (refine ⟨.fz [] _, rfl, hi, ?_⟩; (conv => whnf); exact .mk rfl)
    repeat (apply drRun; exact rfl; exact .inr ⟨_, _, _, rfl, rfl, rfl⟩; (conv => whnf))
    (refine ⟨.fz [] _, rfl, hlv, ?_⟩; (conv => whnf); exact .mk rfl)
    repeat (first | refine qSeqN ?_ | refine sRet ?_ | (refine sBT ?_; (conv => whnf)) | exact KPl.mk rfl | (apply drRun; exact rfl; exact .inl rfl; (conv => whnf); exact .mk rfl) | (apply drRun; exact rfl; exact .inr ⟨_, _, _, rfl, rfl, rfl⟩; (conv => whnf); exact .mk rfl) | (apply drRun; exact rfl; exact .inl rfl; (conv => whnf)) | refine drNil ?_)
    refine qEnd ?_
    conv => whnf
    exact congrArg AV.bool (show (IntKind.i64.wrap (((r.map fun n => [eI n]).length : Nat) + ((lo.map fun n => [eI n]).length : Nat)) == (((all.map fun n => [eI n]).length : Nat) : Int)) = true by
      rw [List.length_map, List.length_map, List.length_map, hfin]
      simp)
end Go.Proofs.YtcmciimogcfakaaGreat
