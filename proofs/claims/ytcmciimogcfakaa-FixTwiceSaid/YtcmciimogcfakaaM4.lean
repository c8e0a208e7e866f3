/- Part 4 of the walk that the law rests on: Ty, Sp, Wb, Wd, We, Wa, Sq, Wf, Wg, Wh, Wi, Wj, Pa, Wk, Pb, La, Ea, Pc, Eb, Fa, Fb, Fc, Fd, Fe, Ff, Fg, Fh, Fi, Fj, Fk, Fl, Fm, Fn, Fo. -/
import Derived.Test.YtcmciimogcfakaaM3
import Derived.Test.YtcmciimogcfakaaProg
/- The types that the walks ask for. -/
set_option linter.unusedVariables false
set_option linter.unusedSimpArgs false
namespace Go.Proofs.Ytcmciimogcfakaa
open Go Go.RowKit

def i0 : AV := .int .i64 0
def tInt : TI := ⟨.int .i64, 1, 8, [i0], false⟩
def tBool : TI := ⟨.bool, 1, 1, [.bool false], false⟩
def tU8 : TI := ⟨.int .u8, 1, 1, [.int .u8 0], false⟩
def tSl (e : Nat) : TI := ⟨.slice e, 1, 24, [.nilsl], false⟩
def tPl : TI := ⟨.struct [(0, 1), (1, 1), (2, 1)], 3, 24, [i0, i0, i0], true⟩
def tPr : TI := ⟨.struct [(0, 1), (1, 1)], 2, 16, [i0, i0], true⟩
def tMap (k e : Nat) : TI := ⟨.map k e, 1, 8, [.any], false⟩
def tFn : TI := ⟨.other, 1, 8, [.any], false⟩
def tUint : TI := ⟨.int .u64, 1, 8, [.int .u64 0], false⟩
def tA2 (e : Nat) : TI := ⟨.arr 2 e, 2, 16, [i0, i0], false⟩
def zObj : List AV := [i0, i0, i0, i0, .bool false, .nilsl]
def tObj : TI := ⟨.struct [(0, 1), (1, 1), (2, 1), (3, 1), (4, 1), (5, 1)], 6, 64, zObj, false⟩
def tCell : TI := ⟨.struct [(0, 1), (1, 1), (2, 6)], 8, 80, i0 :: i0 :: zObj, false⟩
def tSlab : TI := ⟨.struct [(0, 1), (1, 1)], 2, 32, [.nilsl, i0], false⟩
def tStore : TI := ⟨.struct [(0, 2), (2, 1)], 3, 40, [.nilsl, i0, i0], false⟩
def tStore6 : TI := ⟨.struct [(0, 1), (1, 1), (2, 1)], 3, 40, [.nilsl, i0, i0], false⟩
def Γ : Nat → Option TI
  | 3 => some tInt
  | 4 => some tBool
  | 5 => some tU8
  | 52 => some tInt
  | 27 => some (tSl 85)
  | 49 => some (tSl 82)
  | 28 => some (tSl 3)

  | 33 => some (tSl 37)
  | 85 => some tPl
  | 82 => some tPl

  | 37 => some tPr

  | 100 => some (tMap 3 4)
  | 63 => some tFn

  | 22 => some (tSl 70)
  | 44 => some (tSl 78)
  | 72 => some (tSl 117)
  | 70 => some tCell
  | 68 => some tObj
  | 24 => some tSlab
  | 26 => some tStore
  | 76 => some tObj
  | 78 => some tCell
  | 46 => some tStore6
  | 117 => some tPl
  | 74 => some tSlab
  | 102 => some tSlab
  | 138 => some tUint
  | 158 => some (tA2 3)
  | 99 => some tFn
  | 119 => some tFn
  | 84 => some tFn
  | 123 => some tFn
  | 108 => some tFn
  | _ => none
theorem ty_plain {t : Nat} {i : TI} (d : TypeDesc) (hu : Try.prog.underlying t = some d) (hk : i.k.ok Try.prog d) (hi : (Try.prog.info? t).map (fun q => (q.size, q.bytes, q.zero.map (fun z => z.cells.toList.map ofV), q.zero.map (fun z => (z.cells.toList.all (·.oneCell'), z.oneCell')))) = some (i.sz, i.by_, some i.z, some (true, !i.k.isAgg))) (hz : i.z.length = i.sz) (he : i.eq = false) : TyF Try.prog t i :=
  ⟨⟨d, hu, hk⟩, hi, hz, fun h => by rw [he] at h; cases h⟩
set_option maxRecDepth 100000 in
theorem ty_struct {t : Nat} {i : TI} (F : Array Field) (fs : List (Nat × Nat)) (hu : Try.prog.underlying t = some (.struct F)) (hik : i.k = .struct fs) (hf : F.toList.map (fun f => (f.offset, (Try.prog.info? f.type).map (·.size))) = fs.map (fun p => (p.1, some p.2))) (h0 : fs.all (fun p => !Nat.beq p.2 0) = true)
    (hi : (Try.prog.info? t).map (fun q => (q.size, q.bytes, q.zero.map (fun z => z.cells.toList.map ofV), q.zero.map (fun z => (z.cells.toList.all (·.oneCell'), z.oneCell')))) = some (i.sz, i.by_, some i.z, some (true, !i.k.isAgg))) (hz : i.z.length = i.sz)
    (h1 : Try.prog.eqGuardType Try.prog.depth t = false) (h2 : Try.prog.stoodInHeld t = false) (h3 : F.size = i.sz) (h4 : (F.toList.zipIdx.all fun p => !(p.1.name == "_") && Nat.beq p.1.offset p.2 && (match Try.prog.underlying p.1.type with | some (.int _) => true | _ => false)) = true) : TyF Try.prog t i :=
  ⟨⟨_, hu, by rw [hik]; exact ⟨F, rfl, hf, h0⟩⟩, hi, hz, fun _ => ⟨h1, h2, F, hu, h3, h4⟩⟩
theorem ty_str {t : Nat} {i : TI} (F : Array Field) (fs : List (Nat × Nat)) (hu : Try.prog.underlying t = some (.struct F)) (hik : i.k = .struct fs) (hf : F.toList.map (fun f => (f.offset, (Try.prog.info? f.type).map (·.size))) = fs.map (fun p => (p.1, some p.2))) (h0 : fs.all (fun p => !Nat.beq p.2 0) = true)
    (hi : (Try.prog.info? t).map (fun q => (q.size, q.bytes, q.zero.map (fun z => z.cells.toList.map ofV), q.zero.map (fun z => (z.cells.toList.all (·.oneCell'), z.oneCell')))) = some (i.sz, i.by_, some i.z, some (true, !i.k.isAgg))) (hz : i.z.length = i.sz) (he : i.eq = false) : TyF Try.prog t i :=
  ⟨⟨_, hu, by rw [hik]; exact ⟨F, rfl, hf, h0⟩⟩, hi, hz, fun h => by rw [he] at h; cases h⟩
theorem tyOk : TyOk Try.prog Γ := by
  intro t i h
  unfold Γ at h
  split at h <;> first | (cases h; done) | (simp only [Option.some.injEq] at h; subst h)
  · exact ty_plain _ Try.underlying3 rfl (by kernel_rfl) rfl rfl
  · exact ty_plain _ Try.underlying4 rfl (by kernel_rfl) rfl rfl
  · exact ty_plain _ Try.underlying5 rfl (by kernel_rfl) rfl rfl
  · exact ty_plain _ Try.underlying52 rfl (by kernel_rfl) rfl rfl
  · exact ty_plain _ Try.underlying27 rfl (by kernel_rfl) rfl rfl
  · exact ty_plain _ Try.underlying49 rfl (by kernel_rfl) rfl rfl
  · exact ty_plain _ Try.underlying28 rfl (by kernel_rfl) rfl rfl

  · exact ty_plain _ Try.underlying33 rfl (by kernel_rfl) rfl rfl
  · exact ty_struct _ _ Try.underlying85 rfl (by kernel_rfl) rfl (by kernel_rfl) rfl Try.eqGuardType85 Try.stoodInHeld85 rfl (by kernel_rfl)
  · exact ty_struct _ _ Try.underlying82 rfl (by kernel_rfl) rfl (by kernel_rfl) rfl Try.eqGuardType82 Try.stoodInHeld82 rfl (by kernel_rfl)

  · exact ty_struct _ _ Try.underlying37 rfl (by kernel_rfl) rfl (by kernel_rfl) rfl Try.eqGuardType37 Try.stoodInHeld37 rfl (by kernel_rfl)

  · exact ty_plain _ Try.underlying100 rfl (by kernel_rfl) rfl rfl
  · exact ty_plain _ Try.underlying63 rfl (by kernel_rfl) rfl rfl

  · exact ty_plain _ Try.underlying22 rfl (by kernel_rfl) rfl rfl
  · exact ty_plain _ Try.underlying44 rfl (by kernel_rfl) rfl rfl
  · exact ty_plain _ Try.underlying72 rfl (by kernel_rfl) rfl rfl
  · exact ty_str _ _ Try.underlying70 rfl (by kernel_rfl) rfl (by kernel_rfl) rfl rfl
  · exact ty_str _ _ Try.underlying68 rfl (by kernel_rfl) rfl (by kernel_rfl) rfl rfl
  · exact ty_str _ _ Try.underlying24 rfl (by kernel_rfl) rfl (by kernel_rfl) rfl rfl
  · exact ty_str _ _ Try.underlying26 rfl (by kernel_rfl) rfl (by kernel_rfl) rfl rfl
  · exact ty_str _ _ Try.underlying76 rfl (by kernel_rfl) rfl (by kernel_rfl) rfl rfl
  · exact ty_str _ _ Try.underlying78 rfl (by kernel_rfl) rfl (by kernel_rfl) rfl rfl
  · exact ty_str _ _ Try.underlying46 rfl (by kernel_rfl) rfl (by kernel_rfl) rfl rfl
  · exact ty_struct _ _ Try.underlying117 rfl (by kernel_rfl) rfl (by kernel_rfl) rfl Try.eqGuardType117 Try.stoodInHeld117 rfl (by kernel_rfl)
  · exact ty_str _ _ Try.underlying74 rfl (by kernel_rfl) rfl (by kernel_rfl) rfl rfl
  · exact ty_str _ _ Try.underlying102 rfl (by kernel_rfl) rfl (by kernel_rfl) rfl rfl
  · exact ty_plain _ Try.underlying138 rfl (by kernel_rfl) rfl rfl
  · exact ty_plain _ Try.underlying158 rfl (by kernel_rfl) rfl rfl
  · exact ty_plain _ Try.underlying99 rfl (by kernel_rfl) rfl rfl
  · exact ty_plain _ Try.underlying119 rfl (by kernel_rfl) rfl rfl
  · exact ty_plain _ Try.underlying84 rfl (by kernel_rfl) rfl rfl
  · exact ty_plain _ Try.underlying123 rfl (by kernel_rfl) rfl rfl
  · exact ty_plain _ Try.underlying108 rfl (by kernel_rfl) rfl rfl
theorem mixed : Try.prog.follows .mixedOrders = true := by kernel_rfl
end Go.Proofs.Ytcmciimogcfakaa

/- What the functions compute, in plain Lean. -/
set_option linter.unusedVariables false
set_option linter.unusedSimpArgs false
namespace Go.Proofs.Ytcmciimogcfakaa
open Go Go.RowKit

abbrev W (n : Int) : Int := IntKind.i64.wrap n
theorem dT {p : Prop} [Decidable p] (h : decide p = true) : p := of_decide_eq_true h
theorem dF {p : Prop} [Decidable p] (h : decide p = false) : ¬ p := of_decide_eq_false h

/-- A place of a table. -/
structure Pl where
  st : Int
  ky : Int
  vl : Int
  deriving DecidableEq
def Pl.enc (p : Pl) : List AV := [.int .i64 p.st, .int .i64 p.ky, .int .i64 p.vl]
abbrev encT (T : List Pl) : AV := .sl (T.map Pl.enc)
abbrev encI (l : List Int) : AV := .sl (l.map fun n => [.int .i64 n])
theorem enc_get {T : List Pl} {i : Nat} {p : Pl} (h : T[i]? = some p) : (T.map Pl.enc)[i]? = some p.enc := by rw [List.getElem?_map, h]; rfl

def homeW (n k : Int) : Int := if n ≤ 0 then 0 else if (W (W (5 * k) + 1)).tmod n < 0 then W ((W (W (5 * k) + 1)).tmod n + n) else (W (W (5 * k) + 1)).tmod n
def findGo (k : Int) : List Pl → Nat → Int
  | [], _ => -1
  | p :: l, i => if p.st = 1 ∧ p.ky = k then (i : Int) else findGo k l (i + 1)
def findL (T : List Pl) (k : Int) : Int := findGo k T 0
def keysL (T : List Pl) : List Int := (T.filter fun p => p.st == 1).map (·.ky)
end Go.Proofs.Ytcmciimogcfakaa

/- Walks: homes, clones. -/
set_option linter.unusedVariables false
set_option linter.unusedSimpArgs false
namespace Go.Proofs.Ytcmciimogcfakaa
open Go Go.RowKit

theorem c_home1 (n k : Int) : C Try.prog 80 [.int .i64 n, .int .i64 k] (.int .i64 (homeW n k)) := by
  refine fnOk mixed tyOk Try.func80 (code := Try.f80.body.getD .skip) rfl rfl rfl (gC_in ?_)
  repeat (first | (refine oR ?_; (conv => whnf)) | refine kOps ?_ | refine oNil ?_ | refine sSeq ?_ | refine sR ?_ | refine qSeqN ?_)
  refine sC rfl (fun h1 => ?_) (fun h1 => ?_)
  · have e : homeW n k = 0 := by simp [homeW, dT h1]
    rw [e]
    repeat (first | (refine oR ?_; (conv => whnf)) | refine kOps ?_ | refine oNil ?_ | refine sSeq ?_ | refine sR ?_ | refine qSeqN ?_ | refine sRet ?_ | refine qSeqR ?_)
    refine qEnd ?_
    conv => whnf
    rfl
  · have h1' := dF h1
    repeat (first | (refine oR ?_; (conv => whnf)) | refine kOps ?_ | refine sSeq ?_ | refine sR ?_ | refine qSeqN ?_ | refine sSkip ?_)
    refine ⟨by omega, ?_⟩
    repeat (first | (refine oR ?_; (conv => whnf)) | refine kOps ?_ | refine oNil ?_ | refine sSeq ?_ | refine sR ?_ | refine qSeqN ?_)
    refine sC rfl (fun h2 => ?_) (fun h2 => ?_)
    · have e : homeW n k = W ((W (W (5 * k) + 1)).tmod n + n) := by rw [homeW, if_neg h1', if_pos (dT h2)]
      rw [e]
      repeat (first | (refine oR ?_; (conv => whnf)) | refine kOps ?_ | refine oNil ?_ | refine sSeq ?_ | refine sR ?_ | refine qSeqN ?_ | refine sRet ?_)
      refine qEnd ?_
      conv => whnf
      rfl
    · have e : homeW n k = (W (W (5 * k) + 1)).tmod n := by rw [homeW, if_neg h1', if_neg (dF h2)]
      rw [e]
      repeat (first | (refine oR ?_; (conv => whnf)) | refine kOps ?_ | refine oNil ?_ | refine sSeq ?_ | refine sR ?_ | refine qSeqN ?_ | refine sSkip ?_ | refine sRet ?_)
      refine qEnd ?_
      conv => whnf
      rfl
theorem c_home2 (n k : Int) : C Try.prog 37 [.int .i64 n, .int .i64 k] (.int .i64 (homeW n k)) := by
  refine fnOk mixed tyOk Try.func37 (code := Try.f37.body.getD .skip) rfl rfl rfl (gC_in ?_)
  repeat (first | (refine oR ?_; (conv => whnf)) | refine kOps ?_ | refine oNil ?_ | refine sSeq ?_ | refine sR ?_ | refine qSeqN ?_)
  refine sC rfl (fun h1 => ?_) (fun h1 => ?_)
  · have e : homeW n k = 0 := by have := dT h1; simp [homeW, show n ≤ 0 by omega]
    rw [e]
    repeat (first | (refine oR ?_; (conv => whnf)) | refine kOps ?_ | refine oNil ?_ | refine sSeq ?_ | refine sR ?_ | refine qSeqN ?_ | refine sRet ?_ | refine qSeqR ?_)
    refine qEnd ?_
    conv => whnf
    rfl
  · have h1' : ¬ n ≤ 0 := by have := dF h1; omega
    repeat (first | (refine oR ?_; (conv => whnf)) | refine kOps ?_ | refine sSeq ?_ | refine sR ?_ | refine qSeqN ?_ | refine sSkip ?_)
    refine ⟨by omega, ?_⟩
    repeat (first | (refine oR ?_; (conv => whnf)) | refine kOps ?_ | refine oNil ?_ | refine sSeq ?_ | refine sR ?_ | refine qSeqN ?_)
    refine sC rfl (fun h2 => ?_) (fun h2 => ?_)
    · have e : homeW n k = W ((W (W (5 * k) + 1)).tmod n + n) := by rw [homeW, if_neg h1', if_pos (dT h2)]
      rw [e]
      repeat (first | (refine oR ?_; (conv => whnf)) | refine kOps ?_ | refine oNil ?_ | refine sSeq ?_ | refine sR ?_ | refine qSeqN ?_ | refine sRet ?_)
      refine qEnd ?_
      conv => whnf
      rfl
    · have e : homeW n k = (W (W (5 * k) + 1)).tmod n := by rw [homeW, if_neg h1', if_neg (dF h2)]
      rw [e]
      repeat (first | (refine oR ?_; (conv => whnf)) | refine kOps ?_ | refine oNil ?_ | refine sSeq ?_ | refine sR ?_ | refine qSeqN ?_ | refine sSkip ?_ | refine sRet ?_)
      refine qEnd ?_
      conv => whnf
      rfl
theorem ones3 (T : List Pl) : ∀ y ∈ T.map Pl.enc, y.length = 3 ∧ y.all oneC = true := fun y hy => by
  obtain ⟨p, _, rfl⟩ := List.mem_map.1 hy
  exact ⟨rfl, rfl⟩
theorem c_clone (T : List Pl) (hT : T.length ≤ 1099511627776) : C Try.prog 78 [encT T] (encT T) := by
  refine fnOk mixed tyOk Try.func78 (code := Try.f78.body.getD .skip) rfl rfl rfl (gC_in ?_)
  repeat (first | (refine oR ?_; (conv => whnf)) | refine kOps ?_ | refine oNil ?_ | refine sSeq ?_ | refine sR ?_ | refine qSeqN ?_)
  intro b hb
  repeat (first | refine kOps ?_ | refine oNil ?_ | refine qSeqN ?_)
  refine sC rfl (fun h1 => ?_) (fun h1 => ?_)
  · have e : T = [] := by
      cases T with
      | nil => rfl
      | cons p T => exact absurd (hb (by simp)) (by simp [h1])
    rw [e]
    repeat (first | (refine oR ?_; (conv => whnf)) | refine kOps ?_ | refine oNil ?_ | refine sSeq ?_ | refine sR ?_ | refine qSeqN ?_ | refine sRet ?_ | refine qSeqR ?_)
    refine qEnd ?_
    conv => whnf
    rfl
  · repeat (first | (refine oR ?_; (conv => whnf)) | refine kOps ?_ | refine sSeq ?_ | refine sR ?_ | refine qSeqN ?_ | refine sSkip ?_)
    refine ⟨ones3 T, ⟨by decide, by show (0 + (T.map Pl.enc).length) * 24 ≤ _; rw [List.length_map]; omega⟩, ?_⟩
    repeat (first | (refine oR ?_; (conv => whnf)) | refine kOps ?_ | refine oNil ?_ | refine qSeqN ?_ | refine sRet ?_)
    refine qEnd ?_
    conv => whnf
    rfl
theorem c_cloneR (T : List Pl) (hT : T.length ≤ 1099511627776) : CR Try.prog 78 [encT T] 85 3 (T.map Pl.enc) := by
  refine fnOkR mixed tyOk Try.func78 (code := Try.f78.body.getD .skip) rfl rfl rfl (gC_in ?_)
  repeat (first | (refine oR ?_; (conv => whnf)) | refine kOps ?_ | refine oNil ?_ | refine sSeq ?_ | refine sR ?_ | refine qSeqN ?_)
  intro b hb
  repeat (first | refine kOps ?_ | refine oNil ?_ | refine qSeqN ?_)
  refine sC rfl (fun h1 => ?_) (fun h1 => ?_)
  · have e : T = [] := by
      cases T with
      | nil => rfl
      | cons p T => exact absurd (hb (by simp)) (by simp [h1])
    rw [e]
    repeat (first | (refine oR ?_; (conv => whnf)) | refine kOps ?_ | refine oNil ?_ | refine sSeq ?_ | refine sR ?_ | refine qSeqN ?_ | refine sRet ?_ | refine qSeqR ?_)
    refine qEndR ⟨_, .adopt 2 0 85 3 rfl rfl (by decide), ?_⟩
    conv => whnf
    exact ⟨0, rfl, rfl⟩
  · repeat (first | (refine oR ?_; (conv => whnf)) | refine kOps ?_ | refine sSeq ?_ | refine sR ?_ | refine qSeqN ?_ | refine sSkip ?_)
    refine ⟨ones3 T, ⟨by decide, by show (0 + (T.map Pl.enc).length) * 24 ≤ _; rw [List.length_map]; omega⟩, ?_⟩
    repeat (first | (refine oR ?_; (conv => whnf)) | refine kOps ?_ | refine oNil ?_ | refine qSeqN ?_ | refine sRet ?_)
    refine qEndR ⟨_, .refl _, ?_⟩
    conv => whnf
    exact ⟨_, rfl, rfl⟩
theorem c_turned (T : List Pl) (i : Nat) (p : Pl) (hi : i < T.length) (hT : T.length ≤ 1099511627776) : C Try.prog 64 [encT T, .int .i64 (i : Int), .agg p.enc] (encT (T.set i p)) := by
  have hx : T[i]? = some T[i] := List.getElem?_eq_getElem hi
  refine fnOk mixed tyOk Try.func64 (code := Try.f64.body.getD .skip) rfl rfl rfl (gC_in ?_)
  repeat (first | (refine oR ?_; (conv => whnf)) | refine kOps ?_ | refine oNil ?_ | refine sSeq ?_ | refine sR ?_ | refine qSeqN ?_)
  refine oCall rfl (.inl rfl) rfl rfl rfl (.nw [] 85 3 (T.map Pl.enc)) rfl ⟨⟨rfl, rfl⟩, c_cloneR T hT, ?_⟩
  repeat (first | (refine oR ?_; (conv => whnf)) | refine kOps ?_ | refine oNil ?_ | refine sSeq ?_ | refine sR ?_ | refine qSeqN ?_)
  refine ⟨i, rfl, by simpa using hi, ?_⟩
  repeat (first | (refine oR ?_; (conv => whnf)) | refine kOps ?_)
  refine ⟨_, enc_get hx, ?_⟩
  conv => whnf
  repeat (first | (refine oR ?_; (conv => whnf)) | refine kOps ?_ | refine oNil ?_ | refine sSeq ?_ | refine sR ?_ | refine qSeqN ?_ | refine sRet ?_)
  refine qEnd ?_
  conv => whnf
  exact congrArg AV.sl (List.map_set (f := Pl.enc) (l := T) (i := i) (a := p)).symm
end Go.Proofs.Ytcmciimogcfakaa

/- Walks: the road. -/
set_option linter.unusedVariables false
set_option linter.unusedSimpArgs false
namespace Go.Proofs.Ytcmciimogcfakaa
open Go Go.RowKit

theorem c_road (T : List Pl) (k : Int) : C Try.prog 65 [encT T, .int .i64 k] (.fn 79 [.vptr [encT T], .vptr [.int .i64 k]]) := by
  refine fnOk mixed tyOk Try.func65 (code := Try.f65.body.getD .skip) rfl rfl rfl (gC_in ?_)
  repeat (first | (refine oR ?_; (conv => whnf)) | refine kOps ?_ | refine oNil ?_ | refine sSeq ?_ | refine sR ?_ | refine qSeqN ?_ | refine sRet ?_)
  refine qEnd ?_
  conv => whnf
  rfl
theorem qIt {m : Nat} {s : St} (h : s.y = some m ∨ s.y = none) : gQ (itPost m) .ret s := ⟨h⟩
theorem qItN {m : Nat} {s : St} (h : s.y = some m ∨ s.y = none) : gQ (itPost m) .normal s := ⟨h⟩
def homeN (n : Nat) (k : Int) : Nat := (homeW n k).toNat
theorem home_lt {n : Nat} (hn : 0 < n) (hm : n ≤ 1099511627776) (k : Int) : homeW n k = (homeN n k : Int) ∧ homeN n k < n := by
  have hb : ∀ z : Int, -(n : Int) < z.tmod n ∧ z.tmod n < n := fun z => ⟨Int.lt_tmod_of_pos z (by omega), Int.tmod_lt_of_pos z (by omega)⟩
  have key : 0 ≤ homeW n k ∧ homeW n k < n := by
    unfold homeW
    rw [if_neg (by omega)]
    have h1 := hb (W (W (5 * k) + 1))
    split
    · rw [show W ((W (W (5 * k) + 1)).tmod n + n) = (W (W (5 * k) + 1)).tmod n + n from wrapI (by omega) (by omega)]
      omega
    · omega
  unfold homeN
  omega
def roadIx (T : List Pl) (k : Int) (s : Nat) : Nat := (homeN T.length k + s) % T.length
def roadP (T : List Pl) (k : Int) : List (Nat × Pl) := (List.range T.length).map fun s => (roadIx T k s, T[roadIx T k s]?.getD ⟨0, 0, 0⟩)
def encR (q : Nat × Pl) : List AV := [.int .i64 (q.1 : Int), .agg q.2.enc]
def roadL (T : List Pl) (k : Int) : List (List AV) := (roadP T k).map encR
theorem drop_of {α : Type} {l : List α} {i : Nat} {x : α} (h : l[i]? = some x) : l.drop i = x :: l.drop (i + 1) := by
  obtain ⟨h1, h2⟩ := List.getElem?_eq_some_iff.1 h
  rw [List.drop_eq_getElem_cons h1, h2]
theorem it_road (T : List Pl) (k : Int) (hT : T.length ≤ 1099511627776) : IT Try.prog 79 [.vptr [encT T], .vptr [.int .i64 k]] (roadL T k) := by
  refine itOk mixed tyOk Try.func79 (code := Try.f79.body.getD .skip) rfl rfl rfl rfl (gC_in ?_)
  repeat (first | (refine oR ?_; (conv => whnf)) | refine kOps ?_ | refine oNil ?_ | refine sSeq ?_ | refine sR ?_ | refine qSeqN ?_)
  refine oCall rfl (.inl rfl) rfl rfl rfl (.fz [] (.int .i64 (homeW (T.map Pl.enc).length k))) rfl ⟨rfl, c_home1 _ _, ?_⟩
  conv => whnf
  repeat (first | (refine oR ?_; (conv => whnf)) | refine kOps ?_ | refine oNil ?_ | refine sSeq ?_ | refine sR ?_ | refine qSeqN ?_ | refine sBlk ?_)
  have hlen : (T.map Pl.enc).length = T.length := List.length_map _
  refine sLoop (fun st => st ≤ T.length) (fun st => ⟨tl [(0, .yld), (1, .vptr [encT T]), (4, .int .i64 (T.length : Int)), (5, .int .i64 (homeW T.length k)), (13, .int .i64 (T.length : Int)), (14, .int .i64 (st : Int))], Ll [], 31, 0, [], some st⟩) (fun st => T.length - st) 0
    (.keep [(0, .yld), (1, .vptr [encT T]), (4, .int .i64 (T.length : Int)), (5, .int .i64 (homeW T.length k)), (13, .int .i64 (T.length : Int)), (14, .int .i64 ((0 : Nat) : Int))] [] [] 0 trivial
      ⟨rfl, rfl, congrArg (fun n : Nat => AV.int .i64 (n : Int)) hlen, congrArg (fun n : Nat => AV.int .i64 (homeW n k)) hlen, congrArg (fun n : Nat => AV.int .i64 (n : Int)) hlen, rfl, trivial⟩ rfl rfl) (Nat.zero_le _) fun st hst => ?_
  repeat (first | (refine oR ?_; (conv => whnf)) | refine kOps ?_ | refine oNil ?_ | refine sSeq ?_ | refine sR ?_ | refine qSeqN ?_)
  refine sC rfl (fun h1 => ?_) (fun h1 => ?_)
  · have hlt : st < T.length := by have := dT h1; omega
    obtain ⟨hh, hhl⟩ := home_lt (n := T.length) (by omega) hT k
    have e1 : W (homeW T.length k + (st : Int)) = homeW T.length k + st := wrapI (by omega) (by omega)
    have e2 : (W (homeW T.length k + (st : Int))).tmod T.length = (roadIx T k st : Int) := by
      rw [e1, hh]
      unfold roadIx
      rw [← Int.natCast_add, Int.ofNat_tmod]
    have hix : roadIx T k st < T.length := Nat.mod_lt _ (by omega)
    have hx : T[roadIx T k st]? = some T[roadIx T k st] := List.getElem?_eq_getElem hix
    repeat (first | (refine oR ?_; (conv => whnf)) | refine kOps ?_ | refine oNil ?_ | refine sSeq ?_ | refine sR ?_ | refine qSeqN ?_ | refine sSkip ?_ | refine sBlk ?_)
    refine ⟨by omega, ?_⟩
    repeat (first | (refine oR ?_; (conv => whnf)) | refine kOps ?_ | refine oNil ?_ | refine sSeq ?_ | refine sR ?_ | refine qSeqN ?_)
    refine ⟨_, _, e2, enc_get hx, ?_⟩
    conv => whnf
    repeat (first | (refine oR ?_; (conv => whnf)) | refine kOps ?_)
    have hitem : (roadL T k)[st]? = some [.int .i64 (roadIx T k st : Int), .agg (T[roadIx T k st]).enc] := by
      simp [roadL, roadP, encR, hlt, hx]
    refine oYield rfl (.inl rfl) rfl rfl rfl («as» := [.int .i64 (roadIx T k st : Int), .agg (T[roadIx T k st]).enc]) (congrArg (fun z => [AV.int .i64 z, AV.agg (T[roadIx T k st]).enc]) e2) ?_
    refine ⟨st, _, rfl, hitem, rfl, rfl, kY ?_, kY ?_⟩
    · repeat (first | (refine oR ?_; (conv => whnf)) | refine kOps ?_ | refine oNil ?_ | refine sR ?_ | refine qSeqN ?_ | refine sSkip ?_ | refine sF ?_ | refine qBlkN ?_)
      exact qLoopN (st + 1) (.keep [(0, .yld), (1, .vptr [encT T]), (4, .int .i64 (T.length : Int)), (5, .int .i64 (homeW T.length k)), (13, .int .i64 (T.length : Int)), (14, .int .i64 ((st + 1 : Nat) : Int))] [] [] 0 trivial
        ⟨rfl, rfl, rfl, rfl, rfl, congrArg (AV.int .i64) (wrapS hlt hT), trivial⟩ rfl rfl) (show st + 1 ≤ T.length by omega) (show T.length - (st + 1) < T.length - st by omega)
    · repeat (first | (refine oR ?_; (conv => whnf)) | refine kOps ?_ | refine oNil ?_ | refine qSeqN ?_ | refine sT ?_ | refine sRet ?_ | refine qSeqR ?_ | refine qBlkR ?_ | refine qLoopR ?_)
      exact qIt (.inr rfl)
  · have : st = T.length := by have := dF h1; omega
    subst this
    repeat (first | refine sExit ?_ | refine qSeqE ?_ | refine qX ?_ | refine qLoopE ?_)
    refine qItN (.inl ?_)
    show some T.length = some (roadL T k).length
    simp [roadL, roadP]
end Go.Proofs.Ytcmciimogcfakaa

/- Walks: Find, Get. -/
set_option linter.unusedVariables false
set_option linter.unusedSimpArgs false
namespace Go.Proofs.Ytcmciimogcfakaa
open Go Go.RowKit

/-- Find by the road. -/
def hGo (k : Int) : List (Nat × Pl) → Int
  | [] => -1
  | q :: l => if q.2.st = 0 then -1 else if q.2.st = 1 ∧ q.2.ky = k then (q.1 : Int) else hGo k l
def hFind (T : List Pl) (k : Int) : Int := hGo k (roadP T k)
theorem c_hfind (T : List Pl) (k : Int) (hT : T.length ≤ 1099511627776) : C Try.prog 63 [encT T, .int .i64 k] (.int .i64 (hFind T k)) := by
  refine fnOk mixed tyOk Try.func63 (code := Try.f63.body.getD .skip) rfl rfl rfl (gC_in ?_)
  repeat (first | (refine oR ?_; (conv => whnf)) | refine kOps ?_ | refine oNil ?_ | refine sSeq ?_ | refine sR ?_ | refine qSeqN ?_)
  refine oCall rfl (.inl rfl) rfl rfl rfl (.fz [] (.fn 79 [.vptr [encT T], .vptr [.int .i64 k]])) rfl ⟨rfl, c_road T k, ?_⟩
  conv => whnf
  repeat (first | refine kOps ?_ | refine oNil ?_ | refine qSeqN ?_ | refine sBlk ?_)
  refine forIn rfl rfl (it_road T k hT) (fun _ => ⟨tl [(3, .ptr 0 0 0), (4, .ptr 1 0 0)], Ll [(0, .box 3 [.int .i64 k]), (1, .box 3 [i0])], 24, 2, [], none⟩) (fun i => hGo k ((roadP T k).drop i) = hFind T k)
    (.keep [(3, .ptr 0 0 0), (4, .ptr 1 0 0)] [(0, .box 3 [.int .i64 k]), (1, .box 3 [i0])] [] 2 ⟨rfl, rfl, trivial⟩ ⟨rfl, rfl, trivial⟩ rfl rfl) rfl (fun i z hi hz => ?_) (fun hn => ?_)
  · obtain ⟨⟨ix, p⟩, hq, rfl⟩ := get_map hz
    rw [drop_of hq, hGo] at hi
    refine ⟨rfl, rfl, ?_⟩
    repeat (first | (refine oR ?_; (conv => whnf)) | refine kOps ?_ | refine oNil ?_ | refine sSeq ?_ | refine sR ?_ | refine qSeqN ?_)
    refine qAs ?_
    repeat (first | (refine oR ?_; (conv => whnf)) | refine kOps ?_ | refine oNil ?_ | refine sSeq ?_ | refine sR ?_ | refine qSeqN ?_ | refine sBlk ?_)
    refine sC rfl (fun h1 => ?_) (fun h1 => ?_)
    · have h1 : p.st = 0 := by simpa using h1
      have e : hFind T k = -1 := by rw [← hi, if_pos h1]
      rw [e]
      repeat (first | (refine oR ?_; (conv => whnf)) | refine kOps ?_ | refine oNil ?_ | refine sSeq ?_ | refine sR ?_ | refine qSeqN ?_ | refine sRet ?_ | refine qSeqR ?_ | refine qBlkR ?_ | refine qRndR ?_)
      refine qEnd ?_
      conv => whnf
      rfl
    · have h1 : ¬ p.st = 0 := by simpa using h1
      rw [if_neg h1] at hi
      repeat (first | (refine oR ?_; (conv => whnf)) | refine kOps ?_ | refine oNil ?_ | refine sSeq ?_ | refine sR ?_ | refine qSeqN ?_)
      refine sC rfl (fun h2 => ?_) (fun h2 => ?_)
      · have h2 : p.st = 1 ∧ p.ky = k := by simpa [and_comm] using h2
        have e : hFind T k = (ix : Int) := by rw [← hi, if_pos h2]
        rw [e]
        repeat (first | (refine oR ?_; (conv => whnf)) | refine kOps ?_ | refine oNil ?_ | refine sSeq ?_ | refine sR ?_ | refine qSeqN ?_ | refine sRet ?_ | refine qSeqR ?_ | refine qBlkR ?_ | refine qRndR ?_)
        refine qEnd ?_
        conv => whnf
        rfl
      · have h2 : ¬ (p.st = 1 ∧ p.ky = k) := fun h => by simp [h.1, h.2] at h2
        rw [if_neg h2] at hi
        repeat (first | refine sSkip ?_ | refine qBlkN ?_)
        refine qRndN (.keep [(3, .ptr 0 0 0), (4, .ptr 1 0 0)] [(0, .box 3 [.int .i64 k]), (1, .box 3 [i0])] [] 2 ⟨rfl, rfl, trivial⟩ ⟨rfl, rfl, trivial⟩ rfl rfl) hi
  · have e : hFind T k = -1 := by
      rw [← hn, List.drop_eq_nil_of_le (by simp [roadL])]; rfl
    rw [e]
    repeat (first | (refine oR ?_; (conv => whnf)) | refine kOps ?_ | refine oNil ?_ | refine sSeq ?_ | refine sR ?_ | refine qSeqN ?_ | refine sRet ?_ | refine qBlkN ?_)
    refine qEnd ?_
    conv => whnf
    rfl
end Go.Proofs.Ytcmciimogcfakaa

/- Walks. -/
set_option linter.unusedVariables false
set_option linter.unusedSimpArgs false
namespace Go.Proofs.Ytcmciimogcfakaa
open Go Go.RowKit

theorem c_find (T : List Pl) (k : Int) (hT : T.length ≤ 1099511627776) : C Try.prog 36 [encT T, .int .i64 k] (.int .i64 (findL T k)) := by
  refine fnOk mixed tyOk Try.func36 (code := Try.f36.body.getD .skip) rfl rfl rfl (gC_in ?_)
  repeat (first | (refine oR ?_; (conv => whnf)) | refine kOps ?_ | refine oNil ?_ | refine sSeq ?_ | refine sR ?_ | refine qSeqN ?_ | refine sBlk ?_)
  refine sLoop (fun i => i ≤ T.length ∧ findGo k (T.drop i) i = findL T k) (fun i => ⟨tl [(0, encT T), (1, .int .i64 k), (5, .int .i64 (i : Int))], Ll [], 28, 0, [], none⟩) (fun i => T.length - i) 0
    (.keep [(0, encT T), (1, .int .i64 k), (5, .int .i64 ((0 : Nat) : Int))] [] [] 0 trivial ⟨rfl, rfl, rfl, trivial⟩ rfl rfl) ⟨Nat.zero_le _, rfl⟩ fun i hi => ?_
  obtain ⟨hi, hgo⟩ := hi
  repeat (first | (refine oR ?_; (conv => whnf)) | refine kOps ?_ | refine oNil ?_ | refine sSeq ?_ | refine sR ?_ | refine qSeqN ?_)
  refine sC rfl (fun h1 => ?_) (fun h1 => ?_)
  · have hlt : i < T.length := by have := dT h1; simp at this; omega
    have hx : T[i]? = some T[i] := List.getElem?_eq_getElem hlt
    rw [List.drop_eq_getElem_cons hlt, findGo] at hgo
    generalize T[i] = p at hx hgo
    have hnext : ¬ (p.st = 1 ∧ p.ky = k) → findGo k (T.drop (i + 1)) (i + 1) = findL T k := fun h => by rw [← hgo, if_neg h]
    have hthis : p.st = 1 ∧ p.ky = k → findL T k = (i : Int) := fun h => by rw [← hgo, if_pos h]
    repeat (first | (refine oR ?_; (conv => whnf)) | refine kOps ?_ | refine sSeq ?_ | refine sR ?_ | refine qSeqN ?_ | refine sSkip ?_ | refine sBlk ?_)
    refine ⟨i, _, rfl, enc_get hx, ?_⟩
    conv => whnf
    repeat (first | (refine oR ?_; (conv => whnf)) | refine kOps ?_)
    refine oS rfl rfl rfl (fun h2 => ?_) (fun h2 => ?_)
    · have h2 : p.st = 1 := by simpa using h2
      repeat (first | refine kOps ?_ | (refine oG ?_; (conv => whnf)))
      refine ⟨i, _, rfl, enc_get hx, ?_⟩
      conv => whnf
      repeat (first | (refine oR ?_; (conv => whnf)) | refine kOps ?_ | (refine oG ?_; (conv => whnf)) | refine oNil ?_ | refine qSeqN ?_ | (refine sBT ?_; (conv => whnf)))
      refine sC rfl (fun h3 => ?_) (fun h3 => ?_)
      · have h3 : p.ky = k := by simpa using h3
        repeat (first | (refine oR ?_; (conv => whnf)) | refine kOps ?_ | refine oNil ?_ | refine sSeq ?_ | refine sR ?_ | refine qSeqN ?_ | refine sRet ?_ | refine qSeqR ?_ | refine qBlkR ?_ | refine qLoopR ?_)
        rw [hthis ⟨h2, h3⟩]
        refine qEnd ?_
        conv => whnf
        rfl
      · have h3 : ¬ p.ky = k := by simpa using h3
        repeat (first | (refine oR ?_; (conv => whnf)) | refine kOps ?_ | refine oNil ?_ | refine sR ?_ | refine qSeqN ?_ | refine sSkip ?_ | refine qBlkN ?_)
        exact qLoopN (i + 1) (.keep [(0, encT T), (1, .int .i64 k), (5, .int .i64 ((i + 1 : Nat) : Int))] [] [] 0 trivial ⟨rfl, rfl, congrArg (AV.int .i64) (wrapS hlt hT), trivial⟩ rfl rfl) ⟨by omega, hnext fun h => h3 h.2⟩ (by omega)
    · have h2 : ¬ p.st = 1 := by simpa using h2
      repeat (first | (refine oR ?_; (conv => whnf)) | refine kOps ?_ | refine oH ?_ | refine oNil ?_ | refine sR ?_ | refine qSeqN ?_ | refine sSkip ?_ | refine sF ?_ | refine qBlkN ?_ | (refine sBF ?_; (conv => whnf)))
      exact qLoopN (i + 1) (.keep [(0, encT T), (1, .int .i64 k), (5, .int .i64 ((i + 1 : Nat) : Int))] [] [] 0 trivial ⟨rfl, rfl, congrArg (AV.int .i64) (wrapS hlt hT), trivial⟩ rfl rfl) ⟨by omega, hnext fun h => h2 h.1⟩ (by omega)
  · have : findL T k = -1 := by
      have := dF h1
      simp at this
      rw [← hgo, List.drop_eq_nil_of_le this]
      rfl
    rw [this]
    repeat (first | (refine oR ?_; (conv => whnf)) | refine kOps ?_ | refine oNil ?_ | refine sSeq ?_ | refine sR ?_ | refine qSeqN ?_ | refine sRet ?_ | refine sExit ?_ | refine qSeqE ?_ | refine qX ?_ | refine qLoopE ?_)
    refine qEnd ?_
    conv => whnf
    rfl
end Go.Proofs.Ytcmciimogcfakaa

/- What the functions compute: Find, Get, Put, Drop, and where they find what. -/
set_option linter.unusedVariables false
set_option linter.unusedSimpArgs false
namespace Go.Proofs.Ytcmciimogcfakaa
open Go Go.RowKit

def Pl.full (p : Pl) (k : Int) : Prop := p.st = 1 ∧ p.ky = k
instance (p : Pl) (k : Int) : Decidable (p.full k) := inferInstanceAs (Decidable (_ ∧ _))
abbrev pl0 : Pl := ⟨0, 0, 0⟩
theorem findGo_or (k : Int) : ∀ (l : List Pl) (i : Nat), (findGo k l i = -1 ∧ ∀ p ∈ l, ¬ p.full k) ∨ ∃ (n : Nat) (p : Pl), l[n]? = some p ∧ p.full k ∧ findGo k l i = ((i + n : Nat) : Int) ∧ ∀ (m : Nat) (q : Pl), m < n → l[m]? = some q → ¬ q.full k
  | [], i => .inl ⟨rfl, by simp⟩
  | p :: l, i => by
    unfold findGo
    by_cases h : p.st = 1 ∧ p.ky = k
    · rw [if_pos h]
      exact .inr ⟨0, p, rfl, h, by simp, fun m q hm => by omega⟩
    · rw [if_neg h]
      rcases findGo_or k l (i + 1) with ⟨h1, h2⟩ | ⟨n, q, h1, h2, h3, h4⟩
      · refine .inl ⟨h1, fun q hq => ?_⟩
        rcases List.mem_cons.1 hq with rfl | hq
        · exact h
        · exact h2 q hq
      · refine .inr ⟨n + 1, q, by simpa using h1, h2, by rw [h3]; congr 1; omega, fun m r hm hr => ?_⟩
        cases m with
        | zero => simp at hr; subst hr; exact h
        | succ m => exact h4 m r (by omega) (by simpa using hr)
theorem findL_or (T : List Pl) (k : Int) : (findL T k = -1 ∧ ∀ p ∈ T, ¬ p.full k) ∨ ∃ (n : Nat) (p : Pl), T[n]? = some p ∧ p.full k ∧ findL T k = (n : Int) ∧ ∀ (m : Nat) (q : Pl), m < n → T[m]? = some q → ¬ q.full k := by
  rcases findGo_or k T 0 with h | ⟨n, p, h1, h2, h3, h4⟩
  · exact .inl h
  · exact .inr ⟨n, p, h1, h2, by rw [findL, h3]; simp, h4⟩
theorem roadP_mem {T : List Pl} {k : Int} {q : Nat × Pl} (h : q ∈ roadP T k) : T[q.1]? = some q.2 := by
  unfold roadP at h
  obtain ⟨s, hs, rfl⟩ := List.mem_map.1 h
  have hs : s < T.length := by simpa using hs
  have hlt : roadIx T k s < T.length := Nat.mod_lt _ (by omega)
  have hx : T[roadIx T k s]? = some T[roadIx T k s] := List.getElem?_eq_getElem hlt
  simp [hx]
theorem hGo_or (k : Int) : ∀ (l : List (Nat × Pl)), hGo k l = -1 ∨ ∃ q ∈ l, q.2.full k ∧ hGo k l = (q.1 : Int)
  | [] => .inl rfl
  | q :: l => by
    unfold hGo
    split
    · exact .inl rfl
    · split
      · rename_i h
        exact .inr ⟨q, by simp, h, rfl⟩
      · rcases hGo_or k l with h | ⟨r, h1, h2, h3⟩
        · exact .inl h
        · exact .inr ⟨r, by simp [h1], h2, h3⟩
theorem hFind_or (T : List Pl) (k : Int) : hFind T k = -1 ∨ ∃ (n : Nat) (p : Pl), T[n]? = some p ∧ p.full k ∧ hFind T k = (n : Int) := by
  rcases hGo_or k (roadP T k) with h | ⟨q, h1, h2, h3⟩
  · exact .inl h
  · exact .inr ⟨q.1, q.2, roadP_mem h1, h2, h3⟩
def getAt (T : List Pl) (i : Int) : Int × Int := if i < 0 then (0, 9) else ((T[i.toNat]?.getD pl0).vl, 0)
def freeGo : List (Nat × Pl) → Int
  | [] => -1
  | q :: l => if q.2.st ≠ 1 then (q.1 : Int) else freeGo l
def freeL (T : List Pl) (k : Int) : Int := freeGo (roadP T k)
theorem freeGo_or : ∀ (l : List (Nat × Pl)), (freeGo l = -1 ∧ ∀ q ∈ l, q.2.st = 1) ∨ ∃ (n : Nat) (q : Nat × Pl), l[n]? = some q ∧ q.2.st ≠ 1 ∧ freeGo l = (q.1 : Int) ∧ ∀ (m : Nat) (r : Nat × Pl), m < n → l[m]? = some r → r.2.st = 1
  | [] => .inl ⟨rfl, by simp⟩
  | q :: l => by
    unfold freeGo
    by_cases h : q.2.st = 1
    · rw [if_neg (fun hn => hn h)]
      rcases freeGo_or l with ⟨h1, h2⟩ | ⟨n, r, h1, h2, h3, h4⟩
      · refine .inl ⟨h1, fun r hr => ?_⟩
        rcases List.mem_cons.1 hr with rfl | hr
        · exact h
        · exact h2 r hr
      · refine .inr ⟨n + 1, r, by simpa using h1, h2, h3, fun m x hm hx => ?_⟩
        cases m with
        | zero => simp at hx; subst hx; exact h
        | succ m => exact h4 m x (by omega) (by simpa using hx)
    · rw [if_pos h]
      exact .inr ⟨0, q, rfl, h, rfl, fun m r hm => by omega⟩
theorem freeL_or (T : List Pl) (k : Int) : (freeL T k = -1 ∧ ∀ q ∈ roadP T k, q.2.st = 1) ∨ ∃ (n : Nat) (q : Nat × Pl), (roadP T k)[n]? = some q ∧ T[q.1]? = some q.2 ∧ q.2.st ≠ 1 ∧ freeL T k = (q.1 : Int) ∧ ∀ (m : Nat) (r : Nat × Pl), m < n → (roadP T k)[m]? = some r → r.2.st = 1 := by
  rcases freeGo_or (roadP T k) with h | ⟨n, q, h1, h2, h3, h4⟩
  · exact .inl h
  · exact .inr ⟨n, q, h1, roadP_mem (List.mem_of_getElem? h1), h2, h3, h4⟩
def putAt (T : List Pl) (i k v : Int) : List Pl × Int := if i < 0 then (T, 8) else (T.set i.toNat ⟨1, k, v⟩, 0)
def hSlot (T : List Pl) (k : Int) : Int := if hFind T k = -1 then freeL T k else hFind T k
def slotL (T : List Pl) (k : Int) : Int := if findL T k < 0 then freeL T k else findL T k
def dropAt (T : List Pl) (i : Int) : List Pl × Int × Int := if i < 0 then (T, 0, 9) else (T.set i.toNat ⟨2, 0, 0⟩, (T[i.toNat]?.getD pl0).vl, 0)
abbrev eI (n : Int) : AV := .int .i64 n
abbrev eGet (r : Int × Int) : AV := .tup [eI r.1, eI r.2]
abbrev ePut (r : List Pl × Int) : AV := .tup [encT r.1, eI r.2]
abbrev eDrop (r : List Pl × Int × Int) : AV := .tup [encT r.1, eI r.2.1, eI r.2.2]
theorem roomI {n : Nat} (h : n ≤ 1099511627777) : roomy n tInt.by_ := ⟨by decide, by show n * 8 ≤ _; omega⟩
theorem roomP {n : Nat} (h : n ≤ 1099511627777) : roomy n tPl.by_ := ⟨by decide, by show n * 24 ≤ _; omega⟩
theorem roomR {n : Nat} (h : n ≤ 1099511627777) : roomy n tPr.by_ := ⟨by decide, by show n * 16 ≤ _; omega⟩
theorem wN {i : Nat} (j : Nat) (h : i + j ≤ 1000000) : IntKind.i64.wrap ((i : Int) + (j : Int)) = ((i + j : Nat) : Int) := by rw [wrapI (by omega) (by omega)]; omega
theorem get_lt {α : Type} {l : List α} {i : Nat} (h : i < l.length) : ∃ x, l[i]? = some x := ⟨_, List.getElem?_eq_getElem h⟩
theorem lt_of_get {α : Type} {l : List α} {i : Nat} {x : α} (h : l[i]? = some x) : i < l.length := (List.getElem?_eq_some_iff.1 h).1
end Go.Proofs.Ytcmciimogcfakaa

/- Walks: Get. -/
set_option linter.unusedVariables false
set_option linter.unusedSimpArgs false
namespace Go.Proofs.Ytcmciimogcfakaa
open Go Go.RowKit

theorem c_hget (T : List Pl) (k : Int) (hT : T.length ≤ 1099511627776) : C Try.prog 42 [encT T, eI k] (eGet (getAt T (hFind T k))) := by
  refine fnOk mixed tyOk Try.func42 (code := Try.f42.body.getD .skip) rfl rfl rfl (gC_in ?_)
  have ho := hFind_or T k
  have hc := c_hfind T k hT
  generalize hFind T k = i at ho hc ⊢
  repeat (first | (refine oR ?_; (conv => whnf)) | refine kOps ?_ | refine oNil ?_ | refine sSeq ?_ | refine sR ?_ | refine qSeqN ?_)
  (refine oCall rfl (.inl rfl) rfl rfl rfl (.fz [] _) rfl ⟨rfl, hc, ?_⟩; (conv => whnf))
  repeat (first | (refine oR ?_; (conv => whnf)) | refine kOps ?_ | refine oNil ?_ | refine sSeq ?_ | refine sR ?_ | refine qSeqN ?_)
  rcases ho with rfl | ⟨n, p, hp, _, rfl⟩
  · repeat (first | (refine oR ?_; (conv => whnf)) | refine kOps ?_ | refine oNil ?_ | refine sSeq ?_ | refine sR ?_ | refine qSeqN ?_ | refine sT ?_ | refine sRet ?_ | refine qSeqR ?_)
    refine qEnd ?_
    conv => whnf
    rfl
  · refine sC rfl (fun h => ?_) (fun h => ?_)
    · exfalso; simp at h <;> omega
    · have e : getAt T (n : Int) = (p.vl, 0) := by simp [getAt, hp]
      rw [e]
      repeat (first | (refine oR ?_; (conv => whnf)) | refine kOps ?_ | refine sSeq ?_ | refine sR ?_ | refine qSeqN ?_ | refine sSkip ?_)
      refine ⟨n, _, rfl, enc_get hp, ?_⟩
      conv => whnf
      repeat (first | (refine oR ?_; (conv => whnf)) | refine kOps ?_ | refine oNil ?_ | refine qSeqN ?_ | refine sRet ?_)
      refine qEnd ?_
      conv => whnf
      rfl






















end Go.Proofs.Ytcmciimogcfakaa

/- Walks: with, Put, Drop. -/
set_option linter.unusedVariables false
set_option linter.unusedSimpArgs false
namespace Go.Proofs.Ytcmciimogcfakaa
open Go Go.RowKit














theorem c_hput (T : List Pl) (k v : Int) (hT : T.length ≤ 1099511627776) : C Try.prog 43 [encT T, eI k, eI v] (ePut (putAt T (hSlot T k) k v)) := by
  refine fnOk mixed tyOk Try.func43 (code := Try.f43.body.getD .skip) rfl rfl rfl (gC_in ?_)
  have ho := hFind_or T k
  have hc := c_hfind T k hT
  unfold hSlot
  generalize hFind T k = i at ho hc ⊢
  repeat (first | (refine oR ?_; (conv => whnf)) | refine kOps ?_ | refine oNil ?_ | refine sSeq ?_ | refine sR ?_ | refine qSeqN ?_)
  (refine oCall rfl (.inl rfl) rfl rfl rfl (.fz [] _) rfl ⟨rfl, hc, ?_⟩; (conv => whnf))
  repeat (first | (refine oR ?_; (conv => whnf)) | refine kOps ?_ | refine oNil ?_ | refine sSeq ?_ | refine sR ?_ | refine qSeqN ?_)
  rcases ho with rfl | ⟨n, p, hp, _, rfl⟩
  · rw [if_pos rfl]
    refine sJoin (fun j : Int => j = freeL T k) (fun j => ⟨tl [(0, encT T), (1, eI k), (2, eI v), (8, .ptr 0 0 0)], Ll [(0, .box 3 [eI j])], 34, 1, [], none⟩) ?_ (fun hj => ?_)
    · rintro j rfl
      have hf := freeL_or T k
      generalize freeL T k = j at hf ⊢
      repeat (first | (refine oR ?_; (conv => whnf)) | refine kOps ?_ | refine oNil ?_ | refine sSeq ?_ | refine sR ?_ | refine qSeqN ?_)
      rcases hf with ⟨rfl, _⟩ | ⟨m, q, _, hq, _, rfl, _⟩
      · repeat (first | (refine oR ?_; (conv => whnf)) | refine kOps ?_ | refine oNil ?_ | refine sSeq ?_ | refine sR ?_ | refine qSeqN ?_ | refine sT ?_ | refine sRet ?_ | refine qSeqR ?_)
        refine qEnd ?_
        conv => whnf
        rfl
      · have e : putAt T (q.1 : Int) k v = (T.set q.1 ⟨1, k, v⟩, 0) := by simp [putAt]
        rw [e]
        repeat (first | (refine oR ?_; (conv => whnf)) | refine kOps ?_ | refine sSeq ?_ | refine sR ?_ | refine qSeqN ?_ | refine sSkip ?_ | refine sF ?_)
        (refine oCall rfl (.inl rfl) rfl rfl rfl (.fz [] _) rfl ⟨rfl, c_turned T q.1 ⟨1, k, v⟩ (lt_of_get hq) hT, ?_⟩; (conv => whnf))
        repeat (first | (refine oR ?_; (conv => whnf)) | refine kOps ?_ | refine oNil ?_ | refine qSeqN ?_ | refine sRet ?_)
        refine qEnd ?_
        conv => whnf
        rfl
    · repeat (first | (refine oR ?_; (conv => whnf)) | refine kOps ?_ | refine sSeq ?_ | refine sR ?_ | refine sT ?_)
      (refine oCall rfl (.inl rfl) rfl rfl rfl (.fz [] _) rfl ⟨rfl, c_road T k, ?_⟩; (conv => whnf))
      repeat (first | refine kOps ?_ | refine oNil ?_ | refine qSeqN ?_ | refine sBlk ?_)
      refine forIn rfl rfl (it_road T k hT) (fun _ => ⟨tl [(0, encT T), (1, eI k), (2, eI v), (8, .ptr 0 0 0)], Ll [(0, .box 3 [eI (-1)])], 34, 1, [], none⟩) (fun i => freeGo ((roadP T k).drop i) = freeL T k) .kp rfl (fun i z hi hz => ?_) (fun hn => ?_)
      · obtain ⟨⟨ix, p⟩, hq, rfl⟩ := get_map hz
        rw [drop_of hq, freeGo] at hi
        refine ⟨rfl, rfl, ?_⟩
        repeat (first | (refine oR ?_; (conv => whnf)) | refine kOps ?_ | refine oNil ?_ | refine sSeq ?_ | refine sR ?_ | refine qSeqN ?_)
        refine qAs ?_
        repeat (first | (refine oR ?_; (conv => whnf)) | refine kOps ?_ | refine oNil ?_ | refine sSeq ?_ | refine sR ?_ | refine qSeqN ?_ | refine sBlk ?_)
        refine sC rfl (fun h1 => ?_) (fun h1 => ?_)
        · rw [if_pos (by simpa using h1)] at hi
          repeat (first | (refine oR ?_; (conv => whnf)) | refine kOps ?_ | refine oNil ?_ | refine sSeq ?_ | refine sR ?_ | refine qSeqN ?_ | refine sExit ?_ | refine qX ?_ | refine qY ?_ | refine qRndE ?_)
          refine qJoin ?_ (hj _ rfl)
          rw [← hi]
          exact .kp
        · rw [if_neg (by simpa using h1)] at hi
          repeat (first | refine sSkip ?_ | refine qBlkN ?_)
          exact qRndN .kp hi
      · rw [List.drop_eq_nil_of_le (by simp [roadL])] at hn
        refine qBlkN (qJoin ?_ (hj _ rfl))
        rw [← hn]
        exact .kp
  · rw [if_neg (by omega)]
    have e : putAt T (n : Int) k v = (T.set n ⟨1, k, v⟩, 0) := by simp [putAt]
    rw [e]
    repeat (first | (refine oR ?_; (conv => whnf)) | refine kOps ?_ | refine oNil ?_ | refine sSeq ?_ | refine sR ?_ | refine qSeqN ?_ | refine sSkip ?_ | refine sF ?_)
    (refine oCall rfl (.inl rfl) rfl rfl rfl (.fz [] _) rfl ⟨rfl, c_turned T n ⟨1, k, v⟩ (lt_of_get hp) hT, ?_⟩; (conv => whnf))
    repeat (first | (refine oR ?_; (conv => whnf)) | refine kOps ?_ | refine oNil ?_ | refine qSeqN ?_ | refine sRet ?_)
    refine qEnd ?_
    conv => whnf
    rfl
theorem c_hdrop (T : List Pl) (k : Int) (hT : T.length ≤ 1099511627776) : C Try.prog 41 [encT T, eI k] (eDrop (dropAt T (hFind T k))) := by
  refine fnOk mixed tyOk Try.func41 (code := Try.f41.body.getD .skip) rfl rfl rfl (gC_in ?_)
  have ho := hFind_or T k
  have hc := c_hfind T k hT
  generalize hFind T k = i at ho hc ⊢
  repeat (first | (refine oR ?_; (conv => whnf)) | refine kOps ?_ | refine oNil ?_ | refine sSeq ?_ | refine sR ?_ | refine qSeqN ?_)
  (refine oCall rfl (.inl rfl) rfl rfl rfl (.fz [] _) rfl ⟨rfl, hc, ?_⟩; (conv => whnf))
  repeat (first | (refine oR ?_; (conv => whnf)) | refine kOps ?_ | refine oNil ?_ | refine sSeq ?_ | refine sR ?_ | refine qSeqN ?_)
  rcases ho with rfl | ⟨n, p, hp, _, rfl⟩
  · repeat (first | (refine oR ?_; (conv => whnf)) | refine kOps ?_ | refine oNil ?_ | refine sSeq ?_ | refine sR ?_ | refine qSeqN ?_ | refine sT ?_ | refine sRet ?_ | refine qSeqR ?_)
    refine qEnd ?_
    conv => whnf
    rfl
  · have e : dropAt T (n : Int) = (T.set n ⟨2, 0, 0⟩, p.vl, 0) := by simp [dropAt, hp]
    rw [e]
    repeat (first | (refine oR ?_; (conv => whnf)) | refine kOps ?_ | refine sSeq ?_ | refine sR ?_ | refine qSeqN ?_ | refine sSkip ?_ | refine sF ?_)
    (refine oCall rfl (.inl rfl) rfl rfl rfl (.fz [] _) rfl ⟨rfl, c_turned T n ⟨2, 0, 0⟩ (lt_of_get hp) hT, ?_⟩; (conv => whnf))
    repeat (first | (refine oR ?_; (conv => whnf)) | refine kOps ?_ | refine oNil ?_ | refine sSeq ?_ | refine qSeqN ?_ | refine sD ?_ | (apply drRun; exact rfl; exact .inl rfl; (conv => whnf); exact .mk rfl) | (apply drRun; exact rfl; exact .inl rfl; (conv => whnf)))
    refine ⟨n, _, rfl, enc_get hp, ?_⟩
    conv => whnf
    exact .mk rfl
    repeat (first | refine qSeqN ?_ | refine sRet ?_ | (apply drRun; exact rfl; exact .inl rfl; (conv => whnf); exact .mk rfl) | refine drNil ?_)
    refine qEnd ?_
    conv => whnf
    rfl

























end Go.Proofs.Ytcmciimogcfakaa

/- Walks: Put by the document, Keys, New, Same, Ints. -/
set_option linter.unusedVariables false
set_option linter.unusedSimpArgs false
namespace Go.Proofs.Ytcmciimogcfakaa
open Go Go.RowKit

theorem roadP_get {T : List Pl} {k : Int} {j : Nat} (hj : j < T.length) : ∃ p, T[roadIx T k j]? = some p ∧ (roadP T k)[j]? = some (roadIx T k j, p) := by
  have hlt : roadIx T k j < T.length := Nat.mod_lt _ (by omega)
  refine ⟨T[roadIx T k j], List.getElem?_eq_getElem hlt, ?_⟩
  simp [roadP, hj, List.getElem?_eq_getElem hlt]
theorem roadIx_succ (T : List Pl) (k : Int) (j : Nat) : (roadIx T k j + 1) % T.length = roadIx T k (j + 1) := by
  unfold roadIx
  rw [Nat.mod_add_mod, Nat.add_assoc]
theorem roadIx_zero {T : List Pl} (k : Int) (h : 0 < T.length) (hm : T.length ≤ 1099511627776) : roadIx T k 0 = homeN T.length k := by
  unfold roadIx
  exact Nat.mod_eq_of_lt (home_lt h hm k).2
theorem road_step {T : List Pl} {k : Int} {j : Nat} (h : 0 < T.length) (hm : T.length ≤ 1099511627776) : (W ((roadIx T k j : Int) + 1)).tmod (T.length : Int) = (roadIx T k (j + 1) : Int) := by
  have hlt : roadIx T k j < T.length := Nat.mod_lt _ h
  rw [show W ((roadIx T k j : Int) + 1) = ((roadIx T k j + 1 : Nat) : Int) from wrapS hlt hm, ← Int.ofNat_tmod, roadIx_succ]






























































def newL (n : Int) : List Pl := if n < 1 ∨ 8 < n then [] else List.replicate n.toNat pl0
theorem c_hnew (n : Int) : C Try.prog 13 [eI n] (encT (newL n)) := by
  refine fnOk mixed tyOk Try.func13 (code := Try.f13.body.getD .skip) rfl rfl rfl (gC_in ?_)
  repeat (first | (refine oR ?_; (conv => whnf)) | refine kOps ?_ | refine oNil ?_ | refine sSeq ?_ | refine sR ?_ | refine qSeqN ?_)
  refine oS rfl rfl rfl (fun h1 => ?_) (fun h1 => ?_)
  · rw [newL, if_pos (.inl (dT h1))]
    repeat (first | (refine oR ?_; (conv => whnf)) | refine kOps ?_ | refine oH ?_ | refine oNil ?_ | refine sSeq ?_ | refine sR ?_ | refine qSeqN ?_ | refine sT ?_ | refine sRet ?_ | refine qSeqR ?_ | (refine sBT ?_; (conv => whnf)))
    refine qEnd ?_
    conv => whnf
    rfl
  · have h1 := dF h1
    repeat (first | (refine oR ?_; (conv => whnf)) | refine kOps ?_ | (refine oG ?_; (conv => whnf)) | refine oNil ?_ | refine qSeqN ?_ | (refine sBF ?_; (conv => whnf)))
    refine sC rfl (fun h2 => ?_) (fun h2 => ?_)
    · rw [newL, if_pos (.inr (dT h2))]
      repeat (first | (refine oR ?_; (conv => whnf)) | refine kOps ?_ | refine oNil ?_ | refine sSeq ?_ | refine sR ?_ | refine qSeqN ?_ | refine sRet ?_ | refine qSeqR ?_)
      refine qEnd ?_
      conv => whnf
      rfl
    · have h2 := dF h2
      rw [newL, if_neg (by omega)]
      repeat (first | (refine oR ?_; (conv => whnf)) | refine kOps ?_ | refine sSeq ?_ | refine sR ?_ | refine qSeqN ?_ | refine sSkip ?_)
      refine ⟨rfl, n.toNat, by omega, roomP (by omega), ?_⟩
      repeat (first | (refine oR ?_; (conv => whnf)) | refine kOps ?_ | refine oNil ?_ | refine qSeqN ?_ | refine sRet ?_)
      refine qEnd ?_
      conv => whnf
      exact congrArg AV.sl (List.map_replicate (f := Pl.enc) (a := pl0)).symm






















theorem keysL_snoc {T : List Pl} {i : Nat} {p : Pl} (h : T[i]? = some p) : keysL (T.take (i + 1)) = if p.st = 1 then keysL (T.take i) ++ [p.ky] else keysL (T.take i) := by
  obtain ⟨h1, rfl⟩ := List.getElem?_eq_some_iff.1 h
  rw [List.take_succ_eq_append_getElem h1]
  unfold keysL
  rw [List.filter_append, List.map_append]
  by_cases hs : T[i].st = 1 <;> simp [hs]
theorem keysL_le (T : List Pl) : (keysL T).length ≤ T.length := by
  unfold keysL
  rw [List.length_map]
  exact List.length_filter_le _ _
def rI (l : List Int) : List (List AV) := l.map fun n => [eI n]




































































theorem pure3 (p : Pl) : p.enc.length = 3 ∧ p.enc.all oneC = true := ⟨rfl, rfl⟩












































end Go.Proofs.Ytcmciimogcfakaa

/- Walks: Same, Ints, Right by the document. -/
set_option linter.unusedVariables false
set_option linter.unusedSimpArgs false
namespace Go.Proofs.Ytcmciimogcfakaa
open Go Go.RowKit

theorem take_eq_succ {α : Type} {A B : List α} {i : Nat} {a b : α} (ha : A[i]? = some a) (hb : B[i]? = some b) (h : A.take i = B.take i) : A.take (i + 1) = B.take (i + 1) ↔ a = b := by
  obtain ⟨h1, rfl⟩ := List.getElem?_eq_some_iff.1 ha
  obtain ⟨h2, rfl⟩ := List.getElem?_eq_some_iff.1 hb
  rw [List.take_succ_eq_append_getElem h1, List.take_succ_eq_append_getElem h2, h]
  exact ⟨fun h => by have := List.append_cancel_left h; exact (List.cons.inj this).1, fun h => by rw [h]⟩
theorem ne_of_at {α : Type} {A B : List α} {i : Nat} {a b : α} (ha : A[i]? = some a) (hb : B[i]? = some b) (h : a ≠ b) : A ≠ B := fun he => by
  subst he
  rw [ha] at hb
  exact h (Option.some.inj hb)












































theorem encI_get {l : List Int} {i : Nat} {n : Int} (h : l[i]? = some n) : (l.map fun n => [eI n])[i]? = some [eI n] := by rw [List.getElem?_map, h]; rfl
theorem c_ints (A B : List Int) (hA : A.length ≤ 1099511627776) : C Try.prog 11 [encI A, encI B] (.bool (decide (A = B))) := by
  refine fnOk mixed tyOk Try.func11 (code := Try.f11.body.getD .skip) rfl rfl rfl (gC_in ?_)
  repeat (first | (refine oR ?_; (conv => whnf)) | refine kOps ?_ | refine oNil ?_ | refine sSeq ?_ | refine sR ?_ | refine qSeqN ?_)
  refine sC rfl (fun h0 => ?_) (fun h0 => ?_)
  · have h0 : A ≠ B := fun he => by subst he; simp at h0
    rw [decide_eq_false h0]
    repeat (first | (refine oR ?_; (conv => whnf)) | refine kOps ?_ | refine oNil ?_ | refine sSeq ?_ | refine sR ?_ | refine qSeqN ?_ | refine sRet ?_ | refine qSeqR ?_)
    refine qEnd ?_
    conv => whnf
    rfl
  · have h0 : A.length = B.length := by simp at h0; omega
    repeat (first | (refine oR ?_; (conv => whnf)) | refine kOps ?_ | refine oNil ?_ | refine sSeq ?_ | refine sR ?_ | refine qSeqN ?_ | refine sSkip ?_ | refine sBlk ?_)
    refine sLoop (fun i => i ≤ A.length ∧ A.take i = B.take i) (fun i => ⟨tl [(0, encI A), (1, encI B), (5, eI (i : Int))], Ll [], 26, 0, [], none⟩) (fun i => A.length - i) 0 .kp ⟨Nat.zero_le _, rfl⟩ fun i hi => ?_
    obtain ⟨hi, hAB⟩ := hi
    repeat (first | (refine oR ?_; (conv => whnf)) | refine kOps ?_ | refine oNil ?_ | refine sSeq ?_ | refine sR ?_ | refine qSeqN ?_)
    refine sC rfl (fun h1 => ?_) (fun h1 => ?_)
    · have hlt : i < A.length := by have := dT h1; simpa using this
      obtain ⟨a, ha⟩ : ∃ a, A[i]? = some a := ⟨_, List.getElem?_eq_getElem hlt⟩
      obtain ⟨b, hb⟩ : ∃ b, B[i]? = some b := ⟨_, List.getElem?_eq_getElem (by omega)⟩
      repeat (first | refine sSeq ?_ | refine qSeqN ?_ | refine sSkip ?_ | refine sBlk ?_ | refine sD ?_ | (apply drRun; exact rfl; exact .inl rfl; (conv => whnf); exact .mk rfl) | (apply drRun; exact rfl; exact .inl rfl; (conv => whnf)))
      refine ⟨i, _, rfl, encI_get ha, ?_⟩
      conv => whnf
      exact .mk rfl
      repeat (first | (apply drRun; exact rfl; exact .inl rfl; (conv => whnf); exact .mk rfl) | (apply drRun; exact rfl; exact .inl rfl; (conv => whnf)))
      refine ⟨i, _, rfl, encI_get hb, ?_⟩
      conv => whnf
      exact .mk rfl
      repeat (first | refine qSeqN ?_ | (apply drRun; exact rfl; exact .inl rfl; (conv => whnf); exact .mk rfl) | refine drNil ?_)
      refine sC rfl (fun h2 => ?_) (fun h2 => ?_)
      · have h2 : a ≠ b := by simpa using h2
        rw [decide_eq_false (ne_of_at ha hb h2)]
        repeat (first | (refine oR ?_; (conv => whnf)) | refine kOps ?_ | refine oNil ?_ | refine sSeq ?_ | refine sR ?_ | refine qSeqN ?_ | refine sRet ?_ | refine qSeqR ?_ | refine qBlkR ?_ | refine qLoopR ?_)
        refine qEnd ?_
        conv => whnf
        rfl
      · have h2 : a = b := by simpa using h2
        repeat (first | (refine oR ?_; (conv => whnf)) | refine kOps ?_ | refine oNil ?_ | refine sR ?_ | refine qSeqN ?_ | refine sSkip ?_ | refine qBlkN ?_)
        exact qLoopN (i + 1) .kp ⟨by omega, (take_eq_succ ha hb hAB).2 h2⟩ (by omega)
    · have hge : A.length ≤ i := by have := dF h1; simpa using this
      have e : A = B := by rwa [List.take_of_length_le hge, List.take_of_length_le (by omega)] at hAB
      rw [decide_eq_true e]
      repeat (first | (refine oR ?_; (conv => whnf)) | refine kOps ?_ | refine oNil ?_ | refine sSeq ?_ | refine sR ?_ | refine qSeqN ?_ | refine sRet ?_ | refine sExit ?_ | refine qSeqE ?_ | refine qX ?_ | refine qLoopE ?_)
      refine qEnd ?_
      conv => whnf
      rfl
def dist (n h i : Nat) : Nat := (i + n - h) % n
theorem dist_iff {n h i s : Nat} (hh : h < n) (hi : i < n) (hs : s ≤ dist n h i) : (h + s) % n = i ↔ s = dist n h i := by
  unfold dist at hs ⊢
  by_cases hle : h ≤ i
  · have e : (i + n - h) % n = i - h := by
      rw [show i + n - h = (i - h) + n by omega, Nat.add_mod_right]
      exact Nat.mod_eq_of_lt (by omega)
    rw [e] at hs ⊢
    rw [Nat.mod_eq_of_lt (by omega)]
    omega
  · have e : (i + n - h) % n = i + n - h := Nat.mod_eq_of_lt (by omega)
    rw [e] at hs ⊢
    by_cases hn : h + s < n
    · rw [Nat.mod_eq_of_lt hn]; omega
    · rw [show h + s = (h + s - n) + n by omega, Nat.add_mod_right, Nat.mod_eq_of_lt (by omega)]
      omega
theorem dist_lt {n h i : Nat} (hn : 0 < n) : dist n h i < n := Nat.mod_lt _ hn
def roadOk (T : List Pl) (k : Int) : List Nat → Bool
  | [] => true
  | s :: l => (T[roadIx T k s]?.getD pl0).st != 0 && roadOk T k l
def okR (T : List Pl) (i : Nat) (p : Pl) : Bool :=
  if p.st < 0 ∨ 2 < p.st ∨ (p.st ≠ 1 ∧ (p.ky ≠ 0 ∨ p.vl ≠ 0)) then false else if p.st ≠ 1 then true else if findL T p.ky ≠ (i : Int) then false else roadOk T p.ky (List.range (dist T.length (homeN T.length p.ky) i))
def allIx (f : Nat → Pl → Bool) : List Pl → Nat → Bool
  | [], _ => true
  | p :: l, i => f i p && allIx f l (i + 1)
def rightL (T : List Pl) : Bool := if T.length < 1 ∨ 8 < T.length then false else allIx (okR T) T 0
theorem range_drop {n i : Nat} (h : i < n) : (List.range n).drop i = i :: (List.range n).drop (i + 1) := by
  rw [List.drop_eq_getElem_cons (by simpa using h)]
  simp
theorem c_right (T : List Pl) (hT : T.length ≤ 1099511627776) : C Try.prog 19 [encT T] (.bool (rightL T)) := by
  refine fnOk mixed tyOk Try.func19 (code := Try.f19.body.getD .skip) rfl rfl rfl (gC_in ?_)
  have hlen : (T.map Pl.enc).length = T.length := List.length_map _
  repeat (first | (refine oR ?_; (conv => whnf)) | refine kOps ?_ | refine oNil ?_ | refine sSeq ?_ | refine sR ?_ | refine qSeqN ?_)
  refine oS rfl rfl rfl (fun h1 => ?_) (fun h1 => ?_)
  · rw [rightL, if_pos (by have := dT h1; simp at this; omega)]
    repeat (first | (refine oR ?_; (conv => whnf)) | refine kOps ?_ | refine oH ?_ | refine oNil ?_ | refine sSeq ?_ | refine sR ?_ | refine qSeqN ?_ | refine sT ?_ | refine sRet ?_ | refine qSeqR ?_ | (refine sBT ?_; (conv => whnf)))
    refine qEnd ?_
    conv => whnf
    rfl
  · have h1 := dF h1
    rw [hlen] at h1
    repeat (first | (refine oR ?_; (conv => whnf)) | refine kOps ?_ | (refine oG ?_; (conv => whnf)) | refine oNil ?_ | refine qSeqN ?_ | (refine sBF ?_; (conv => whnf)))
    refine sC rfl (fun h2 => ?_) (fun h2 => ?_)
    · rw [rightL, if_pos (by have := dT h2; simp at this; omega)]
      repeat (first | (refine oR ?_; (conv => whnf)) | refine kOps ?_ | refine oNil ?_ | refine sSeq ?_ | refine sR ?_ | refine qSeqN ?_ | refine sRet ?_ | refine qSeqR ?_)
      refine qEnd ?_
      conv => whnf
      rfl
    · have h2 := dF h2
      rw [hlen] at h2
      rw [rightL, if_neg (by omega)]
      repeat (first | (refine oR ?_; (conv => whnf)) | refine kOps ?_ | refine oNil ?_ | refine sSeq ?_ | refine sR ?_ | refine qSeqN ?_ | refine sSkip ?_ | refine sBlk ?_)
      refine sLoop (fun i => i ≤ T.length ∧ allIx (okR T) (T.drop i) i = allIx (okR T) T 0) (fun i => ⟨tl [(0, encT T), (3, eI T.length), (4, eI (i : Int))], Ll [], 73, 0, [], none⟩) (fun i => T.length - i) 0
        (.keep _ _ _ _ trivial ⟨rfl, congrArg (fun n : Nat => eI n) hlen, rfl, trivial⟩ rfl rfl) ⟨Nat.zero_le _, rfl⟩ fun i hi => ?_
      obtain ⟨hi, hall⟩ := hi
      repeat (first | (refine oR ?_; (conv => whnf)) | refine kOps ?_ | refine oNil ?_ | refine sSeq ?_ | refine sR ?_ | refine qSeqN ?_)
      refine sC rfl (fun h3 => ?_) (fun h3 => ?_)
      · have hlt : i < T.length := by have := dT h3; omega
        obtain ⟨p, hp⟩ : ∃ p, T[i]? = some p := ⟨_, List.getElem?_eq_getElem hlt⟩
        rw [drop_of hp, allIx] at hall
        repeat (first | (refine oR ?_; (conv => whnf)) | refine kOps ?_ | refine sSeq ?_ | refine sR ?_ | refine qSeqN ?_ | refine sSkip ?_ | refine sBlk ?_)
        refine ⟨i, _, rfl, enc_get hp, ?_⟩
        conv => whnf
        obtain ⟨st, ky, vl⟩ := p
        have hbad : okR T i ⟨st, ky, vl⟩ = false → allIx (okR T) T 0 = false := fun h => by rw [← hall, h]; rfl
        have hgood : okR T i ⟨st, ky, vl⟩ = true → allIx (okR T) (T.drop (i + 1)) (i + 1) = allIx (okR T) T 0 := fun h => by rw [← hall, h]; rfl
        have hs : st < 0 ∨ 2 < st ∨ st = 0 ∨ st = 1 ∨ st = 2 := by omega
        rcases hs with hs | hs | rfl | rfl | rfl
        · repeat (first | (refine oR ?_; (conv => whnf)) | refine kOps ?_ | refine oNil ?_ | refine sSeq ?_ | refine sR ?_ | refine qSeqN ?_)
          refine oS rfl rfl rfl (fun h4 => ?_) (fun h4 => ?_)
          · rw [hbad (if_pos (.inl hs))]
            repeat (first | (refine oR ?_; (conv => whnf)) | refine kOps ?_ | refine oH ?_ | refine oV ?_ | refine oNil ?_ | refine sSeq ?_ | refine sR ?_ | refine qSeqN ?_ | refine sT ?_ | refine sRet ?_ | refine qSeqR ?_ | refine qBlkR ?_ | refine qLoopR ?_ | (refine sBT ?_; (conv => whnf)))
            refine qEnd ?_
            conv => whnf
            rfl
          · exact absurd hs (dF h4)
        · repeat (first | (refine oR ?_; (conv => whnf)) | refine kOps ?_ | refine oNil ?_ | refine sSeq ?_ | refine sR ?_ | refine qSeqN ?_)
          refine oS rfl rfl rfl (fun h4 => ?_) (fun h4 => ?_)
          · exact absurd (dT h4) (by show ¬ st < 0; omega)
          · repeat (first | (refine oR ?_; (conv => whnf)) | refine kOps ?_ | (refine oG ?_; (conv => whnf)) | (refine sBF ?_; (conv => whnf)))
            refine oS rfl rfl rfl (fun h5 => ?_) (fun h5 => ?_)
            · rw [hbad (if_pos (.inr (.inl hs)))]
              repeat (first | (refine oR ?_; (conv => whnf)) | refine kOps ?_ | refine oH ?_ | refine oV ?_ | refine oNil ?_ | refine sSeq ?_ | refine sR ?_ | refine qSeqN ?_ | refine sT ?_ | refine sRet ?_ | refine qSeqR ?_ | refine qBlkR ?_ | refine qLoopR ?_ | (refine sBT ?_; (conv => whnf)))
              refine qEnd ?_
              conv => whnf
              rfl
            · exact absurd hs (dF h5)
        · repeat (first | (refine oR ?_; (conv => whnf)) | refine kOps ?_ | (refine oG ?_; (conv => whnf)) | refine oNil ?_ | refine sSeq ?_ | refine sR ?_ | refine qSeqN ?_ | (refine sBF ?_; (conv => whnf)))
          refine oS rfl rfl rfl (fun h4 => ?_) (fun h4 => ?_)
          · rw [hbad (if_pos (.inr (.inr ⟨by simp, .inl (by simpa using h4)⟩)))]
            repeat (first | (refine oR ?_; (conv => whnf)) | refine kOps ?_ | (refine oG ?_; (conv => whnf)) | refine oH ?_ | refine oNil ?_ | refine sSeq ?_ | refine sR ?_ | refine qSeqN ?_ | refine sT ?_ | refine sRet ?_ | refine qSeqR ?_ | refine qBlkR ?_ | refine qLoopR ?_ | (refine sBT ?_; (conv => whnf)) | (refine sBF ?_; (conv => whnf)))
            refine qEnd ?_
            conv => whnf
            rfl
          · have h4 : ky = 0 := by simpa using h4
            repeat (first | (refine oR ?_; (conv => whnf)) | refine kOps ?_ | (refine oG ?_; (conv => whnf)) | refine oNil ?_ | refine qSeqN ?_ | (refine sBT ?_; (conv => whnf)) | (refine sBF ?_; (conv => whnf)))
            refine sC rfl (fun h5 => ?_) (fun h5 => ?_)
            · rw [hbad (if_pos (.inr (.inr ⟨by simp, .inr (by simpa using h5)⟩)))]
              repeat (first | (refine oR ?_; (conv => whnf)) | refine kOps ?_ | refine oNil ?_ | refine sSeq ?_ | refine sR ?_ | refine qSeqN ?_ | refine sRet ?_ | refine qSeqR ?_ | refine qBlkR ?_ | refine qLoopR ?_)
              refine qEnd ?_
              conv => whnf
              rfl
            · have h5 : vl = 0 := by simpa using h5
              repeat (first | (refine oR ?_; (conv => whnf)) | refine kOps ?_ | refine oNil ?_ | refine sSeq ?_ | refine sR ?_ | refine qSeqN ?_ | refine sSkip ?_ | refine sT ?_ | refine sExit ?_ | refine qSeqE ?_ | refine qX ?_)
              exact qLoopN (i + 1) .kp ⟨by omega, hgood (by rw [okR, if_neg (by simp [h4, h5]), if_pos (by simp)])⟩ (by omega)
        · repeat (first | (refine oR ?_; (conv => whnf)) | refine kOps ?_ | (refine oG ?_; (conv => whnf)) | refine oH ?_ | refine oV ?_ | refine oNil ?_ | refine sSeq ?_ | refine sR ?_ | refine qSeqN ?_ | refine sSkip ?_ | refine sF ?_ | (refine sBF ?_; (conv => whnf)))
          (refine oCall rfl (.inl rfl) rfl rfl rfl (.fz [] _) rfl ⟨rfl, c_find T ky hT, ?_⟩; (conv => whnf))
          repeat (first | (refine oR ?_; (conv => whnf)) | refine kOps ?_ | refine oNil ?_ | refine qSeqN ?_)
          refine sC rfl (fun h4 => ?_) (fun h4 => ?_)
          · rw [hbad (by rw [okR, if_neg (by simp), if_neg (by simp), if_pos (by simpa using h4)])]
            repeat (first | (refine oR ?_; (conv => whnf)) | refine kOps ?_ | refine oNil ?_ | refine sSeq ?_ | refine sR ?_ | refine qSeqN ?_ | refine sRet ?_ | refine qSeqR ?_ | refine qBlkR ?_ | refine qLoopR ?_)
            refine qEnd ?_
            conv => whnf
            rfl
          · have h4 : findL T ky = (i : Int) := by simpa using h4
            have h0 : 0 < T.length := by omega
            obtain ⟨hh, hhl⟩ := home_lt h0 hT ky
            have hok : okR T i ⟨1, ky, vl⟩ = roadOk T ky (List.range (dist T.length (homeN T.length ky) i)) := by rw [okR, if_neg (by simp), if_neg (by simp), if_neg (by simpa using h4)]
            rw [hok] at hgood hbad
            repeat (first | (refine oR ?_; (conv => whnf)) | refine kOps ?_ | refine sSeq ?_ | refine sR ?_ | refine qSeqN ?_ | refine sSkip ?_)
            (refine oCall rfl (.inl rfl) rfl rfl rfl (.fz [] _) rfl ⟨rfl, c_home2 T.length ky, ?_⟩; (conv => whnf))
            repeat (first | (refine oR ?_; (conv => whnf)) | refine kOps ?_ | refine oNil ?_ | refine qSeqN ?_ | refine sBlk ?_)
            have hd := dist_lt (h := homeN T.length ky) (i := i) h0
            generalize hdd : dist T.length (homeN T.length ky) i = d at hgood hbad hd
            refine sLoop (fun s => s ≤ d ∧ roadOk T ky ((List.range d).drop s) = roadOk T ky (List.range d)) (fun s => ⟨tl [(0, encT T), (3, eI T.length), (4, eI (i : Int)), (6, eI (roadIx T ky s))], Ll [], 73, 1, [], none⟩) (fun s => d - s) 0
              (.keep _ _ _ _ trivial ⟨rfl, rfl, rfl, by rw [roadIx_zero ky h0 hT, ← hh]; rfl, trivial⟩ rfl rfl) ⟨Nat.zero_le _, rfl⟩ fun s hs => ?_
            obtain ⟨hs, hgo⟩ := hs
            have hiff := dist_iff (s := s) hhl hlt (by rw [hdd]; exact hs)
            rw [hdd] at hiff
            have hlt2 : roadIx T ky s < T.length := Nat.mod_lt _ h0
            obtain ⟨q, hq⟩ : ∃ q, T[roadIx T ky s]? = some q := ⟨_, List.getElem?_eq_getElem hlt2⟩
            repeat (first | (refine oR ?_; (conv => whnf)) | refine kOps ?_ | refine oNil ?_ | refine sSeq ?_ | refine sR ?_ | refine qSeqN ?_)
            refine sC rfl (fun h5 => ?_) (fun h5 => ?_)
            · have h5 : s < d := by
                have : ¬ roadIx T ky s = i := by simp at h5; omega
                have hne : s ≠ d := fun h => this (hiff.2 h)
                omega
              rw [range_drop h5, roadOk, hq] at hgo
              repeat (first | (refine oR ?_; (conv => whnf)) | refine kOps ?_ | refine sSeq ?_ | refine sR ?_ | refine qSeqN ?_ | refine sSkip ?_ | refine sBlk ?_)
              refine ⟨_, _, rfl, enc_get hq, ?_⟩
              conv => whnf
              repeat (first | (refine oR ?_; (conv => whnf)) | refine kOps ?_ | refine oNil ?_ | refine qSeqN ?_)
              refine sC rfl (fun h6 => ?_) (fun h6 => ?_)
              · have h6 : q.st = 0 := by simpa using h6
                rw [hbad (by rw [← hgo]; simp [h6])]
                repeat (first | (refine oR ?_; (conv => whnf)) | refine kOps ?_ | refine oNil ?_ | refine sSeq ?_ | refine sR ?_ | refine qSeqN ?_ | refine sRet ?_ | refine qSeqR ?_ | refine qBlkR ?_ | refine qLoopR ?_)
                refine qEnd ?_
                conv => whnf
                rfl
              · have h6 : ¬ q.st = 0 := by simpa using h6
                repeat (first | (refine oR ?_; (conv => whnf)) | refine kOps ?_ | refine sR ?_ | refine qSeqN ?_ | refine sSkip ?_ | refine qBlkN ?_)
                refine ⟨by omega, ?_⟩
                repeat (first | (refine oR ?_; (conv => whnf)) | refine kOps ?_ | refine oNil ?_)
                exact qLoopN (s + 1) (.keep _ _ _ _ trivial ⟨rfl, rfl, rfl, congrArg eI (road_step h0 hT), trivial⟩ rfl rfl) ⟨h5, by rw [← hgo]; simp [h6]⟩ (by omega)
            · have h5 : roadIx T ky s = i := by simp at h5; omega
              have h5 : s = d := hiff.1 h5
              subst h5
              repeat (first | (refine oR ?_; (conv => whnf)) | refine kOps ?_ | refine oNil ?_ | refine sR ?_ | refine qSeqN ?_ | refine sExit ?_ | refine qSeqE ?_ | refine qBlkN ?_ | refine qX ?_ | refine qLoopE ?_)
              exact qLoopN (i + 1) .kp ⟨by omega, hgood (by rw [← hgo, List.drop_eq_nil_of_le (by simp)]; rfl)⟩ (by omega)
        · repeat (first | (refine oR ?_; (conv => whnf)) | refine kOps ?_ | (refine oG ?_; (conv => whnf)) | refine oNil ?_ | refine sSeq ?_ | refine sR ?_ | refine qSeqN ?_ | (refine sBF ?_; (conv => whnf)))
          refine oS rfl rfl rfl (fun h4 => ?_) (fun h4 => ?_)
          · rw [hbad (if_pos (.inr (.inr ⟨by simp, .inl (by simpa using h4)⟩)))]
            repeat (first | (refine oR ?_; (conv => whnf)) | refine kOps ?_ | (refine oG ?_; (conv => whnf)) | refine oH ?_ | refine oNil ?_ | refine sSeq ?_ | refine sR ?_ | refine qSeqN ?_ | refine sT ?_ | refine sRet ?_ | refine qSeqR ?_ | refine qBlkR ?_ | refine qLoopR ?_ | (refine sBT ?_; (conv => whnf)) | (refine sBF ?_; (conv => whnf)))
            refine qEnd ?_
            conv => whnf
            rfl
          · have h4 : ky = 0 := by simpa using h4
            repeat (first | (refine oR ?_; (conv => whnf)) | refine kOps ?_ | (refine oG ?_; (conv => whnf)) | refine oNil ?_ | refine qSeqN ?_ | (refine sBT ?_; (conv => whnf)) | (refine sBF ?_; (conv => whnf)))
            refine sC rfl (fun h5 => ?_) (fun h5 => ?_)
            · rw [hbad (if_pos (.inr (.inr ⟨by simp, .inr (by simpa using h5)⟩)))]
              repeat (first | (refine oR ?_; (conv => whnf)) | refine kOps ?_ | refine oNil ?_ | refine sSeq ?_ | refine sR ?_ | refine qSeqN ?_ | refine sRet ?_ | refine qSeqR ?_ | refine qBlkR ?_ | refine qLoopR ?_)
              refine qEnd ?_
              conv => whnf
              rfl
            · have h5 : vl = 0 := by simpa using h5
              repeat (first | (refine oR ?_; (conv => whnf)) | refine kOps ?_ | refine oNil ?_ | refine sSeq ?_ | refine sR ?_ | refine qSeqN ?_ | refine sSkip ?_ | refine sT ?_ | refine sExit ?_ | refine qSeqE ?_ | refine qX ?_)
              exact qLoopN (i + 1) .kp ⟨by omega, hgood (by rw [okR, if_neg (by simp [h4, h5]), if_pos (by simp)])⟩ (by omega)
      · have hge : T.length ≤ i := by have := dF h3; omega
        rw [List.drop_eq_nil_of_le hge] at hall
        rw [← hall]
        repeat (first | (refine oR ?_; (conv => whnf)) | refine kOps ?_ | refine oNil ?_ | refine sSeq ?_ | refine sR ?_ | refine qSeqN ?_ | refine sRet ?_ | refine sExit ?_ | refine qSeqE ?_ | refine qX ?_ | refine qLoopE ?_)
        refine qEnd ?_
        conv => whnf
        rfl
end Go.Proofs.Ytcmciimogcfakaa

/- Walks: Right. -/
set_option linter.unusedVariables false
set_option linter.unusedSimpArgs false
namespace Go.Proofs.Ytcmciimogcfakaa
open Go Go.RowKit

def sameKey (p q : Pl) : Bool := q.st == 1 && q.ky == p.ky














def idxGo (p : Pl) : List Pl → Nat → Int
  | [], _ => -1
  | q :: l, i => if sameKey p q then (i : Int) else idxGo p l (i + 1)
theorem idxGo_or (p : Pl) : ∀ (l : List Pl) (i : Nat), (l.any (sameKey p) = false ∧ idxGo p l i = -1) ∨ (l.any (sameKey p) = true ∧ 0 ≤ idxGo p l i)
  | [], i => .inl ⟨rfl, rfl⟩
  | q :: l, i => by
    unfold idxGo
    rw [List.any_cons]
    cases h : sameKey p q with
    | true => rw [if_pos rfl]; exact .inr ⟨rfl, by omega⟩
    | false =>
      rw [if_neg (by decide)]
      exact idxGo_or p l (i + 1)













































def okH (T : List Pl) (i : Nat) (p : Pl) : Bool :=
  if p.st = 1 then (if hFind T p.ky ≠ (i : Int) then false else !((T.take i).any (sameKey p))) else if p.st = 0 ∨ p.st = 2 then decide (p.ky = 0 ∧ p.vl = 0) else false
def hRight (T : List Pl) : Bool := if T.length < 1 ∨ 8 < T.length then false else allIx (okH T) T 0
















































































































end Go.Proofs.Ytcmciimogcfakaa

/- Plain: a table that is right. -/
set_option linter.unusedVariables false
set_option linter.unusedSimpArgs false
namespace Go.Proofs.Ytcmciimogcfakaa
open Go Go.RowKit

theorem allIx_iff (f : Nat → Pl → Bool) : ∀ (l : List Pl) (i : Nat), allIx f l i = true ↔ ∀ (m : Nat) (p : Pl), l[m]? = some p → f (i + m) p = true
  | [], i => by simp [allIx]
  | p :: l, i => by
    rw [allIx, Bool.and_eq_true, allIx_iff f l (i + 1)]
    constructor
    · rintro ⟨h1, h2⟩ m q hq
      cases m with
      | zero => simp at hq; subst hq; exact h1
      | succ m =>
        have := h2 m q (by simpa using hq)
        rwa [show i + 1 + m = i + (m + 1) by omega] at this
    · intro h
      refine ⟨h 0 p rfl, fun m q hq => ?_⟩
      have := h (m + 1) q (by simpa using hq)
      rwa [show i + (m + 1) = i + 1 + m by omega] at this
theorem roadOk_iff (T : List Pl) (k : Int) : ∀ (l : List Nat), roadOk T k l = true ↔ ∀ s ∈ l, (T[roadIx T k s]?.getD pl0).st ≠ 0
  | [] => by simp [roadOk]
  | s :: l => by
    rw [roadOk, Bool.and_eq_true, roadOk_iff T k l]
    simp
abbrev dst (T : List Pl) (k : Int) (i : Nat) : Nat := dist T.length (homeN T.length k) i
/-- A table that is right. -/
structure Rt (T : List Pl) : Prop where
  pos : 1 ≤ T.length
  le : T.length ≤ 8
  st : ∀ (i : Nat) (p : Pl), T[i]? = some p → p.st = 0 ∨ p.st = 1 ∨ p.st = 2
  z : ∀ (i : Nat) (p : Pl), T[i]? = some p → p.st ≠ 1 → p.ky = 0 ∧ p.vl = 0
  at_ : ∀ (i : Nat) (p : Pl), T[i]? = some p → p.st = 1 → findL T p.ky = (i : Int)
  road : ∀ (i : Nat) (p : Pl), T[i]? = some p → p.st = 1 → ∀ s, s < dst T p.ky i → (T[roadIx T p.ky s]?.getD pl0).st ≠ 0
theorem okR_iff (T : List Pl) (i : Nat) (p : Pl) : okR T i p = true ↔ (p.st = 0 ∨ p.st = 1 ∨ p.st = 2) ∧ (p.st ≠ 1 → p.ky = 0 ∧ p.vl = 0) ∧ (p.st = 1 → findL T p.ky = (i : Int) ∧ ∀ s, s < dst T p.ky i → (T[roadIx T p.ky s]?.getD pl0).st ≠ 0) := by
  unfold okR
  split
  · rename_i h
    simp only [Bool.false_eq_true, false_iff]
    rintro ⟨h1, h2, h3⟩
    rcases h with h | h | ⟨h, h'⟩
    · omega
    · omega
    · have := h2 h; omega
  · rename_i h
    split
    · rename_i h1
      simp only [true_iff]
      exact ⟨by omega, fun _ => by omega, fun h2 => absurd h2 h1⟩
    · rename_i h1
      have h1 : p.st = 1 := by omega
      split
      · rename_i h2
        simp only [Bool.false_eq_true, false_iff]
        rintro ⟨_, _, h3⟩
        exact h2 (h3 h1).1
      · rename_i h2
        rw [roadOk_iff]
        constructor
        · intro h3
          exact ⟨by omega, fun hn => absurd h1 hn, fun _ => ⟨by omega, fun s hs => h3 s (by simpa using hs)⟩⟩
        · rintro ⟨_, _, h3⟩ s hs
          exact (h3 h1).2 s (by simpa using hs)
theorem rightL_iff (T : List Pl) : rightL T = true ↔ Rt T := by
  unfold rightL
  split
  · rename_i h
    simp only [Bool.false_eq_true, false_iff]
    intro hr
    have := hr.pos; have := hr.le
    omega
  · rename_i h
    rw [allIx_iff]
    constructor
    · intro h'
      have key := fun i p hp => (okR_iff T i p).1 (by simpa using h' i p hp)
      exact ⟨by omega, by omega, fun i p hp => (key i p hp).1, fun i p hp => (key i p hp).2.1, fun i p hp hs => ((key i p hp).2.2 hs).1, fun i p hp hs => ((key i p hp).2.2 hs).2⟩
    · intro hr m p hp
      rw [Nat.zero_add]
      exact (okR_iff T m p).2 ⟨hr.st m p hp, hr.z m p hp, fun hs => ⟨hr.at_ m p hp hs, hr.road m p hp hs⟩⟩
theorem hGo_at (k : Int) : ∀ (l : List (Nat × Pl)) (d : Nat) (q : Nat × Pl), l[d]? = some q → q.2.full k → (∀ m, m < d → ∀ r, l[m]? = some r → r.2.st ≠ 0 ∧ ¬ r.2.full k) → hGo k l = (q.1 : Int)
  | [], d, q, h, _, _ => by simp at h
  | r :: l, 0, q, h, hf, _ => by
    simp at h
    subst h
    have hf' : r.2.st = 1 ∧ r.2.ky = k := hf
    unfold hGo
    rw [if_neg (by omega), if_pos hf']
  | r :: l, d + 1, q, h, hf, ha => by
    have h0 := ha 0 (by omega) r rfl
    unfold hGo
    rw [if_neg h0.1, if_neg (show ¬ (r.2.st = 1 ∧ r.2.ky = k) from h0.2)]
    exact hGo_at k l d q (by simpa using h) hf fun m hm r' hr => ha (m + 1) (by omega) r' (by simpa using hr)
theorem Rt.hT {T : List Pl} (h : Rt T) : T.length ≤ 1099511627776 := by have := h.le; omega
theorem Rt.uniq {T : List Pl} (h : Rt T) {i j : Nat} {p q : Pl} {k : Int} (hp : T[i]? = some p) (hq : T[j]? = some q) (h1 : p.full k) (h2 : q.full k) : i = j := by
  have a := h.at_ i p hp h1.1
  have b := h.at_ j q hq h2.1
  rw [h1.2] at a
  rw [h2.2, a] at b
  omega
theorem roadIx_dist {T : List Pl} (k : Int) {i : Nat} (hi : i < T.length) (hm : T.length ≤ 1099511627776) : roadIx T k (dst T k i) = i ∧ dst T k i < T.length ∧ ∀ s, s < dst T k i → roadIx T k s ≠ i := by
  have h0 : 0 < T.length := by omega
  have hh := (home_lt h0 hm k).2
  refine ⟨(dist_iff hh hi (Nat.le_refl _)).2 rfl, dist_lt h0, fun s hs he => ?_⟩
  exact absurd ((dist_iff hh hi (Nat.le_of_lt hs)).1 he) (Nat.ne_of_lt hs)
/-- Found by the road is found from the start. -/
theorem Rt.find {T : List Pl} (h : Rt T) (k : Int) : hFind T k = findL T k := by
  rcases findL_or T k with ⟨h1, h2⟩ | ⟨n, p, hp, hf, h3, h4⟩
  · rw [h1]
    rcases hFind_or T k with h' | ⟨n, p, hp, hf, _⟩
    · exact h'
    · exact absurd hf (h2 p (List.mem_of_getElem? hp))
  · rw [h3]
    have hn := lt_of_get hp
    obtain ⟨e1, e2, e3⟩ := roadIx_dist k hn h.hT
    obtain ⟨p', hp', hr⟩ := roadP_get (k := k) e2
    rw [e1] at hp' hr
    rw [hp] at hp'; cases hp'
    refine hGo_at k (roadP T k) (dst T k n) (n, p) hr hf fun m hm r hr' => ?_
    obtain ⟨q, hq, hr2⟩ := roadP_get (T := T) (k := k) (j := m) (by omega)
    rw [hr2] at hr'; cases hr'
    refine ⟨?_, fun hfq => e3 m hm (h.uniq hq hp hfq hf)⟩
    have := h.road n p hp hf.1 m (by rw [hf.2]; exact hm)
    rw [hf.2, hq] at this
    exact this
theorem Rt.slot {T : List Pl} (h : Rt T) (k : Int) : hSlot T k = slotL T k := by
  unfold hSlot slotL
  rw [h.find k]
  rcases findL_or T k with ⟨h1, _⟩ | ⟨n, p, _, _, h3, _⟩
  · rw [h1]; rfl
  · rw [h3, if_neg (by omega), if_neg (by omega)]
end Go.Proofs.Ytcmciimogcfakaa

/- Walks: right and shown of the tables' law. -/
set_option linter.unusedVariables false
set_option linter.unusedSimpArgs false
namespace Go.Proofs.Ytcmciimogcfakaa
open Go Go.RowKit





































theorem x_put {T : List Pl} {k v : Int} (T' : List Pl) (e : Int) (h : putAt T (hSlot T k) k v = (T', e)) (hT : T.length ≤ 1099511627776) : C Try.prog 43 [encT T, eI k, eI v] (.tup [encT T', eI e]) := by
  have := c_hput T k v hT
  rwa [h] at this
theorem x_get {T : List Pl} {k : Int} (v e : Int) (h : getAt T (hFind T k) = (v, e)) (hT : T.length ≤ 1099511627776) : C Try.prog 42 [encT T, eI k] (.tup [eI v, eI e]) := by
  have := c_hget T k hT
  rwa [h] at this
theorem x_drop {T : List Pl} {k : Int} (T' : List Pl) (v e : Int) (h : dropAt T (hFind T k) = (T', v, e)) (hT : T.length ≤ 1099511627776) : C Try.prog 41 [encT T, eI k] (.tup [encT T', eI v, eI e]) := by
  have := c_hdrop T k hT
  rwa [h] at this
theorem x_new {n : Int} (T' : List Pl) (h : newL n = T') : C Try.prog 13 [eI n] (encT T') := h ▸ c_hnew n

theorem x_home {n k : Int} (m : Int) (h : homeW n k = m) : C Try.prog 80 [eI n, eI k] (eI m) := h ▸ c_home1 n k
theorem x_find {T : List Pl} {k : Int} (m : Int) (h : hFind T k = m) (hT : T.length ≤ 1099511627776) : C Try.prog 63 [encT T, eI k] (eI m) := h ▸ c_hfind T k hT

abbrev sT0 : List Pl := [pl0, pl0, pl0, pl0, pl0, pl0, pl0, pl0]
abbrev sT1 : List Pl := [pl0, ⟨1, 0, 5⟩, pl0, pl0, pl0, pl0, pl0, pl0]
abbrev sT2 : List Pl := [pl0, ⟨1, 0, 5⟩, ⟨1, 8, 6⟩, pl0, pl0, pl0, pl0, pl0]
abbrev sT3 : List Pl := [pl0, ⟨1, 0, 5⟩, ⟨1, 8, 6⟩, pl0, pl0, pl0, ⟨1, 1, 7⟩, pl0]
abbrev sT4 : List Pl := [pl0, ⟨2, 0, 0⟩, ⟨1, 8, 6⟩, pl0, pl0, pl0, ⟨1, 1, 7⟩, pl0]
abbrev sT5 : List Pl := [pl0, ⟨1, 16, 9⟩, ⟨1, 8, 6⟩, pl0, pl0, pl0, ⟨1, 1, 7⟩, pl0]










































end Go.Proofs.Ytcmciimogcfakaa

/- Plain: what is put and dropped in a table that is right. -/
set_option linter.unusedVariables false
set_option linter.unusedSimpArgs false
namespace Go.Proofs.Ytcmciimogcfakaa
open Go Go.RowKit

theorem findL_eq {T : List Pl} {k : Int} {i : Nat} {p : Pl} (hp : T[i]? = some p) (hf : p.full k) (hb : ∀ (j : Nat) (q : Pl), j < i → T[j]? = some q → ¬ q.full k) : findL T k = (i : Int) := by
  rcases findL_or T k with ⟨_, h2⟩ | ⟨n, q, hq, hqf, h3, h4⟩
  · exact absurd hf (h2 p (List.mem_of_getElem? hp))
  · rw [h3]
    rcases Nat.lt_trichotomy n i with h | h | h
    · exact absurd hqf (hb n q h hq)
    · rw [h]
    · exact absurd hf (h4 i p h hp)
theorem findL_at {T : List Pl} {k : Int} {i : Nat} (h : findL T k = (i : Int)) : ∃ p, T[i]? = some p ∧ p.full k ∧ ∀ (j : Nat) (q : Pl), j < i → T[j]? = some q → ¬ q.full k := by
  rcases findL_or T k with ⟨h1, _⟩ | ⟨n, q, hq, hqf, h3, h4⟩
  · rw [h1] at h; omega
  · rw [h3] at h
    obtain rfl : n = i := by omega
    exact ⟨q, hq, hqf, h4⟩
theorem get_set {T : List Pl} {n : Nat} {r : Pl} (hn : n < T.length) (i : Nat) : (T.set n r)[i]? = if i = n then some r else T[i]? := by
  rw [List.getElem?_set]
  by_cases h : n = i
  · subst h; simp [hn]
  · rw [if_neg h, if_neg (fun h' => h h'.symm)]
theorem roadIx_set (T : List Pl) (n : Nat) (r : Pl) (k : Int) (s : Nat) : roadIx (T.set n r) k s = roadIx T k s := by simp [roadIx]
theorem dst_set (T : List Pl) (n : Nat) (r : Pl) (k : Int) (i : Nat) : dst (T.set n r) k i = dst T k i := by simp [dst]
/-- A place that is turned to Gone. -/
theorem Rt.gone {T : List Pl} (h : Rt T) {n : Nat} (hn : n < T.length) : Rt (T.set n ⟨2, 0, 0⟩) := by
  have hg := get_set (r := ⟨2, 0, 0⟩) hn
  refine ⟨by simpa using h.pos, by simpa using h.le, fun i p hp => ?_, fun i p hp hs => ?_, fun i p hp hs => ?_, fun i p hp hs s hlt => ?_⟩ <;> rw [hg] at hp
  · split at hp
    · cases hp; simp
    · exact h.st i p hp
  · split at hp
    · cases hp; simp
    · exact h.z i p hp hs
  · split at hp
    · cases hp; simp at hs
    · rename_i hin
      obtain ⟨q, hq, hqf, hb⟩ := findL_at (h.at_ i p hp hs)
      rw [hp] at hq; cases hq
      refine findL_eq (p := p) (by rw [hg, if_neg hin]; exact hp) hqf fun j q hj hq => ?_
      rw [hg] at hq
      split at hq
      · cases hq; simp [Pl.full]
      · exact hb j q hj hq
  · split at hp
    · cases hp; simp at hs
    · rw [roadIx_set, hg]
      rw [dst_set] at hlt
      split
      · simp
      · exact h.road i p hp hs s hlt
/-- A place that is turned to a full one: that of the key, or the first one that is not full on its road. -/
theorem Rt.full {T : List Pl} (h : Rt T) {n : Nat} {k v : Int} (hn : n < T.length) (hk : ∀ (j : Nat) (q : Pl), j ≠ n → T[j]? = some q → ¬ q.full k) (hr : ∀ s, s < dst T k n → (T[roadIx T k s]?.getD pl0).st ≠ 0) : Rt (T.set n ⟨1, k, v⟩) := by
  have hg := get_set (r := ⟨1, k, v⟩) hn
  refine ⟨by simpa using h.pos, by simpa using h.le, fun i p hp => ?_, fun i p hp hs => ?_, fun i p hp hs => ?_, fun i p hp hs s hlt => ?_⟩ <;> rw [hg] at hp
  · split at hp
    · cases hp; simp
    · exact h.st i p hp
  · split at hp
    · cases hp; simp at hs
    · exact h.z i p hp hs
  · split at hp
    · rename_i hin
      cases hp
      subst hin
      refine findL_eq (p := ⟨1, k, v⟩) (by rw [hg, if_pos rfl]) ⟨rfl, rfl⟩ fun j q hj hq => ?_
      rw [hg, if_neg (by omega)] at hq
      exact hk j q (by omega) hq
    · rename_i hin
      obtain ⟨q, hq, hqf, hb⟩ := findL_at (h.at_ i p hp hs)
      rw [hp] at hq; cases hq
      refine findL_eq (p := p) (by rw [hg, if_neg hin]; exact hp) hqf fun j q hj hq => ?_
      rw [hg] at hq
      split at hq
      · cases hq
        rintro ⟨_, hkk⟩
        exact hk i p hin hp ⟨hs, hkk.symm⟩
      · exact hb j q hj hq
  · rw [roadIx_set, hg]
    rw [dst_set] at hlt
    split
    · simp
    · split at hp
      · rename_i hin
        cases hp
        subst hin
        exact hr s hlt
      · exact h.road i p hp hs s hlt
abbrev putL (T : List Pl) (k v : Int) : List Pl × Int := putAt T (slotL T k) k v
abbrev dropL (T : List Pl) (k : Int) : List Pl × Int × Int := dropAt T (findL T k)
abbrev getL (T : List Pl) (k : Int) : Int × Int := getAt T (findL T k)
/-- The slot of a key, in a table that is right. -/
theorem Rt.slot_or {T : List Pl} (h : Rt T) (k : Int) : (slotL T k = -1 ∧ (∀ p ∈ T, ¬ p.full k) ∧ ∀ p ∈ T, p.st = 1) ∨ ∃ n, n < T.length ∧ slotL T k = (n : Int) ∧ (∀ (j : Nat) (q : Pl), j ≠ n → T[j]? = some q → ¬ q.full k) ∧ (∀ s, s < dst T k n → (T[roadIx T k s]?.getD pl0).st ≠ 0) ∧
    ((∃ p, T[n]? = some p ∧ p.full k) ∨ ((∀ p ∈ T, ¬ p.full k) ∧ ∃ p, T[n]? = some p ∧ p.st ≠ 1)) := by
  unfold slotL
  rcases findL_or T k with ⟨h1, h2⟩ | ⟨n, p, hp, hf, h3, h4⟩
  · rw [h1, if_pos (by decide)]
    rcases freeL_or T k with ⟨g1, g2⟩ | ⟨n, q, g1, g2, g3, g4, g5⟩
    · refine .inl ⟨g1, h2, fun p hp => ?_⟩
      obtain ⟨i, hi⟩ := List.mem_iff_getElem?.1 hp
      obtain ⟨e1, e2, _⟩ := roadIx_dist k (lt_of_get hi) h.hT
      obtain ⟨p', hp', hr⟩ := roadP_get (k := k) e2
      rw [e1, hi] at hp'; cases hp'
      exact g2 _ (List.mem_of_getElem? hr)
    · refine .inr ⟨q.1, lt_of_get g2, g4, fun j r _ hr => h2 r (List.mem_of_getElem? hr), fun s hs => ?_, .inr ⟨h2, q.2, g2, g3⟩⟩
      have hnl : n < T.length := by have := lt_of_get g1; simpa [roadP] using this
      obtain ⟨p', hp', hr⟩ := roadP_get (k := k) hnl
      rw [g1] at hr
      have e : roadIx T k n = q.1 := by cases hr; rfl
      have hsn : s < n := by
        obtain ⟨e1, e2, e3⟩ := roadIx_dist k (lt_of_get g2) h.hT
        rcases Nat.lt_or_ge s n with h | h
        · exact h
        · exact absurd e (e3 n (by omega))
      obtain ⟨r, hr1, hr2⟩ := roadP_get (T := T) (k := k) (j := s) (by omega)
      rw [hr1]
      have := g5 s _ hsn hr2
      simp only at this
      simp [this]
  · rw [h3, if_neg (by omega)]
    refine .inr ⟨n, lt_of_get hp, rfl, fun j q hj hq hqf => hj (h.uniq hq hp hqf hf), fun s hs => ?_, .inl ⟨p, hp, hf⟩⟩
    have := h.road n p hp hf.1 s (by rw [hf.2]; exact hs)
    rwa [hf.2] at this
theorem Rt.put {T : List Pl} (h : Rt T) (k v : Int) : Rt (putL T k v).1 := by
  unfold putL putAt
  rcases h.slot_or k with ⟨h1, _⟩ | ⟨n, hn, h1, h2, h3, _⟩
  · rw [h1, if_pos (by decide)]; exact h
  · rw [h1, if_neg (by omega)]
    exact h.full hn h2 h3
theorem Rt.drop {T : List Pl} (h : Rt T) (k : Int) : Rt (dropL T k).1 := by
  unfold dropL dropAt
  rcases findL_or T k with ⟨h1, _⟩ | ⟨n, p, hp, _, h3, _⟩
  · rw [h1, if_pos (by decide)]; exact h
  · rw [h3, if_neg (by omega)]
    exact h.gone (lt_of_get hp)
/-- The value of a key. -/
def look (T : List Pl) (k : Int) : Option Int := (T.find? fun p => decide (p.full k)).map (·.vl)
theorem look_none {T : List Pl} {k : Int} (h : ∀ p ∈ T, ¬ p.full k) : look T k = none := by
  unfold look
  rw [List.find?_eq_none.2 (by simpa using h)]
  rfl
theorem Rt.look_some {T : List Pl} (h : Rt T) {k : Int} {i : Nat} {p : Pl} (hp : T[i]? = some p) (hf : p.full k) : look T k = some p.vl := by
  unfold look
  cases hx : T.find? (fun p => decide (p.full k)) with
  | none =>
    rw [List.find?_eq_none] at hx
    exact absurd hf (by simpa using hx p (List.mem_of_getElem? hp))
  | some q =>
    have h1 := List.find?_some hx
    have h2 := List.mem_of_find?_eq_some hx
    obtain ⟨j, hj⟩ := List.mem_iff_getElem?.1 h2
    have := h.uniq hp hj hf (by simpa using h1)
    subst this
    rw [hp] at hj
    cases hj
    rfl
theorem Rt.get {T : List Pl} (h : Rt T) (k : Int) : getL T k = match look T k with | some v => (v, 0) | none => (0, 9) := by
  unfold getL getAt
  rcases findL_or T k with ⟨h1, h2⟩ | ⟨n, p, hp, hf, h3, _⟩
  · rw [h1, look_none h2]; rfl
  · rw [h3, h.look_some hp hf, if_neg (by omega)]
    simp [hp]
theorem Rt.look_iff {T : List Pl} (h : Rt T) (k v : Int) : look T k = some v ↔ ∃ (i : Nat) (p : Pl), T[i]? = some p ∧ p.full k ∧ p.vl = v := by
  constructor
  · intro hl
    unfold look at hl
    cases hx : T.find? (fun p => decide (p.full k)) with
    | none => rw [hx] at hl; cases hl
    | some q =>
      rw [hx] at hl
      have h1 := List.find?_some hx
      obtain ⟨j, hj⟩ := List.mem_iff_getElem?.1 (List.mem_of_find?_eq_some hx)
      exact ⟨j, q, hj, by simpa using h1, by simpa using hl⟩
  · rintro ⟨i, p, hp, hf, rfl⟩
    exact h.look_some hp hf
theorem opt_ext {a b : Option Int} (h : ∀ v, a = some v ↔ b = some v) : a = b := by
  cases a with
  | none =>
    cases b with
    | none => rfl
    | some v => exact absurd ((h v).2 rfl) (by simp)
  | some v => exact ((h v).1 rfl).symm
theorem Rt.look_set {T : List Pl} (h : Rt T) {n : Nat} {r : Pl} (hn : n < T.length) (h' : Rt (T.set n r)) {k' : Int} (hr : ¬ r.full k') (hq : ∀ q, T[n]? = some q → ¬ q.full k') : look (T.set n r) k' = look T k' := by
  refine opt_ext fun v => ?_
  rw [h.look_iff, h'.look_iff]
  have hg := get_set (r := r) hn
  constructor
  · rintro ⟨i, p, hp, hf, rfl⟩
    rw [hg] at hp
    split at hp
    · cases hp; exact absurd hf hr
    · exact ⟨i, p, hp, hf, rfl⟩
  · rintro ⟨i, p, hp, hf, rfl⟩
    refine ⟨i, p, ?_, hf, rfl⟩
    rw [hg, if_neg (fun he => ?_)]
    · exact hp
    · subst he; exact hq p hp hf
theorem Rt.look_put {T : List Pl} (h : Rt T) (k v k' : Int) (hs : (putL T k v).2 = 0) : look (putL T k v).1 k' = if k' = k then some v else look T k' := by
  have h' := h.put k v
  revert h' hs
  unfold putL putAt
  rcases h.slot_or k with ⟨h1, _⟩ | ⟨n, hn, h1, h2, h3, h4⟩
  · rw [h1, if_pos (by decide)]; intro hs; simp at hs
  · rw [h1, if_neg (by omega)]
    intro _ h'
    simp only [Int.toNat_natCast] at h' ⊢
    by_cases hk : k' = k
    · rw [if_pos hk]
      subst hk
      exact h'.look_some (i := n) (p := ⟨1, k', v⟩) (by rw [get_set hn, if_pos rfl]) ⟨rfl, rfl⟩
    · rw [if_neg hk]
      refine h.look_set hn h' (fun hf => hk hf.2.symm) fun q hq hqf => ?_
      rcases h4 with ⟨p, hp, hpf⟩ | ⟨_, p, hp, hps⟩
      · rw [hq] at hp; cases hp
        exact hk (hqf.2.symm.trans hpf.2)
      · rw [hq] at hp; cases hp
        exact hps hqf.1
theorem Rt.look_drop {T : List Pl} (h : Rt T) (k k' : Int) : look (dropL T k).1 k' = if k' = k then none else look T k' := by
  have h' := h.drop k
  revert h'
  unfold dropL dropAt
  rcases findL_or T k with ⟨h1, h2⟩ | ⟨n, p, hp, hpf, h3, _⟩
  · rw [h1, if_pos (by decide)]
    intro _
    split
    · rename_i hk; subst hk; exact look_none h2
    · rfl
  · rw [h3, if_neg (by omega)]
    intro h'
    simp only [Int.toNat_natCast] at h' ⊢
    by_cases hk : k' = k
    · rw [if_pos hk]
      subst hk
      refine look_none fun q hq hqf => ?_
      obtain ⟨j, hj⟩ := List.mem_iff_getElem?.1 hq
      rw [get_set (lt_of_get hp)] at hj
      split at hj
      · cases hj; simp [Pl.full] at hqf
      · rename_i hjn
        exact hjn (h.uniq hj hp hqf hpf)
    · rw [if_neg hk]
      refine h.look_set (lt_of_get hp) h' (fun hf => by simp [Pl.full] at hf) fun q hq hqf => ?_
      rw [hq] at hp; cases hp
      exact hk (hqf.2.symm.trans hpf.2)
theorem Rt.drop_vals {T : List Pl} (h : Rt T) (k : Int) : (dropL T k).2 = match look T k with | some v => (v, 0) | none => (0, 9) := by
  unfold dropL dropAt
  rcases findL_or T k with ⟨h1, h2⟩ | ⟨n, p, hp, hf, h3, _⟩
  · rw [h1, look_none h2]; rfl
  · rw [h3, h.look_some hp hf, if_neg (by omega)]
    simp [hp]
theorem Rt.drop_none {T : List Pl} (h : Rt T) {k : Int} (hl : look T k = none) : dropL T k = (T, 0, 9) := by
  unfold dropL dropAt
  rcases findL_or T k with ⟨h1, h2⟩ | ⟨n, p, hp, hf, h3, _⟩
  · rw [h1]; rfl
  · rw [h.look_some hp hf] at hl; cases hl
/-- How many stand in a table. -/
def cnt (T : List Pl) : Nat := T.countP fun p => p.st == 1
theorem keysL_len (T : List Pl) : (keysL T).length = cnt T := by
  unfold keysL cnt
  rw [List.length_map, List.countP_eq_length_filter]
theorem cnt_set {T : List Pl} {n : Nat} {q r : Pl} (hq : T[n]? = some q) : cnt (T.set n r) + (if q.st = 1 then 1 else 0) = cnt T + (if r.st = 1 then 1 else 0) := by
  obtain ⟨hn, rfl⟩ := List.getElem?_eq_some_iff.1 hq
  unfold cnt
  have e : T = T.take n ++ T[n] :: T.drop (n + 1) := by rw [← List.drop_eq_getElem_cons hn, List.take_append_drop]
  have e' : T.set n r = T.take n ++ r :: T.drop (n + 1) := by rw [List.set_eq_take_append_cons_drop, if_pos hn]
  rw [e']
  conv => rhs; rw [e]
  simp only [List.countP_append, List.countP_cons, beq_iff_eq]
  omega
theorem cnt_le (T : List Pl) : cnt T ≤ T.length := List.countP_le_length
theorem cnt_full {T : List Pl} : cnt T = T.length ↔ ∀ p ∈ T, p.st = 1 := by
  unfold cnt
  rw [List.countP_eq_length]
  simp
theorem putL_len (T : List Pl) (k v : Int) : (putL T k v).1.length = T.length := by
  unfold putL putAt
  split <;> simp
theorem dropL_len (T : List Pl) (k : Int) : (dropL T k).1.length = T.length := by
  unfold dropL dropAt
  split <;> simp
theorem Rt.put_ok {T : List Pl} (h : Rt T) (k v : Int) : ((putL T k v).2 = 0 ∧ ((look T k).isSome = true ∨ cnt T < T.length)) ∨ (putL T k v = (T, 8) ∧ look T k = none ∧ cnt T = T.length) := by
  unfold putL putAt
  rcases h.slot_or k with ⟨h1, h2, h3⟩ | ⟨n, hn, h1, _, _, h4⟩
  · rw [h1, if_pos (by decide)]
    exact .inr ⟨rfl, look_none h2, cnt_full.2 h3⟩
  · rw [h1, if_neg (by omega)]
    refine .inl ⟨rfl, ?_⟩
    rcases h4 with ⟨p, hp, hpf⟩ | ⟨_, p, hp, hps⟩
    · rw [h.look_some hp hpf]; exact .inl rfl
    · right
      have := cnt_le T
      have hne : cnt T ≠ T.length := fun he => hps (cnt_full.1 he p (List.mem_of_getElem? hp))
      omega
theorem Rt.put_cnt {T : List Pl} (h : Rt T) (k v : Int) (hs : (putL T k v).2 = 0) : cnt (putL T k v).1 = if (look T k).isSome then cnt T else cnt T + 1 := by
  revert hs
  unfold putL putAt
  rcases h.slot_or k with ⟨h1, _⟩ | ⟨n, hn, h1, h2, h3, h4⟩
  · rw [h1, if_pos (by decide)]; intro hs; simp at hs
  · rw [h1, if_neg (by omega)]
    intro _
    simp only [Int.toNat_natCast]
    rcases h4 with ⟨p, hp, hpf⟩ | ⟨ha, p, hp, hps⟩
    · rw [h.look_some hp hpf, if_pos (show (some p.vl).isSome = true from rfl)]
      have := cnt_set (r := ⟨1, k, v⟩) hp
      rw [if_pos hpf.1, if_pos rfl] at this
      omega
    · rw [look_none ha, if_neg (by simp)]
      have := cnt_set (r := ⟨1, k, v⟩) hp
      rw [if_neg hps, if_pos rfl] at this
      omega
theorem Rt.drop_cnt {T : List Pl} (h : Rt T) (k : Int) (hs : (look T k).isSome = true) : cnt (dropL T k).1 + 1 = cnt T := by
  unfold dropL dropAt
  rcases findL_or T k with ⟨h1, h2⟩ | ⟨n, p, hp, hpf, h3, _⟩
  · rw [look_none h2] at hs; cases hs
  · rw [h3, if_neg (by omega)]
    simp only [Int.toNat_natCast]
    have := cnt_set (r := ⟨2, 0, 0⟩) hp
    rw [if_pos hpf.1, if_neg (by decide)] at this
    omega
theorem look_key {T : List Pl} {k : Int} : (look T k).isSome = true ↔ k ∈ keysL T := by
  unfold look keysL
  rw [Option.isSome_map, List.find?_isSome]
  simp only [List.mem_map, List.mem_filter, decide_eq_true_eq, beq_iff_eq]
  unfold Pl.full
  constructor
  · rintro ⟨p, hp, h1, h2⟩; exact ⟨p, ⟨hp, h1⟩, h2⟩
  · rintro ⟨p, ⟨hp, h1⟩, h2⟩; exact ⟨p, hp, h1, h2⟩
theorem Rt.new {n : Nat} (h : 1 ≤ n) (h' : n ≤ 8) : Rt (List.replicate n pl0) := by
  have hg : ∀ (i : Nat) (p : Pl), (List.replicate n pl0)[i]? = some p → p = pl0 := fun i p hp => by
    have := List.mem_of_getElem? hp
    exact (List.mem_replicate.1 this).2
  refine ⟨by simpa using h, by simpa using h', fun i p hp => ?_, fun i p hp _ => ?_, fun i p hp hs => ?_, fun i p hp hs => ?_⟩ <;> (obtain rfl := hg i p hp)
  · exact .inl rfl
  · exact ⟨rfl, rfl⟩
  · simp at hs
  · simp at hs
theorem new_look (n : Nat) (k : Int) : look (List.replicate n pl0) k = none := by
  refine look_none fun p hp => ?_
  rw [(List.mem_replicate.1 hp).2]
  simp [Pl.full]
theorem new_cnt (n : Nat) : cnt (List.replicate n pl0) = 0 := by
  unfold cnt
  rw [List.countP_eq_zero]
  intro p hp
  rw [(List.mem_replicate.1 hp).2]
  simp
/-- Right by the road is right by the document. -/
theorem hGo_inv (k : Int) : ∀ (l : List (Nat × Pl)) (i : Nat), hGo k l = (i : Int) → ∃ (d : Nat) (q : Nat × Pl), l[d]? = some q ∧ q.1 = i ∧ q.2.full k ∧ ∀ (m : Nat), m < d → ∀ (r : Nat × Pl), l[m]? = some r → r.2.st ≠ 0 ∧ ¬ r.2.full k
  | [], i, h => by unfold hGo at h; omega
  | q :: l, i, h => by
    unfold hGo at h
    split at h
    · omega
    · rename_i h0
      split at h
      · rename_i h1
        exact ⟨0, q, rfl, by omega, h1, fun m hm => by omega⟩
      · rename_i h1
        obtain ⟨d, r, g1, g2, g3, g4⟩ := hGo_inv k l i h
        refine ⟨d + 1, r, by simpa using g1, g2, g3, fun m hm x hx => ?_⟩
        cases m with
        | zero => simp at hx; subst hx; exact ⟨h0, h1⟩
        | succ m => exact g4 m (by omega) x (by simpa using hx)
theorem hRight_eq (T : List Pl) : hRight T = rightL T := by
  rw [Bool.eq_iff_iff, rightL_iff]
  unfold hRight
  split
  · rename_i h
    simp only [Bool.false_eq_true, false_iff]
    intro hr
    have := hr.pos; have := hr.le
    omega
  · rename_i h
    rw [allIx_iff]
    have hT : T.length ≤ 1099511627776 := by omega
    have hany : ∀ (i : Nat) (p : Pl), (T.take i).any (sameKey p) = true ↔ ∃ j q, j < i ∧ T[j]? = some q ∧ q.full p.ky := fun i p => by
      rw [List.any_eq_true]
      constructor
      · rintro ⟨q, hq, hs⟩
        obtain ⟨j, hj⟩ := List.mem_iff_getElem?.1 hq
        rw [List.getElem?_take] at hj
        split at hj
        · exact ⟨j, q, by assumption, hj, by simpa [sameKey, Pl.full] using hs⟩
        · cases hj
      · rintro ⟨j, q, hj, hq, hf⟩
        refine ⟨q, List.mem_iff_getElem?.2 ⟨j, by rw [List.getElem?_take, if_pos hj]; exact hq⟩, by simpa [sameKey, Pl.full] using hf⟩
    constructor
    · intro ha
      have hok : ∀ (i : Nat) (p : Pl), T[i]? = some p → okH T i p = true := fun i p hp => by simpa using ha i p hp
      have h1 : ∀ (i : Nat) (p : Pl), T[i]? = some p → p.st = 1 → hFind T p.ky = (i : Int) ∧ ∀ (j : Nat) (q : Pl), j < i → T[j]? = some q → ¬ q.full p.ky := fun i p hp hs => by
        have := hok i p hp
        unfold okH at this
        rw [if_pos hs] at this
        split at this
        · cases this
        · rename_i hf
          refine ⟨by omega, fun j q hj hq hqf => ?_⟩
          rw [(hany i p).2 ⟨j, q, hj, hq, hqf⟩] at this
          cases this
      refine ⟨by omega, by omega, fun i p hp => ?_, fun i p hp hs => ?_, fun i p hp hs => ?_, fun i p hp hs s hlt => ?_⟩
      · have := hok i p hp
        unfold okH at this
        split at this
        · omega
        · split at this
          · omega
          · cases this
      · have := hok i p hp
        unfold okH at this
        rw [if_neg hs] at this
        split at this
        · simpa using this
        · cases this
      · exact findL_eq hp ⟨hs, rfl⟩ (h1 i p hp hs).2
      · obtain ⟨d, q, g1, g2, g3, g4⟩ := hGo_inv _ _ _ (h1 i p hp hs).1
        obtain ⟨e1, e2, e3⟩ := roadIx_dist p.ky (lt_of_get hp) hT
        have hdl : d < T.length := by have := lt_of_get g1; simpa [roadP] using this
        obtain ⟨r, hr1, hr2⟩ := roadP_get (T := T) (k := p.ky) (j := s) (by omega)
        rw [hr1]
        refine (g4 s ?_ _ hr2).1
        rcases Nat.lt_or_ge s d with h | h
        · exact h
        · obtain ⟨r', hr1', hr2'⟩ := roadP_get (T := T) (k := p.ky) (j := d) hdl
          rw [g1] at hr2'
          cases hr2'
          exact absurd g2 (e3 d (by omega))
    · intro hr i p hp
      rw [Nat.zero_add]
      unfold okH
      split
      · rename_i hs
        have h1 := hr.at_ i p hp hs
        rw [hr.find, if_neg (by omega)]
        obtain ⟨_, _, _, hb⟩ := findL_at h1
        cases hx : (T.take i).any (sameKey p) with
        | false => rfl
        | true =>
          obtain ⟨j, q, hj, hq, hf⟩ := (hany i p).1 hx
          exact absurd hf (hb j q hj hq)
      · rename_i hs
        have := hr.st i p hp
        rw [if_pos (by omega)]
        simpa using hr.z i p hp hs
end Go.Proofs.Ytcmciimogcfakaa

/- The laws HashActs, HashHomes, HashOthers. -/
set_option linter.unusedVariables false
set_option linter.unusedSimpArgs false
namespace Go.Proofs.Ytcmciimogcfakaa
open Go Go.RowKit

theorem r_find {T : List Pl} (h : Rt T) (k : Int) : C Try.prog 63 [encT T, eI k] (eI (findL T k)) := h.find k ▸ c_hfind T k h.hT
theorem r_get {T : List Pl} (h : Rt T) (k : Int) : C Try.prog 42 [encT T, eI k] (eGet (getL T k)) := by
  have := c_hget T k h.hT
  rwa [h.find k] at this
theorem r_put {T : List Pl} (h : Rt T) (k v : Int) : C Try.prog 43 [encT T, eI k, eI v] (ePut (putL T k v)) := by
  have := c_hput T k v h.hT
  rwa [h.slot k] at this
theorem r_drop {T : List Pl} (h : Rt T) (k : Int) : C Try.prog 41 [encT T, eI k] (eDrop (dropL T k)) := by
  have := c_hdrop T k h.hT
  rwa [h.find k] at this
theorem q_put {T T2 : List Pl} {k v e : Int} (h : Rt T) (hp : putL T k v = (T2, e)) : C Try.prog 43 [encT T, eI k, eI v] (.tup [encT T2, eI e]) := by
  have := r_put h k v
  rwa [hp] at this
theorem q_drop {T T2 : List Pl} {k v e : Int} (h : Rt T) (hp : dropL T k = (T2, v, e)) : C Try.prog 41 [encT T, eI k] (.tup [encT T2, eI v, eI e]) := by
  have := r_drop h k
  rwa [hp] at this
theorem q_get {T : List Pl} {k v e : Int} (h : Rt T) (hp : getL T k = (v, e)) : C Try.prog 42 [encT T, eI k] (.tup [eI v, eI e]) := by
  have := r_get h k
  rwa [hp] at this







































































theorem c_hnew_len (n : Int) : (newL n).length ≤ 1099511627776 := by
  unfold newL
  split
  · simp
  · rw [List.length_replicate]; omega


























































































end Go.Proofs.Ytcmciimogcfakaa

/- Walks: pairs of a table. -/
set_option linter.unusedVariables false
set_option linter.unusedSimpArgs false
namespace Go.Proofs.Ytcmciimogcfakaa
open Go Go.RowKit

abbrev Pr : Type := Int × Int
def Pl.pr (p : Pl) : Pr := (p.ky, p.vl)
def encP (q : Pr) : List AV := [eI q.1, eI q.2]
abbrev encQ (l : List Pr) : AV := .sl (l.map encP)
def fullT (T : List Pl) : List Pl := T.filter fun p => p.st == 1
def pairsL (T : List Pl) : List Pr := (fullT T).map Pl.pr
def prItems (T : List Pl) : List (List AV) := (pairsL T).map fun q => [.agg (encP q)]
theorem encP_get {l : List Pr} {i : Nat} {q : Pr} (h : l[i]? = some q) : (l.map encP)[i]? = some (encP q) := by rw [List.getElem?_map, h]; rfl
theorem pairsL_snoc {T : List Pl} {i : Nat} {p : Pl} (h : T[i]? = some p) : pairsL (T.take (i + 1)) = if p.st = 1 then pairsL (T.take i) ++ [p.pr] else pairsL (T.take i) := by
  obtain ⟨h1, rfl⟩ := List.getElem?_eq_some_iff.1 h
  rw [List.take_succ_eq_append_getElem h1]
  unfold pairsL fullT
  rw [List.filter_append, List.map_append]
  by_cases hs : T[i].st = 1 <;> simp [hs]
theorem pairsL_le (T : List Pl) : (pairsL T).length ≤ T.length := by
  unfold pairsL fullT
  rw [List.length_map]
  exact List.length_filter_le _ _
theorem pairsL_at {T : List Pl} {i : Nat} {p : Pl} (h : T[i]? = some p) (hs : p.st = 1) : (pairsL T)[(pairsL (T.take i)).length]? = some p.pr := by
  have e := pairsL_snoc h
  rw [if_pos hs] at e
  have : pairsL T = pairsL (T.take (i + 1)) ++ pairsL (T.drop (i + 1)) := by
    unfold pairsL fullT
    rw [← List.map_append, ← List.filter_append, List.take_append_drop]
  rw [this, e]
  simp
theorem c_pairs (T : List Pl) : C Try.prog 27 [encT T] (.fn 55 [.vptr [encT T]]) := by
  refine fnOk mixed tyOk Try.func27 (code := Try.f27.body.getD .skip) rfl rfl rfl (gC_in ?_)
  repeat (first | (refine oR ?_; (conv => whnf)) | refine kOps ?_ | refine oNil ?_ | refine sSeq ?_ | refine sR ?_ | refine qSeqN ?_ | refine sRet ?_)
  refine qEnd ?_
  conv => whnf
  rfl
theorem it_pairs (T : List Pl) (hT : T.length ≤ 1099511627776) : IT Try.prog 55 [.vptr [encT T]] (prItems T) := by
  refine itOk mixed tyOk Try.func55 (code := Try.f55.body.getD .skip) rfl rfl rfl rfl (gC_in ?_)
  have hlen : (T.map Pl.enc).length = T.length := List.length_map _
  repeat (first | (refine oR ?_; (conv => whnf)) | refine kOps ?_ | refine oNil ?_ | refine sSeq ?_ | refine sR ?_ | refine qSeqN ?_ | refine sBlk ?_)
  refine sLoop (fun i => i ≤ T.length) (fun i => ⟨tl [(0, .yld), (5, encT T), (6, eI T.length), (7, eI (i : Int))], Ll [], 25, 0, [], some (pairsL (T.take i)).length⟩) (fun i => T.length - i) 0
    (.keep _ _ _ _ trivial ⟨rfl, rfl, congrArg (fun n : Nat => eI n) hlen, rfl, trivial⟩ rfl rfl) (Nat.zero_le _) fun i hi => ?_
  repeat (first | (refine oR ?_; (conv => whnf)) | refine kOps ?_ | refine oNil ?_ | refine sSeq ?_ | refine sR ?_ | refine qSeqN ?_)
  refine sC rfl (fun h1 => ?_) (fun h1 => ?_)
  · have hlt : i < T.length := by have := dT h1; omega
    obtain ⟨p, hp⟩ : ∃ p, T[i]? = some p := ⟨_, List.getElem?_eq_getElem hlt⟩
    have hk := pairsL_snoc hp
    repeat (first | (refine oR ?_; (conv => whnf)) | refine sSeq ?_ | refine sR ?_ | refine qSeqN ?_ | refine sSkip ?_ | refine sBlk ?_)
    refine ⟨i, _, rfl, enc_get hp, ?_⟩
    conv => whnf
    repeat (first | (refine oR ?_; (conv => whnf)) | refine kOps ?_ | refine oNil ?_ | refine sSeq ?_ | refine sR ?_ | refine qSeqN ?_)
    refine oS rfl rfl rfl (fun h2 => ?_) (fun h2 => ?_)
    · have h2 : p.st = 1 := by simpa using h2
      rw [if_pos h2] at hk
      have hitem : (prItems T)[(pairsL (T.take i)).length]? = some [.agg (encP p.pr)] := by
        unfold prItems
        rw [List.getElem?_map, pairsL_at hp h2]; rfl
      have hy : (pairsL (T.take (i + 1))).length = (pairsL (T.take i)).length + 1 := by rw [hk]; simp
      repeat (first | refine kOps ?_ | (refine oG ?_; (conv => whnf)))
      refine oYield rfl (.inr ⟨_, _, _, rfl, rfl, rfl⟩) rfl rfl rfl («as» := [.agg (encP p.pr)]) rfl ?_
      refine ⟨_, _, rfl, hitem, rfl, rfl, kY ?_, kY ?_⟩
      · repeat (first | (refine oR ?_; (conv => whnf)) | refine kOps ?_ | (refine oG ?_; (conv => whnf)) | refine oNil ?_ | refine sR ?_ | refine qSeqN ?_ | refine sSkip ?_ | refine sF ?_ | refine qBlkN ?_ | (refine sBT ?_; (conv => whnf)))
        refine qLoopN (i + 1) ?_ (show i + 1 ≤ T.length by omega) (by omega)
        simp only [hy]
        exact .kp
      · repeat (first | (refine oR ?_; (conv => whnf)) | refine kOps ?_ | (refine oG ?_; (conv => whnf)) | refine oNil ?_ | refine qSeqN ?_ | refine sT ?_ | refine sRet ?_ | refine qSeqR ?_ | refine qBlkR ?_ | refine qLoopR ?_ | (refine sBT ?_; (conv => whnf)))
        exact qIt (.inr rfl)
    · have h2 : ¬ p.st = 1 := by simpa using h2
      rw [if_neg h2] at hk
      repeat (first | (refine oR ?_; (conv => whnf)) | refine kOps ?_ | refine oH ?_ | refine oNil ?_ | refine sR ?_ | refine qSeqN ?_ | refine sSkip ?_ | refine sF ?_ | refine qBlkN ?_ | (refine sBF ?_; (conv => whnf)))
      refine qLoopN (i + 1) ?_ (show i + 1 ≤ T.length by omega) (by omega)
      simp only [hk]
      exact .kp
  · have hge : T.length ≤ i := by have := dF h1; omega
    repeat (first | refine sExit ?_ | refine qSeqE ?_ | refine qX ?_ | refine qLoopE ?_)
    refine qItN (.inl ?_)
    show some (pairsL (T.take i)).length = some (prItems T).length
    rw [List.take_of_length_le hge]
    simp [prItems]
theorem c_prs1 (q : Pr) : C Try.prog 28 [.agg (encP q)] (.tup [.agg (encP q), .bool true]) := by
  refine fnOk mixed tyOk Try.func28 (code := Try.f28.body.getD .skip) rfl rfl rfl (gC_in ?_)
  repeat (first | (refine oR ?_; (conv => whnf)) | refine kOps ?_ | refine oNil ?_ | refine sSeq ?_ | refine sR ?_ | refine qSeqN ?_ | refine sRet ?_)
  refine qEnd ?_
  conv => whnf
  rfl
def owns (h : Int) (q : Pr) : Bool := h != 0 && q.2 == h












theorem c_gatherP (T : List Pl) (hT : T.length ≤ 1099511627776) : C Try.prog 26 [.fn 55 [.vptr [encT T]], .fn 28 []] (encQ (pairsL T)) := by
  refine fnOk mixed tyOk Try.func26 (code := Try.f26.body.getD .skip) rfl rfl rfl (gC_in ?_)
  have hle := pairsL_le T
  repeat (first | (refine oR ?_; (conv => whnf)) | refine kOps ?_ | refine oNil ?_ | refine sSeq ?_ | refine sR ?_ | refine qSeqN ?_ | refine sBlk ?_)
  refine forIn rfl rfl (it_pairs T hT) (fun i => ⟨tl [(3, .ptr 0 0 0), (4, .ptr 1 0 0)], Ll [(0, .box 63 [.fn 28 []]), (1, .box 33 [.rowf 2]), (2, .rows 37 2 (((pairsL T).take i).map encP))], 22, 3, [], none⟩) (fun _ => True)
    (.trans (.adoptB 1 2 33 37 2 rfl rfl (by decide)) .kp) trivial (fun i z hi hz => ?_) (fun hn => ?_)
  · obtain ⟨q, hq, rfl⟩ := get_map hz
    have hlt := lt_of_get hq
    refine ⟨rfl, rfl, ?_⟩
    repeat (first | (refine oR ?_; (conv => whnf)) | refine kOps ?_ | refine oNil ?_ | refine sR ?_)
    refine qAs ?_
    repeat (first | (refine oR ?_; (conv => whnf)) | refine kOps ?_ | refine sSeq ?_ | refine sR ?_ | refine sBlk ?_)
    (refine oCall rfl (.inl rfl) rfl rfl rfl (.fz [] _) rfl ⟨rfl, c_prs1 q, ?_⟩; (conv => whnf))
    repeat (first | (refine oR ?_; (conv => whnf)) | refine kOps ?_ | refine oNil ?_ | refine sSeq ?_ | refine sR ?_ | refine qSeqN ?_ | refine sT ?_)
    refine ⟨by simp [oneC], roomR (by simp; omega), ?_⟩
    repeat (first | (refine oR ?_; (conv => whnf)) | refine kOps ?_ | refine oNil ?_ | refine qBlkN ?_)
    refine qRndN (.keep _ _ _ _ ⟨rfl, rfl, congrArg (Blk.rows 37 2) ?_, trivial⟩ ⟨rfl, rfl, trivial⟩ rfl rfl) trivial
    obtain ⟨h1, h2⟩ := List.getElem?_eq_some_iff.1 hq
    rw [List.take_succ_eq_append_getElem h1, h2]
    simp [encP]
  · repeat (first | (refine oR ?_; (conv => whnf)) | refine kOps ?_ | refine oNil ?_ | refine sSeq ?_ | refine sR ?_ | refine qSeqN ?_ | refine sRet ?_ | refine qBlkN ?_)
    refine qEnd ?_
    conv => whnf
    rw [List.take_of_length_le (by simp [prItems])]
    rfl
theorem c_prs (T : List Pl) (hT : T.length ≤ 1099511627776) : C Try.prog 9 [encT T] (encQ (pairsL T)) := by
  refine fnOk mixed tyOk Try.func9 (code := Try.f9.body.getD .skip) rfl rfl rfl (gC_in ?_)
  repeat (first | (refine oR ?_; (conv => whnf)) | refine kOps ?_ | refine oNil ?_ | refine sSeq ?_ | refine sR ?_ | refine qSeqN ?_)
  (refine oCall rfl (.inl rfl) rfl rfl rfl (.fz [] _) rfl ⟨rfl, c_pairs T, ?_⟩; (conv => whnf))
  repeat refine kOps ?_
  (refine oCall rfl (.inl rfl) rfl rfl rfl (.fz [] _) rfl ⟨rfl, c_gatherP T hT, ?_⟩; (conv => whnf))
  repeat (first | (refine oR ?_; (conv => whnf)) | refine kOps ?_ | refine oNil ?_ | refine qSeqN ?_ | refine sRet ?_)
  refine qEnd ?_
  conv => whnf
  rfl
def ownedL (T : List Pl) (h : Int) : Nat := (pairsL T).countP (owns h)










































end Go.Proofs.Ytcmciimogcfakaa

/- Plain: puts and drops by what they leave; maps. -/
set_option linter.unusedVariables false
set_option linter.unusedSimpArgs false
namespace Go.Proofs.Ytcmciimogcfakaa
open Go Go.RowKit

theorem Rt.put_ex {T : List Pl} (h : Rt T) (k v : Int) (hs : (look T k).isSome = true ∨ cnt T < T.length) : ∃ T2, putL T k v = (T2, 0) ∧ Rt T2 ∧ T2.length = T.length ∧ (∀ y, look T2 y = if y = k then some v else look T y) ∧ cnt T2 = if (look T k).isSome then cnt T else cnt T + 1 := by
  have h1 : (putL T k v).2 = 0 := by
    rcases h.put_ok k v with ⟨h1, _⟩ | ⟨_, h2, h3⟩
    · exact h1
    · rw [h2] at hs; simp at hs; omega
  exact ⟨(putL T k v).1, by rw [← h1], h.put k v, putL_len T k v, fun y => h.look_put k v y h1, h.put_cnt k v h1⟩
theorem Rt.put_no {T : List Pl} (h : Rt T) (k v : Int) (h1 : look T k = none) (h2 : T.length ≤ cnt T) : putL T k v = (T, 8) := by
  rcases h.put_ok k v with ⟨_, h3⟩ | ⟨h3, _⟩
  · rw [h1] at h3; simp at h3; omega
  · exact h3
theorem Rt.drop_ex {T : List Pl} (h : Rt T) {k v : Int} (hl : look T k = some v) : ∃ T2, dropL T k = (T2, v, 0) ∧ Rt T2 ∧ T2.length = T.length ∧ (∀ y, look T2 y = if y = k then none else look T y) ∧ cnt T2 + 1 = cnt T := by
  have h1 := h.drop_vals k
  rw [hl] at h1
  have h1 : (dropL T k).2 = (v, 0) := h1
  exact ⟨(dropL T k).1, by rw [← h1], h.drop k, dropL_len T k, h.look_drop k, h.drop_cnt k (by rw [hl]; rfl)⟩
theorem Rt.get_some {T : List Pl} (h : Rt T) {k v : Int} (hl : look T k = some v) : getL T k = (v, 0) := by rw [h.get, hl]
theorem Rt.get_none {T : List Pl} (h : Rt T) {k : Int} (hl : look T k = none) : getL T k = (0, 9) := by rw [h.get, hl]
-- sets
def eS (M : List Int) : List (Int × AV) := M.map fun k => (k, .bool true)
theorem eS_get (M : List Int) (n : Int) : mapGet (eS M) n = if n ∈ M then some (.bool true) else none := by
  unfold mapGet eS
  induction M with
  | nil => rfl
  | cons m M ih =>
    rw [List.map_cons, List.find?_cons]
    by_cases h : m = n
    · subst h; simp
    · rw [show (m == n) = false by simpa using h]
      simp only []
      rw [ih]
      have : n ≠ m := fun he => h he.symm
      simp [this]
def sAdd (M : List Int) (n : Int) : List Int := if n ∈ M then M else M ++ [n]
theorem eS_set (M : List Int) (n : Int) : mapSet (eS M) n (.bool true) = eS (sAdd M n) := by
  unfold eS sAdd
  induction M with
  | nil => rfl
  | cons m M ih =>
    rw [List.map_cons, mapSet]
    by_cases h : m = n
    · subst h; simp
    · rw [if_neg h, ih]
      have : n ≠ m := fun he => h he.symm
      by_cases hn : n ∈ M <;> simp [this, hn]
theorem eS_len (M : List Int) : (eS M).length = M.length := List.length_map _
-- maps
def eM (M : List (Int × Int)) : List (Int × AV) := M.map fun q => (q.1, .int .i64 q.2)
def mLook (M : List (Int × Int)) (k : Int) : Option Int := (M.find? fun q => q.1 == k).map (·.2)
theorem eM_get (M : List (Int × Int)) (n : Int) : mapGet (eM M) n = (mLook M n).map (AV.int .i64) := by
  unfold mapGet eM mLook
  induction M with
  | nil => rfl
  | cons m M ih =>
    rw [List.map_cons, List.find?_cons, List.find?_cons]
    cases h : m.1 == n with
    | true => rfl
    | false => exact ih
theorem eM_len (M : List (Int × Int)) : (eM M).length = M.length := List.length_map _
def mSet : List (Int × Int) → Int → Int → List (Int × Int)
  | [], n, v => [(n, v)]
  | p :: l, n, v => if p.1 = n then (n, v) :: l else p :: mSet l n v
def mDel : List (Int × Int) → Int → List (Int × Int)
  | [], _ => []
  | p :: l, n => if p.1 = n then l else p :: mDel l n
theorem eM_set (M : List (Int × Int)) (n v : Int) : mapSet (eM M) n (.int .i64 v) = eM (mSet M n v) := by
  unfold eM
  induction M with
  | nil => rfl
  | cons m M ih =>
    rw [List.map_cons, mapSet, mSet]
    by_cases h : m.1 = n
    · rw [if_pos h, if_pos h]; rfl
    · rw [if_neg h, if_neg h, ih]; rfl
theorem eM_del (M : List (Int × Int)) (n : Int) : mapDel (eM M) n = eM (mDel M n) := by
  unfold eM
  induction M with
  | nil => rfl
  | cons m M ih =>
    rw [List.map_cons, mapDel, mDel]
    by_cases h : m.1 = n
    · rw [if_pos h, if_pos h]
    · rw [if_neg h, if_neg h, ih]; rfl
theorem mLook_cons (p : Int × Int) (M : List (Int × Int)) (k : Int) : mLook (p :: M) k = if p.1 = k then some p.2 else mLook M k := by
  unfold mLook
  rw [List.find?_cons]
  by_cases h : p.1 = k
  · rw [if_pos h, show (p.1 == k) = true by simpa using h]; rfl
  · rw [if_neg h, show (p.1 == k) = false by simpa using h]
theorem mLook_set (M : List (Int × Int)) (n v k : Int) : mLook (mSet M n v) k = if k = n then some v else mLook M k := by
  induction M with
  | nil =>
    rw [mSet, mLook_cons]
    by_cases h : k = n
    · subst h; simp
    · rw [if_neg (fun he => h he.symm), if_neg h]
  | cons p M ih =>
    rw [mSet]
    by_cases hp : p.1 = n
    · rw [if_pos hp, mLook_cons, mLook_cons]
      by_cases h : k = n
      · subst h; simp
      · rw [if_neg (fun he => h he.symm), if_neg h, if_neg (fun he => h (he.symm.trans hp))]
    · rw [if_neg hp, mLook_cons, mLook_cons, ih]
      by_cases h : k = n
      · subst h; rw [if_neg hp, if_pos rfl, if_pos rfl]
      · rw [if_neg h, if_neg h]
theorem mSet_len (M : List (Int × Int)) (n v : Int) : (mSet M n v).length = if (mLook M n).isSome then M.length else M.length + 1 := by
  induction M with
  | nil => rfl
  | cons p M ih =>
    rw [mSet, mLook_cons]
    by_cases hp : p.1 = n
    · rw [if_pos hp, if_pos hp]; rfl
    · rw [if_neg hp, if_neg hp, List.length_cons, ih, List.length_cons]
      split <;> rfl
abbrev mKeys (M : List (Int × Int)) : List Int := M.map (·.1)
theorem mLook_none {M : List (Int × Int)} {k : Int} : mLook M k = none ↔ k ∉ mKeys M := by
  induction M with
  | nil => simp [mLook]
  | cons p M ih =>
    rw [mLook_cons]
    by_cases hp : p.1 = k
    · rw [if_pos hp]; simp [hp]
    · rw [if_neg hp, ih, show mKeys (p :: M) = p.1 :: mKeys M from rfl, List.mem_cons]
      exact ⟨fun h h' => h'.elim (fun he => hp he.symm) h, fun h h' => h (.inr h')⟩
theorem mSet_keys {M : List (Int × Int)} {n v k : Int} (h : k ∈ mKeys (mSet M n v)) : k = n ∨ k ∈ mKeys M := by
  induction M with
  | nil => simp [mSet] at h; exact .inl h
  | cons p M ih =>
    rw [mSet] at h
    by_cases hp : p.1 = n
    · rw [if_pos hp] at h
      simp at h
      rcases h with h | ⟨x, h⟩
      · exact .inl h
      · exact .inr (by simp; exact .inr ⟨x, h⟩)
    · rw [if_neg hp] at h
      rcases List.mem_cons.1 h with h | h
      · exact .inr (by rw [h]; simp)
      · exact (ih h).imp (fun h => h) fun h => List.mem_cons_of_mem _ h
theorem mSet_nodup {M : List (Int × Int)} (h : (mKeys M).Nodup) (n v : Int) : (mKeys (mSet M n v)).Nodup := by
  induction M with
  | nil => simp [mSet]
  | cons p M ih =>
    have h' := List.nodup_cons.1 h
    rw [mSet]
    by_cases hp : p.1 = n
    · rw [if_pos hp]
      refine List.nodup_cons.2 ⟨?_, h'.2⟩
      show n ∉ mKeys M
      rw [← hp]; exact h'.1
    · rw [if_neg hp]
      refine List.nodup_cons.2 ⟨fun hm => ?_, ih h'.2⟩
      rcases mSet_keys hm with h1 | h1
      · exact hp h1
      · exact h'.1 h1
theorem mDel_keys {M : List (Int × Int)} {n k : Int} (h : k ∈ mKeys (mDel M n)) : k ∈ mKeys M := by
  induction M with
  | nil => exact h
  | cons p M ih =>
    rw [mDel] at h
    by_cases hp : p.1 = n
    · rw [if_pos hp] at h; exact List.mem_cons_of_mem _ h
    · rw [if_neg hp] at h
      rcases List.mem_cons.1 h with h | h
      · rw [h]; simp
      · exact List.mem_cons_of_mem _ (ih h)
theorem mDel_nodup {M : List (Int × Int)} (h : (mKeys M).Nodup) (n : Int) : (mKeys (mDel M n)).Nodup := by
  induction M with
  | nil => exact h
  | cons p M ih =>
    have h' := List.nodup_cons.1 h
    rw [mDel]
    by_cases hp : p.1 = n
    · rw [if_pos hp]; exact h'.2
    · rw [if_neg hp]
      exact List.nodup_cons.2 ⟨fun hm => h'.1 (mDel_keys hm), ih h'.2⟩
theorem mLook_del {M : List (Int × Int)} (h : (mKeys M).Nodup) (n k : Int) : mLook (mDel M n) k = if k = n then none else mLook M k := by
  induction M with
  | nil => simp [mDel, mLook]
  | cons p M ih =>
    have h' := List.nodup_cons.1 h
    rw [mDel]
    by_cases hp : p.1 = n
    · rw [if_pos hp, mLook_cons]
      by_cases hk : k = n
      · rw [if_pos hk, mLook_none, hk, ← hp]; exact h'.1
      · rw [if_neg hk, if_neg (fun he => hk (he.symm.trans hp))]
    · rw [if_neg hp, mLook_cons, mLook_cons, ih h'.2]
      by_cases hk : k = n
      · rw [if_pos hk, if_pos hk, if_neg (fun he => hp (he.trans hk))]
      · rw [if_neg hk, if_neg hk]
theorem mDel_len (M : List (Int × Int)) (n : Int) : (mDel M n).length = if (mLook M n).isSome then M.length - 1 else M.length := by
  induction M with
  | nil => rfl
  | cons p M ih =>
    rw [mDel, mLook_cons]
    by_cases hp : p.1 = n
    · rw [if_pos hp, if_pos hp]; rfl
    · rw [if_neg hp, if_neg hp, List.length_cons, ih, List.length_cons]
      split
      · rename_i hs
        have : M ≠ [] := fun he => by subst he; simp [mLook] at hs
        have := List.length_pos_iff.2 this
        omega
      · rfl
end Go.Proofs.Ytcmciimogcfakaa

/- Walks: Set, Get, Without, by the program and by the document; pairs by the document. -/
set_option linter.unusedVariables false
set_option linter.unusedSimpArgs false
namespace Go.Proofs.Ytcmciimogcfakaa
open Go Go.RowKit

theorem pairsL_keys (T : List Pl) : keysL T = (pairsL T).map (·.1) := by
  unfold keysL pairsL fullT
  rw [List.map_map]
  rfl
theorem Rt.look_pair {T : List Pl} (h : Rt T) {q : Pr} (hq : q ∈ pairsL T) : look T q.1 = some q.2 := by
  unfold pairsL fullT at hq
  obtain ⟨p, hp, rfl⟩ := List.mem_map.1 hq
  obtain ⟨h1, h2⟩ := List.mem_filter.1 hp
  obtain ⟨i, hi⟩ := List.mem_iff_getElem?.1 h1
  exact h.look_some hi ⟨by simpa using h2, rfl⟩
theorem Rt.get_pair {T : List Pl} (h : Rt T) {q : Pr} (hq : q ∈ pairsL T) : getL T q.1 = (q.2, 0) := h.get_some (h.look_pair hq)














def setL (T : List Pl) (k v : Int) : List Pl × Int × Int :=
  if k = 0 then (T, 0, 2) else if v = 0 then ((dropL T k).1, (getL T k).1, 0) else if (putL T k v).2 = 0 then ((putL T k v).1, (getL T k).1, 0) else (T, 0, 8)
theorem drop_old (T : List Pl) (k : Int) : (dropL T k).2.1 = (getL T k).1 := by
  unfold dropL getL dropAt getAt
  split <;> rfl
theorem Rt.put_2 {T : List Pl} (h : Rt T) (k v : Int) : (putL T k v).2 = 0 ∨ putL T k v = (T, 8) := by
  rcases h.put_ok k v with ⟨h1, _⟩ | ⟨h1, _⟩
  · exact .inl h1
  · exact .inr h1
theorem c_eset (T : List Pl) (k v : Int) (h : Rt T) : C Try.prog 23 [encT T, eI k, eI v] (eDrop (setL T k v)) := by
  refine fnOk mixed tyOk Try.func23 (code := Try.f23.body.getD .skip) rfl rfl rfl (gC_in ?_)
  repeat (first | (refine oR ?_; (conv => whnf)) | refine kOps ?_ | refine oNil ?_ | refine sSeq ?_ | refine sR ?_ | refine qSeqN ?_)
  refine sC rfl (fun h1 => ?_) (fun h1 => ?_)
  · have h1 : k = 0 := by simpa using h1
    rw [setL, if_pos h1]
    repeat (first | (refine oR ?_; (conv => whnf)) | refine kOps ?_ | refine oNil ?_ | refine sSeq ?_ | refine sR ?_ | refine qSeqN ?_ | refine sRet ?_ | refine qSeqR ?_)
    refine qEnd ?_
    conv => whnf
    rfl
  · have h1 : ¬ k = 0 := by simpa using h1
    rw [setL, if_neg h1]
    repeat (first | (refine oR ?_; (conv => whnf)) | refine kOps ?_ | refine oNil ?_ | refine sSeq ?_ | refine sR ?_ | refine qSeqN ?_ | refine sSkip ?_)
    refine sC rfl (fun h2 => ?_) (fun h2 => ?_)
    · have h2 : v = 0 := by simpa using h2
      rw [if_pos h2, ← drop_old]
      repeat (first | (refine oR ?_; (conv => whnf)) | refine kOps ?_ | refine sSeq ?_ | refine sR ?_)
      (refine oCall rfl (.inl rfl) rfl rfl rfl (.fz [] _) rfl ⟨rfl, r_drop h k, ?_⟩; (conv => whnf))
      repeat (first | (refine oR ?_; (conv => whnf)) | refine kOps ?_ | refine oNil ?_ | refine sSeq ?_ | refine sR ?_ | refine qSeqN ?_ | refine sRet ?_ | refine qSeqR ?_)
      refine qEnd ?_
      conv => whnf
      rfl
    · have h2 : ¬ v = 0 := by simpa using h2
      rw [if_neg h2]
      repeat (first | (refine oR ?_; (conv => whnf)) | refine kOps ?_ | refine sSeq ?_ | refine sR ?_ | refine qSeqN ?_ | refine sSkip ?_)
      (refine oCall rfl (.inl rfl) rfl rfl rfl (.fz [] _) rfl ⟨rfl, r_get h k, ?_⟩; (conv => whnf))
      repeat (first | (refine oR ?_; (conv => whnf)) | refine kOps ?_ | refine oNil ?_ | refine sSeq ?_ | refine sR ?_ | refine qSeqN ?_)
      have hp := r_put h k v
      rcases h.put_2 k v with h3 | h3
      · rw [if_pos h3]
        rw [show ePut (putL T k v) = .tup [encT (putL T k v).1, eI 0] by rw [← h3]] at hp
        (refine oCall rfl (.inl rfl) rfl rfl rfl (.fz [] _) rfl ⟨rfl, hp, ?_⟩; (conv => whnf))
        repeat (first | (refine oR ?_; (conv => whnf)) | refine kOps ?_ | refine oNil ?_ | refine sSeq ?_ | refine sR ?_ | refine qSeqN ?_ | refine sSkip ?_ | refine sF ?_ | refine sRet ?_)
        refine qEnd ?_
        conv => whnf
        rfl
      · rw [h3, if_neg (by simp)]
        rw [h3] at hp
        (refine oCall rfl (.inl rfl) rfl rfl rfl (.fz [] _) rfl ⟨rfl, hp, ?_⟩; (conv => whnf))
        repeat (first | (refine oR ?_; (conv => whnf)) | refine kOps ?_ | refine oNil ?_ | refine sSeq ?_ | refine sR ?_ | refine qSeqN ?_ | refine sT ?_ | refine sRet ?_)
        refine qEnd ?_
        conv => whnf
        rfl







































/-- Without some keys. -/
def woGo : List Int → List Pl → List Int → List Pl × List Int
  | [], T, o => (T, o)
  | k :: l, T, o => match look T k with
    | some v => woGo l (dropL T k).1 (o ++ [v])
    | none => woGo l T o
abbrev eWo (r : List Pl × List Int) : AV := .tup [encT r.1, encI r.2]
theorem rI_app (l : List Int) (n : Int) : rI (l ++ [n]) = rI l ++ [[eI n]] := by simp [rI]











































































































































theorem cntP_snoc {l : List Pr} {f : Pr → Bool} {i : Nat} {q : Pr} (h : l[i]? = some q) : (l.take (i + 1)).countP f = if f q then (l.take i).countP f + 1 else (l.take i).countP f := by
  obtain ⟨h1, rfl⟩ := List.getElem?_eq_some_iff.1 h
  rw [List.take_succ_eq_append_getElem h1, List.countP_append, List.countP_singleton]
  split <;> rfl




































def timesL (l : List Int) (v : Int) : Nat := l.countP fun x => v != 0 && x == v
theorem cntI_snoc {l : List Int} {f : Int → Bool} {i : Nat} {q : Int} (h : l[i]? = some q) : (l.take (i + 1)).countP f = if f q then (l.take i).countP f + 1 else (l.take i).countP f := by
  obtain ⟨h1, rfl⟩ := List.getElem?_eq_some_iff.1 h
  rw [List.take_succ_eq_append_getElem h1, List.countP_append, List.countP_singleton]
  split <;> rfl
theorem c_times (l : List Int) (v : Int) (hl : l.length ≤ 1099511627776) : C Try.prog 10 [encI l, eI v] (eI (timesL l v)) := by
  refine fnOk mixed tyOk Try.func10 (code := Try.f10.body.getD .skip) rfl rfl rfl (gC_in ?_)
  repeat (first | (refine oR ?_; (conv => whnf)) | refine kOps ?_ | refine oNil ?_ | refine sSeq ?_ | refine sR ?_ | refine qSeqN ?_ | refine sBlk ?_)
  refine sLoop (fun i => i ≤ l.length) (fun i => ⟨tl [(0, encI l), (1, eI v), (5, eI ((timesL (l.take i) v : Nat) : Int)), (6, eI (i : Int))], Ll [], 26, 0, [], none⟩) (fun i => l.length - i) 0 .kp (Nat.zero_le _) fun i hi => ?_
  repeat (first | (refine oR ?_; (conv => whnf)) | refine kOps ?_ | refine oNil ?_ | refine sSeq ?_ | refine sR ?_ | refine qSeqN ?_)
  refine sC rfl (fun h1 => ?_) (fun h1 => ?_)
  · have hlt : i < l.length := by have := dT h1; simpa using this
    obtain ⟨q, hq⟩ := get_lt hlt
    have hs : timesL (l.take (i + 1)) v = if (v != 0 && q == v) = true then timesL (l.take i) v + 1 else timesL (l.take i) v := cntI_snoc hq
    have hcl : timesL (l.take i) v ≤ i := Nat.le_trans List.countP_le_length (List.length_take_le _ _)
    have hw : W (((timesL (l.take i) v : Nat) : Int) + 1) = ((timesL (l.take i) v + 1 : Nat) : Int) := wrapS (m := 1099511627776) (by omega) (by omega)
    repeat (first | (refine oR ?_; (conv => whnf)) | refine kOps ?_ | refine sSeq ?_ | refine sR ?_ | refine qSeqN ?_ | refine sSkip ?_ | refine sBlk ?_)
    refine ⟨i, _, rfl, encI_get hq, ?_⟩
    conv => whnf
    repeat (first | (refine oR ?_; (conv => whnf)) | refine kOps ?_)
    refine oS rfl rfl rfl (fun h2 => ?_) (fun h2 => ?_)
    · repeat (first | (refine oR ?_; (conv => whnf)) | refine kOps ?_ | (refine oG ?_; (conv => whnf)) | refine oNil ?_ | refine qSeqN ?_ | (refine sBT ?_; (conv => whnf)))
      refine sC rfl (fun h3 => ?_) (fun h3 => ?_)
      · rw [if_pos (by simp at h2 h3; simp [h2, h3])] at hs
        repeat (first | (refine oR ?_; (conv => whnf)) | refine kOps ?_ | refine oNil ?_ | refine sR ?_ | refine qSeqN ?_ | refine qBlkN ?_)
        exact qLoopN (i + 1) (.keep _ _ _ _ trivial ⟨rfl, rfl, by rw [hs]; exact congrArg eI hw, congrArg eI (wrapS hlt hl), trivial⟩ rfl rfl) hlt (by omega)
      · rw [if_neg (by simp at h2 h3; simp [h3])] at hs
        repeat (first | (refine oR ?_; (conv => whnf)) | refine kOps ?_ | refine oNil ?_ | refine sR ?_ | refine qSeqN ?_ | refine sSkip ?_ | refine qBlkN ?_)
        exact qLoopN (i + 1) (.keep _ _ _ _ trivial ⟨rfl, rfl, by rw [hs]; rfl, congrArg eI (wrapS hlt hl), trivial⟩ rfl rfl) hlt (by omega)
    · rw [if_neg (by simp at h2; simp [h2])] at hs
      repeat (first | (refine oR ?_; (conv => whnf)) | refine kOps ?_ | refine oH ?_ | refine oNil ?_ | refine sR ?_ | refine qSeqN ?_ | refine sSkip ?_ | refine sF ?_ | refine qBlkN ?_ | (refine sBF ?_; (conv => whnf)))
      exact qLoopN (i + 1) (.keep _ _ _ _ trivial ⟨rfl, rfl, by rw [hs]; rfl, congrArg eI (wrapS hlt hl), trivial⟩ rfl rfl) hlt (by omega)
  · have hge : l.length ≤ i := by have := dF h1; simpa using this
    repeat (first | (refine oR ?_; (conv => whnf)) | refine kOps ?_ | refine oNil ?_ | refine sSeq ?_ | refine sR ?_ | refine qSeqN ?_ | refine sRet ?_ | refine sExit ?_ | refine qSeqE ?_ | refine qX ?_ | refine qLoopE ?_)
    refine qEnd ?_
    conv => whnf
    rw [List.take_of_length_le hge]
    rfl












































end Go.Proofs.Ytcmciimogcfakaa

/- Stores: what they are; handles. -/
set_option linter.unusedVariables false
set_option linter.unusedSimpArgs false
namespace Go.Proofs.Ytcmciimogcfakaa
open Go Go.RowKit

structure Ob where
  se : Int
  sg : Int
  wk : Int
  pr : Int
  sd : Bool
  fl : List Int
structure Ce where
  st : Int
  gn : Int
  ob : Ob
def Ob.enc (o : Ob) : List AV := [eI o.se, eI o.sg, eI o.wk, eI o.pr, .bool o.sd, encI o.fl]
def Ce.enc (c : Ce) : List AV := [eI c.st, eI c.gn, eI c.ob.se, eI c.ob.sg, eI c.ob.wk, eI c.ob.pr, .bool c.ob.sd, encI c.ob.fl]
abbrev encC (l : List Ce) : AV := .sl (l.map Ce.enc)
structure Sto where
  cs : List Ce
  la : Int
  sr : Int
/-- A store; a slab. -/
abbrev eT (S : Sto) : AV := .agg [encC S.cs, eI S.la, eI S.sr]
abbrev eB (S : Sto) : AV := .agg [encC S.cs, eI S.la]
abbrev ob0 : Ob := ⟨0, 0, 0, 0, false, []⟩
abbrev ce0 : Ce := ⟨0, 0, ob0⟩
theorem encC_get {l : List Ce} {i : Nat} {c : Ce} (h : l[i]? = some c) : (l.map Ce.enc)[i]? = some c.enc := by rw [List.getElem?_map, h]; rfl

/-- A handle. -/
def pk (i g : Int) : Int := 1 + i + 32 * g
theorem within_eq {n m : Int} (hn : -9223372036854775808 ≤ n ∧ n < 9223372036854775808) (hm : 0 ≤ m ∧ m < 9223372036854775808) : decide (IntKind.u64.wrap n ≤ IntKind.u64.wrap m) = decide (0 ≤ n ∧ n ≤ m) := by
  have h1 : IntKind.u64.wrap n = n % 18446744073709551616 := by simp [IntKind.wrap, IntKind.bits, IntKind.signed]
  have h2 : IntKind.u64.wrap m = m % 18446744073709551616 := by simp [IntKind.wrap, IntKind.bits, IntKind.signed]
  rw [h1, h2]
  refine decide_eq_decide.2 ⟨fun h => ?_, fun h => ?_⟩ <;> omega
theorem c_within (n m : Int) (hn : -9223372036854775808 ≤ n ∧ n < 9223372036854775808) (hm : 0 ≤ m ∧ m < 9223372036854775808) : C Try.prog 77 [eI n, eI m] (.bool (decide (0 ≤ n ∧ n ≤ m))) := by
  refine fnOk mixed tyOk Try.func77 (code := Try.f77.body.getD .skip) rfl rfl rfl (gC_in ?_)
  rw [← within_eq hn hm]
  repeat (first | (refine oR ?_; (conv => whnf)) | refine kOps ?_ | refine oNil ?_ | refine sSeq ?_ | refine sR ?_ | refine qSeqN ?_ | refine sRet ?_)
  refine qEnd ?_
  conv => whnf
  rfl
theorem or_pk : ∀ i < 24, ∀ g < 10, IntKind.i64.wrap ((BitVec.ofInt IntKind.i64.bits (IntKind.i64.wrap ((g : Nat) * 2 ^ 5)) ||| BitVec.ofInt IntKind.i64.bits ((i : Nat) : Int)).toNat : Int) = ((i + 32 * g : Nat) : Int) := by decide +kernel
theorem c_pack (i g : Int) (hi : 0 ≤ i ∧ i < 24) (hg : 0 ≤ g ∧ g ≤ 9) : C Try.prog 62 [eI i, eI g] (eI (pk i g)) := by
  refine fnOk mixed tyOk Try.func62 (code := Try.f62.body.getD .skip) rfl rfl rfl (gC_in ?_)
  have h1 := c_within i 23 (by omega) (by omega)
  have h2 := c_within g 9 (by omega) (by omega)
  rw [decide_eq_true (by omega)] at h1 h2
  repeat (first | (refine oR ?_; (conv => whnf)) | refine kOps ?_ | refine oNil ?_ | refine sSeq ?_ | refine sR ?_ | refine qSeqN ?_)
  (refine oCall rfl (.inl rfl) rfl rfl rfl (.fz [] _) rfl ⟨rfl, h1, ?_⟩; (conv => whnf))
  repeat (first | (refine oR ?_; (conv => whnf)) | refine kOps ?_ | (refine oG ?_; (conv => whnf)))
  (refine oCall rfl (.inr ⟨_, _, _, rfl, rfl, rfl⟩) rfl rfl rfl (.fz [] _) rfl ⟨rfl, h2, ?_⟩; (conv => whnf))
  repeat (first | (refine oR ?_; (conv => whnf)) | refine kOps ?_ | (refine oG ?_; (conv => whnf)) | refine oNil ?_ | refine sSeq ?_ | refine sR ?_ | refine qSeqN ?_ | refine sSkip ?_ | refine sF ?_ | (refine sBF ?_; (conv => whnf)))
  refine ⟨by decide, ?_⟩
  repeat (first | (refine oR ?_; (conv => whnf)) | refine kOps ?_ | refine oNil ?_ | refine qSeqN ?_ | refine sRet ?_)
  refine qEnd ?_
  conv => whnf
  obtain ⟨i, rfl⟩ := Int.eq_ofNat_of_zero_le hi.1
  obtain ⟨g, rfl⟩ := Int.eq_ofNat_of_zero_le hg.1
  have := or_pk i (by omega) g (by omega)
  have e : IntKind.i64.wrap (1 + IntKind.i64.wrap ((BitVec.ofInt IntKind.i64.bits (IntKind.i64.wrap ((g : Nat) * 2 ^ 5)) ||| BitVec.ofInt IntKind.i64.bits ((i : Nat) : Int)).toNat : Int)) = pk i g := by
    rw [this, wrapI (by omega) (by omega), pk]
    omega
  exact congrArg eI e
theorem c_nan (n : Int) : C Try.prog 83 [eI n] (.bool false) := by
  refine fnOk mixed tyOk Try.func83 (code := Try.f83.body.getD .skip) rfl rfl rfl (gC_in ?_)
  repeat (first | (refine oR ?_; (conv => whnf)) | refine kOps ?_ | refine oNil ?_ | refine sSeq ?_ | refine sR ?_ | refine qSeqN ?_ | refine sRet ?_)
  refine qEnd ?_
  conv => whnf
  exact congrArg AV.bool (by simp)
def cmpI (x y : Int) : Int := if x < y then -1 else if x > y then 1 else 0
theorem c_cmp (x y : Int) : C Try.prog 69 [eI x, eI y] (eI (cmpI x y)) := by
  refine fnOk mixed tyOk Try.func69 (code := Try.f69.body.getD .skip) rfl rfl rfl (gC_in ?_)
  repeat (first | (refine oR ?_; (conv => whnf)) | refine kOps ?_ | refine oNil ?_ | refine sSeq ?_ | refine sR ?_ | refine qSeqN ?_)
  (refine oCall rfl (.inl rfl) rfl rfl rfl (.fz [] _) rfl ⟨rfl, c_nan x, ?_⟩; (conv => whnf))
  repeat (first | (refine oR ?_; (conv => whnf)) | refine kOps ?_ | refine oNil ?_ | refine sSeq ?_ | refine sR ?_ | refine qSeqN ?_)
  (refine oCall rfl (.inl rfl) rfl rfl rfl (.fz [] _) rfl ⟨rfl, c_nan y, ?_⟩; (conv => whnf))
  repeat (first | (refine oR ?_; (conv => whnf)) | refine kOps ?_ | refine oNil ?_ | refine sSeq ?_ | refine sR ?_ | refine qSeqN ?_ | refine sSkip ?_ | refine sF ?_)
  refine sC rfl (fun h1 => ?_) (fun h1 => ?_)
  · rw [cmpI, if_pos (dT h1)]
    repeat (first | (refine oR ?_; (conv => whnf)) | refine kOps ?_ | refine oNil ?_ | refine sSeq ?_ | refine sR ?_ | refine qSeqN ?_ | refine sRet ?_ | refine qSeqR ?_)
    refine qEnd ?_
    conv => whnf
    rfl
  · repeat (first | (refine oR ?_; (conv => whnf)) | refine kOps ?_ | refine oNil ?_ | refine sSeq ?_ | refine sR ?_ | refine qSeqN ?_ | refine sSkip ?_)
    refine sC rfl (fun h2 => ?_) (fun h2 => ?_)
    · rw [cmpI, if_neg (dF h1), if_pos (dT h2)]
      repeat (first | (refine oR ?_; (conv => whnf)) | refine kOps ?_ | refine oNil ?_ | refine sSeq ?_ | refine sR ?_ | refine qSeqN ?_ | refine sRet ?_ | refine qSeqR ?_)
      refine qEnd ?_
      conv => whnf
      rfl
    · rw [cmpI, if_neg (dF h1), if_neg (dF h2)]
      repeat (first | (refine oR ?_; (conv => whnf)) | refine kOps ?_ | refine oNil ?_ | refine sSeq ?_ | refine sR ?_ | refine qSeqN ?_ | refine sSkip ?_ | refine sRet ?_)
      refine qEnd ?_
      conv => whnf
      rfl
/-- The document's handle. -/
def pkW (i g : Int) : Int := if i < 0 ∨ 23 < i ∨ g < 0 ∨ 9 < g then 0 else pk i g




































/-- The document's parts of a handle. -/
def vlW (h : Int) : Bool := !(decide (h < 1) || decide (400 < h)) && pkW ((h - 1).tmod 32) ((h - 1).tdiv 32) == h
def slW (h : Int) : Int := if vlW h = true then (h - 1).tmod 32 else -1
def geW (h : Int) : Int := if vlW h = true then (h - 1).tdiv 32 else -1











































































end Go.Proofs.Ytcmciimogcfakaa

/- Slabs: who stands in a state; Find, Get. -/
set_option linter.unusedVariables false
set_option linter.unusedSimpArgs false
namespace Go.Proofs.Ytcmciimogcfakaa
open Go Go.RowKit

/-- Where a state stands. -/
def inIx (st : Int) : List Ce → Nat → List Nat
  | [], _ => []
  | c :: l, i => if c.st = st then i :: inIx st l (i + 1) else inIx st l (i + 1)
def inItems (cs : List Ce) (st : Int) : List (List AV) := (inIx st cs 0).map fun i : Nat => [eI (i : Int)]
theorem inIx_append (st : Int) : ∀ (a b : List Ce) (i : Nat), inIx st (a ++ b) i = inIx st a i ++ inIx st b (i + a.length)
  | [], b, i => by simp [inIx]
  | c :: a, b, i => by
    simp only [List.cons_append, inIx, inIx_append st a b (i + 1), List.length_cons]
    rw [show i + 1 + a.length = i + (a.length + 1) by omega]
    split <;> rfl
theorem inIx_snoc {st : Int} {cs : List Ce} {i : Nat} {c : Ce} (h : cs[i]? = some c) : inIx st (cs.take (i + 1)) 0 = if c.st = st then inIx st (cs.take i) 0 ++ [i] else inIx st (cs.take i) 0 := by
  obtain ⟨h1, rfl⟩ := List.getElem?_eq_some_iff.1 h
  rw [List.take_succ_eq_append_getElem h1, inIx_append]
  have : (cs.take i).length = i := by rw [List.length_take]; omega
  rw [this, Nat.zero_add]
  simp only [inIx]
  split <;> simp
theorem inIx_mem {st : Int} {i : Nat} : ∀ {cs : List Ce} {k : Nat}, i ∈ inIx st cs k ↔ k ≤ i ∧ ∃ c, cs[i - k]? = some c ∧ c.st = st
  | [], k => by simp [inIx]
  | c :: cs, k => by
    have ih := inIx_mem (st := st) (i := i) (cs := cs) (k := k + 1)
    have key : (k + 1 ≤ i ∧ ∃ c, cs[i - (k + 1)]? = some c ∧ c.st = st) ↔ (k < i ∧ ∃ c', (c :: cs)[i - k]? = some c' ∧ c'.st = st) := by
      refine ⟨fun ⟨h1, h2⟩ => ⟨h1, ?_⟩, fun ⟨h1, h2⟩ => ⟨h1, ?_⟩⟩ <;> (rw [show i - k = (i - (k + 1)) + 1 by omega, List.getElem?_cons_succ] at *; exact h2)
    unfold inIx
    split
    · rename_i hs
      rw [List.mem_cons, ih, key]
      refine ⟨fun h => ?_, fun ⟨h1, h2⟩ => ?_⟩
      · rcases h with rfl | ⟨h1, h2⟩
        · exact ⟨Nat.le_refl _, c, by simp, hs⟩
        · exact ⟨by omega, h2⟩
      · rcases Nat.lt_or_ge k i with h | h
        · exact .inr ⟨h, h2⟩
        · exact .inl (by omega)
    · rename_i hs
      rw [ih, key]
      refine ⟨fun ⟨h1, h2⟩ => ⟨by omega, h2⟩, fun ⟨h1, h2⟩ => ⟨?_, h2⟩⟩
      rcases Nat.lt_or_ge k i with h | h
      · exact h
      · obtain ⟨c', hc, hs'⟩ := h2
        rw [show i - k = 0 by omega] at hc
        simp at hc
        exact absurd (hc ▸ hs') hs
theorem inIx_at {st : Int} {cs : List Ce} {i : Nat} {c : Ce} (h : cs[i]? = some c) (hs : c.st = st) : (inIx st cs 0)[(inIx st (cs.take i) 0).length]? = some i := by
  have e := inIx_snoc (st := st) h
  rw [if_pos hs] at e
  have : inIx st cs 0 = inIx st (cs.take (i + 1)) 0 ++ inIx st (cs.drop (i + 1)) (0 + (cs.take (i + 1)).length) := by
    rw [← inIx_append, List.take_append_drop]
  rw [this, e]
  simp
theorem c_in (S : Sto) (st : Int) : C Try.prog 59 [eB S, eI st] (.fn 75 [.vptr [encC S.cs, eI S.la], .vptr [eI st]]) := by
  refine fnOk mixed tyOk Try.func59 (code := Try.f59.body.getD .skip) rfl rfl rfl (gC_in ?_)
  repeat (first | (refine oR ?_; (conv => whnf)) | refine kOps ?_ | refine oNil ?_ | refine sSeq ?_ | refine sR ?_ | refine qSeqN ?_ | refine sRet ?_)
  refine qEnd ?_
  conv => whnf
  rfl
theorem it_in (S : Sto) (st : Int) (hT : S.cs.length ≤ 1099511627776) : IT Try.prog 75 [.vptr [encC S.cs, eI S.la], .vptr [eI st]] (inItems S.cs st) := by
  refine itOk mixed tyOk Try.func75 (code := Try.f75.body.getD .skip) rfl rfl rfl rfl (gC_in ?_)
  obtain ⟨cs, la, sr⟩ := S
  have hlen : (cs.map Ce.enc).length = cs.length := List.length_map _
  repeat (first | (refine oR ?_; (conv => whnf)) | refine kOps ?_ | refine oNil ?_ | refine sSeq ?_ | refine sR ?_ | refine qSeqN ?_ | refine sBlk ?_)
  refine sLoop (fun i => i ≤ cs.length) (fun i => ⟨tl [(0, .yld), (2, .vptr [eI st]), (7, encC cs), (8, eI cs.length), (9, eI (i : Int))], Ll [], 25, 0, [], some (inIx st (cs.take i) 0).length⟩) (fun i => cs.length - i) 0
    (.keep _ _ _ _ trivial ⟨rfl, rfl, rfl, congrArg (fun n : Nat => eI n) hlen, rfl, trivial⟩ rfl rfl) (Nat.zero_le _) fun i hi => ?_
  repeat (first | (refine oR ?_; (conv => whnf)) | refine kOps ?_ | refine oNil ?_ | refine sSeq ?_ | refine sR ?_ | refine qSeqN ?_)
  refine sC rfl (fun h1 => ?_) (fun h1 => ?_)
  · have hlt : i < cs.length := by have := dT h1; omega
    obtain ⟨c, hc⟩ : ∃ c, cs[i]? = some c := ⟨_, List.getElem?_eq_getElem hlt⟩
    have hk := inIx_snoc (st := st) hc
    repeat (first | (refine oR ?_; (conv => whnf)) | refine kOps ?_ | refine sSeq ?_ | refine sR ?_ | refine qSeqN ?_ | refine sSkip ?_ | refine sBlk ?_)
    refine ⟨i, _, rfl, encC_get hc, ?_⟩
    conv => whnf
    repeat (first | (refine oR ?_; (conv => whnf)) | refine kOps ?_ | refine oNil ?_ | refine sSeq ?_ | refine sR ?_ | refine qSeqN ?_)
    refine oS rfl rfl rfl (fun h2 => ?_) (fun h2 => ?_)
    · have h2 : c.st = st := by simpa using h2
      rw [if_pos h2] at hk
      have hitem : (inItems cs st)[(inIx st (cs.take i) 0).length]? = some [eI (i : Int)] := by
        unfold inItems
        rw [List.getElem?_map, inIx_at hc h2]; rfl
      have hy : (inIx st (cs.take (i + 1)) 0).length = (inIx st (cs.take i) 0).length + 1 := by rw [hk]; simp
      repeat (first | refine kOps ?_ | (refine oG ?_; (conv => whnf)))
      refine oYield rfl (.inr ⟨_, _, _, rfl, rfl, rfl⟩) rfl rfl rfl («as» := [eI (i : Int)]) rfl ?_
      refine ⟨_, _, rfl, hitem, rfl, rfl, kY ?_, kY ?_⟩
      · repeat (first | (refine oR ?_; (conv => whnf)) | refine kOps ?_ | (refine oG ?_; (conv => whnf)) | refine oNil ?_ | refine sR ?_ | refine qSeqN ?_ | refine sSkip ?_ | refine sF ?_ | refine qBlkN ?_ | (refine sBT ?_; (conv => whnf)))
        refine qLoopN (i + 1) ?_ (show i + 1 ≤ cs.length by omega) (by omega)
        simp only [hy]
        exact .kp
      · repeat (first | (refine oR ?_; (conv => whnf)) | refine kOps ?_ | (refine oG ?_; (conv => whnf)) | refine oNil ?_ | refine qSeqN ?_ | refine sT ?_ | refine sRet ?_ | refine qSeqR ?_ | refine qBlkR ?_ | refine qLoopR ?_ | (refine sBT ?_; (conv => whnf)))
        exact qIt (.inr rfl)
    · have h2 : ¬ c.st = st := by simpa using h2
      rw [if_neg h2] at hk
      repeat (first | (refine oR ?_; (conv => whnf)) | refine kOps ?_ | refine oH ?_ | refine oNil ?_ | refine sR ?_ | refine qSeqN ?_ | refine sSkip ?_ | refine sF ?_ | refine qBlkN ?_ | (refine sBF ?_; (conv => whnf)))
      refine qLoopN (i + 1) ?_ (show i + 1 ≤ cs.length by omega) (by omega)
      simp only [hk]
      exact .kp
  · have hge : cs.length ≤ i := by have := dF h1; omega
    repeat (first | refine sExit ?_ | refine qSeqE ?_ | refine qX ?_ | refine qLoopE ?_)
    refine qItN (.inl ?_)
    show some (inIx st (cs.take i) 0).length = some (inItems cs st).length
    rw [List.take_of_length_le hge]
    simp [inItems]
end Go.Proofs.Ytcmciimogcfakaa

/- Slabs: Find, Get. -/
set_option linter.unusedVariables false
set_option linter.unusedSimpArgs false
namespace Go.Proofs.Ytcmciimogcfakaa
open Go Go.RowKit

/-- A store that is right, as far as the walks need it. -/
structure Rs (cs : List Ce) : Prop where
  hl : cs.length ≤ 24
  gn : ∀ c ∈ cs, 0 ≤ c.gn ∧ c.gn ≤ 9
  fl : ∀ c ∈ cs, c.ob.fl.length ≤ 4
theorem Rs.at {cs : List Ce} (h : Rs cs) {i : Nat} {c : Ce} (hc : cs[i]? = some c) : (0 ≤ (i : Int) ∧ (i : Int) < 24) ∧ 0 ≤ c.gn ∧ c.gn ≤ 9 := by
  have hi := lt_of_get hc
  have := h.hl
  exact ⟨by omega, h.gn c (List.mem_of_getElem? hc)⟩
def gAt (cs : List Ce) (i : Nat) : Int := (cs[i]?.getD ce0).gn
def sAt (cs : List Ce) (i : Nat) : Int := (cs[i]?.getD ce0).st
theorem gAt_of {cs : List Ce} {i : Nat} {c : Ce} (h : cs[i]? = some c) : gAt cs i = c.gn := by simp [gAt, h]
theorem sAt_of {cs : List Ce} {i : Nat} {c : Ce} (h : cs[i]? = some c) : sAt cs i = c.st := by simp [sAt, h]
def seekGo (cs : List Ce) (h : Int) : List Nat → Option Nat
  | [] => none
  | i :: l => if pk i (gAt cs i) = h then some i else seekGo cs h l
def seek (cs : List Ce) (st h : Int) : Option Nat := seekGo cs h (inIx st cs 0)
def findH (cs : List Ce) (h : Int) : Option Nat := if h = 0 then none else match seek cs 1 h with | some i => some i | none => seek cs 2 h
theorem seekGo_some {cs : List Ce} {h : Int} {i : Nat} : ∀ {l : List Nat}, seekGo cs h l = some i → i ∈ l ∧ pk i (gAt cs i) = h
  | [], he => by cases he
  | j :: l, he => by
    unfold seekGo at he
    split at he
    · cases he
      exact ⟨by simp, by assumption⟩
    · have := seekGo_some he
      exact ⟨List.mem_cons_of_mem _ this.1, this.2⟩
theorem seekGo_none {cs : List Ce} {h : Int} : ∀ {l : List Nat}, seekGo cs h l = none → ∀ i ∈ l, pk i (gAt cs i) ≠ h
  | [], _ => by simp
  | j :: l, he => by
    unfold seekGo at he
    split at he
    · cases he
    · intro i hi
      rcases List.mem_cons.1 hi with rfl | hi
      · assumption
      · exact seekGo_none he i hi
/-- What Find tells. -/
def rFind (cs : List Ce) (h : Int) : AV := match findH cs h with
  | some i => .tup [eI (i : Int), eI 0]
  | none => .tup [eI (-1), eI (if h = 0 then 2 else 3)]
theorem c_sfind (S : Sto) (h : Int) (hR : Rs S.cs) : C Try.prog 84 [eB S, eI h] (rFind S.cs h) := by
  refine fnOk mixed tyOk Try.func84 (code := Try.f84.body.getD .skip) rfl rfl rfl (gC_in ?_)
  have hT : S.cs.length ≤ 1099511627776 := Nat.le_trans hR.hl (by decide)
  have hin := c_in S
  have hit := fun st => it_in S st hT
  obtain ⟨cs, la, sr⟩ := S
  repeat (first | (refine oR ?_; (conv => whnf)) | refine kOps ?_ | refine oNil ?_ | refine sSeq ?_ | refine sR ?_ | refine qSeqN ?_)
  refine sC rfl (fun h0 => ?_) (fun h0 => ?_)
  · have h0 : h = 0 := by simpa using h0
    have e : rFind cs h = .tup [eI (-1), eI 2] := by rw [rFind, findH, if_pos h0]; simp [h0]
    rw [e]
    repeat (first | (refine oR ?_; (conv => whnf)) | refine kOps ?_ | refine oNil ?_ | refine sSeq ?_ | refine sR ?_ | refine qSeqN ?_ | refine sRet ?_ | refine qSeqR ?_)
    refine qEnd ?_
    conv => whnf
    rfl
  have h0 : ¬ h = 0 := by simpa using h0
  repeat (first | (refine oR ?_; (conv => whnf)) | refine kOps ?_ | refine oNil ?_ | refine sSeq ?_ | refine sR ?_ | refine qSeqN ?_ | refine sSkip ?_ | refine sBlk ?_)
  refine sLoop (α := Nat) (fun i => i ≤ 2 ∧ (0 < i → seek cs 1 h = none) ∧ (1 < i → seek cs 2 h = none)) (fun i => ⟨tl [(2, .ptr 0 0 0), (3, .ptr 1 0 0), (4, .ptr 2 0 0), (5, .ptr 3 0 0), (11, .agg [eI 1, eI 2]), (12, eI (i : Int))], Ll [(0, .box 24 [encC cs, eI la]), (1, .box 3 [eI h]), (2, .box 3 [i0]), (3, .box 52 [i0])], 31, 4, [], none⟩) (fun i => 2 - i) 0 .kp ⟨by decide, by simp, by simp⟩ fun i hi => ?_
  obtain ⟨hi, hi1, hi2⟩ := hi
  repeat (first | (refine oR ?_; (conv => whnf)) | refine kOps ?_ | refine oNil ?_ | refine sSeq ?_ | refine sR ?_ | refine qSeqN ?_)
  refine sC rfl (fun h1 => ?_) (fun h1 => ?_)
  · have h1 : i < 2 := by have := dT h1; omega
    have hbig : 2 ≤ 1099511627776 := by decide
    obtain ⟨st, hst, hsti⟩ : ∃ st : Int, ([eI 1, eI 2] : List AV)[i]? = some (eI st) ∧ st = (i : Int) + 1 := by
      rcases (show i = 0 ∨ i = 1 by omega) with rfl | rfl
      · exact ⟨1, rfl, rfl⟩
      · exact ⟨2, rfl, rfl⟩
    repeat (first | (refine oR ?_; (conv => whnf)) | refine sSeq ?_ | refine sR ?_ | refine qSeqN ?_ | refine sSkip ?_ | refine sBlk ?_)
    refine ⟨i, _, rfl, hst, h1, ?_⟩
    conv => whnf
    repeat (first | (refine oR ?_; (conv => whnf)) | refine kOps ?_ | refine oNil ?_ | refine sSeq ?_ | refine sR ?_ | refine qSeqN ?_)
    (refine oCall rfl (.inl rfl) rfl rfl rfl (.fz [] _) rfl ⟨rfl, hin st, ?_⟩; (conv => whnf))
    repeat (first | refine kOps ?_ | refine oNil ?_ | refine qSeqN ?_ | refine sBlk ?_)
    refine forIn rfl rfl (hit st) (fun _ => ⟨tl [(2, .ptr 0 0 0), (3, .ptr 1 0 0), (4, .ptr 2 0 0), (5, .ptr 3 0 0), (11, .agg [eI 1, eI 2]), (12, eI (i : Int))], Ll [(0, .box 24 [encC cs, eI la]), (1, .box 3 [eI h]), (2, .box 3 [i0]), (3, .box 52 [i0])], 31, 4, [], none⟩) (fun n => seekGo cs h ((inIx st cs 0).drop n) = seek cs st h) .kp rfl (fun n z hn hz => ?_) (fun hn => ?_)
    · obtain ⟨ix, hq, rfl⟩ := get_map hz
      rw [drop_of hq, seekGo] at hn
      obtain ⟨_, c, hc, hcs⟩ := inIx_mem.1 (List.mem_of_getElem? hq)
      rw [Nat.sub_zero] at hc
      obtain ⟨hb, hg⟩ := hR.at hc
      rw [gAt_of hc] at hn
      refine ⟨rfl, rfl, ?_⟩
      repeat (first | (refine oR ?_; (conv => whnf)) | refine kOps ?_ | refine oNil ?_ | refine sR ?_)
      refine qAs ?_
      repeat (first | refine sSeq ?_ | refine sBlk ?_ | refine sD ?_ | (apply drRun; exact rfl; exact .inl rfl; (conv => whnf); exact .mk rfl) | (apply drRun; exact rfl; exact .inl rfl; (conv => whnf)))
      refine ⟨ix, _, rfl, encC_get hc, ?_⟩
      conv => whnf
      exact .mk rfl
      repeat (first | (apply drRun; exact rfl; exact .inl rfl; (conv => whnf); exact .mk rfl) | (apply drRun; exact rfl; exact .inl rfl; (conv => whnf)))
      (refine ⟨.fz [] _, rfl, c_pack ix c.gn hb hg, ?_⟩; (conv => whnf); exact .mk rfl)
      repeat (first | refine qSeqN ?_ | (apply drRun; exact rfl; exact .inl rfl; (conv => whnf); exact .mk rfl) | refine drNil ?_)
      refine sC rfl (fun h2 => ?_) (fun h2 => ?_)
      · have h2 : pk ix c.gn = h := by simpa using h2
        have e : rFind cs h = .tup [eI (ix : Int), eI 0] := by
          rw [if_pos h2] at hn
          rw [rFind, findH, if_neg h0]
          rcases (show i = 0 ∨ i = 1 by omega) with rfl | rfl
          · rw [show st = 1 by omega] at hn
            rw [← hn]
          · rw [show st = 2 by omega] at hn
            rw [hi1 (by decide), ← hn]
        rw [e]
        repeat (first | (refine oR ?_; (conv => whnf)) | refine kOps ?_ | refine oNil ?_ | refine sSeq ?_ | refine sR ?_ | refine qSeqN ?_ | refine sRet ?_ | refine qSeqR ?_ | refine qBlkR ?_ | refine qLoopR ?_ | refine qRndR ?_)
        refine qEnd ?_
        conv => whnf
        rfl
      · have h2 : ¬ pk ix c.gn = h := by simpa using h2
        rw [if_neg h2] at hn
        repeat (first | refine sSkip ?_ | refine qBlkN ?_)
        exact qRndN .kp hn
    · have hs : seek cs st h = none := by
        rw [← hn, List.drop_eq_nil_of_le (by simp [inItems])]; rfl
      repeat (first | (refine oR ?_; (conv => whnf)) | refine kOps ?_ | refine oNil ?_ | refine sR ?_ | refine qSeqN ?_ | refine qBlkN ?_)
      refine qLoopN (i + 1) .kp ⟨by omega, fun _ => ?_, fun _ => ?_⟩ (by omega)
      · rcases (show i = 0 ∨ i = 1 by omega) with rfl | rfl
        · rw [← hs]; congr 1; omega
        · exact hi1 (by decide)
      · rw [← hs]; congr 1; omega
  · have h1 : i = 2 := by have := dF h1; omega
    subst h1
    have e : rFind cs h = .tup [eI (-1), eI 3] := by
      rw [rFind, findH, if_neg h0, hi1 (by decide), hi2 (by decide)]
      simp [h0]
    rw [e]
    repeat (first | (refine oR ?_; (conv => whnf)) | refine kOps ?_ | refine oNil ?_ | refine sSeq ?_ | refine sR ?_ | refine qSeqN ?_ | refine sRet ?_ | refine sExit ?_ | refine qSeqE ?_ | refine qX ?_ | refine qLoopE ?_)
    refine qEnd ?_
    conv => whnf
    rfl
/-- What Get tells. -/
def rGet (cs : List Ce) (h : Int) : AV := match findH cs h with
  | some i => if sAt cs i = 2 then .tup [.agg ob0.enc, eI 3] else .tup [.agg (cs[i]?.getD ce0).ob.enc, eI 0]
  | none => .tup [.agg ob0.enc, eI (if h = 0 then 2 else 3)]
theorem findH_some {cs : List Ce} {h : Int} {i : Nat} (he : findH cs h = some i) : ∃ c, cs[i]? = some c ∧ (c.st = 1 ∨ c.st = 2) ∧ pk i c.gn = h := by
  unfold findH at he
  split at he
  · cases he
  · have : ∃ st, (st = 1 ∨ st = 2) ∧ seek cs st h = some i := by
      split at he
      · rename_i hs
        cases he
        exact ⟨1, .inl rfl, hs⟩
      · exact ⟨2, .inr rfl, he⟩
    obtain ⟨st, hst, hs⟩ := this
    obtain ⟨h1, h2⟩ := seekGo_some hs
    obtain ⟨_, c, hc, hcs⟩ := inIx_mem.1 h1
    rw [Nat.sub_zero] at hc
    rw [gAt_of hc] at h2
    exact ⟨c, hc, by rw [hcs]; exact hst, h2⟩
theorem c_bget (S : Sto) (h : Int) (hR : Rs S.cs) : C Try.prog 71 [eB S, eI h] (rGet S.cs h) := by
  refine fnOk mixed tyOk Try.func71 (code := Try.f71.body.getD .skip) rfl rfl rfl (gC_in ?_)
  have hf := c_sfind S h hR
  obtain ⟨cs, la, sr⟩ := S
  unfold rGet
  unfold rFind at hf
  cases he : findH cs h with
  | none =>
    rw [he] at hf
    have e : decide ((if h = 0 then (2 : Int) else 3) = 0) = false := by split <;> rfl
    repeat (first | (refine oR ?_; (conv => whnf)) | refine kOps ?_ | refine oNil ?_ | refine sSeq ?_ | refine sR ?_ | refine qSeqN ?_)
    (refine oCall rfl (.inl rfl) rfl rfl rfl (.fz [] _) rfl ⟨rfl, hf, ?_⟩; (conv => whnf))
    repeat (first | (refine oR ?_; (conv => whnf)) | refine kOps ?_ | refine oNil ?_ | refine sSeq ?_ | refine sR ?_ | refine qSeqN ?_ | refine sBlk ?_)
    refine sC rfl (fun h1 => ?_) (fun h1 => ?_)
    · repeat (first | (refine oR ?_; (conv => whnf)) | refine kOps ?_ | refine oNil ?_ | refine sSeq ?_ | refine sR ?_ | refine qSeqN ?_ | refine sRet ?_ | refine qSeqR ?_ | refine qBlkR ?_)
      refine qEnd ?_
      conv => whnf
      rfl
    · exfalso
      split at h1 <;> simp at h1
  | some i =>
    rw [he] at hf
    obtain ⟨c, hc, hcs, hp⟩ := findH_some he
    simp only [sAt_of hc, hc, Option.getD_some]
    repeat (first | (refine oR ?_; (conv => whnf)) | refine kOps ?_ | refine oNil ?_ | refine sSeq ?_ | refine sR ?_ | refine qSeqN ?_)
    (refine oCall rfl (.inl rfl) rfl rfl rfl (.fz [] _) rfl ⟨rfl, hf, ?_⟩; (conv => whnf))
    repeat (first | (refine oR ?_; (conv => whnf)) | refine kOps ?_ | refine oNil ?_ | refine sSeq ?_ | refine sR ?_ | refine qSeqN ?_ | refine sF ?_ | refine sBlk ?_)
    refine ⟨i, _, rfl, encC_get hc, ?_⟩
    conv => whnf
    repeat (first | (refine oR ?_; (conv => whnf)) | refine kOps ?_ | refine oNil ?_ | refine qSeqN ?_)
    refine sC rfl (fun h1 => ?_) (fun h1 => ?_)
    · have h1 : c.st = 2 := by simpa using h1
      simp only [h1, if_true]
      repeat (first | (refine oR ?_; (conv => whnf)) | refine kOps ?_ | refine oNil ?_ | refine sSeq ?_ | refine sR ?_ | refine qSeqN ?_ | refine sRet ?_ | refine qSeqR ?_ | refine qBlkR ?_)
      refine qEnd ?_
      conv => whnf
      rfl
    · have h1 : ¬ c.st = 2 := by simpa using h1
      simp only [h1, if_false]
      repeat (first | (refine oR ?_; (conv => whnf)) | refine kOps ?_ | refine sSeq ?_ | refine sR ?_ | refine qSeqN ?_ | refine sSkip ?_ | refine qBlkN ?_)
      refine ⟨i, _, rfl, encC_get hc, ?_⟩
      conv => whnf
      repeat (first | (refine oR ?_; (conv => whnf)) | refine kOps ?_ | refine oNil ?_ | refine qSeqN ?_ | refine sRet ?_)
      refine qEnd ?_
      conv => whnf
      rfl
theorem c_get6 (S : Sto) (h : Int) (hR : Rs S.cs) : C Try.prog 50 [eT S, eI h] (rGet S.cs h) := by
  have hg := c_bget S h hR
  unfold rGet at hg ⊢
  refine fnOk mixed tyOk Try.func50 (code := Try.f50.body.getD .skip) rfl rfl rfl (gC_in ?_)
  obtain ⟨cs, la, sr⟩ := S
  cases he : findH cs h with
  | none =>
    rw [he] at hg
    repeat (first | (refine oR ?_; (conv => whnf)) | refine kOps ?_ | refine oNil ?_ | refine sSeq ?_ | refine sR ?_ | refine qSeqN ?_)
    (refine oCall rfl (.inl rfl) rfl rfl rfl (.fz [] _) rfl ⟨rfl, hg, ?_⟩; (conv => whnf))
    repeat (first | (refine oR ?_; (conv => whnf)) | refine kOps ?_ | refine oNil ?_ | refine qSeqN ?_ | refine sRet ?_)
    refine qEnd ?_
    conv => whnf
    rfl
  | some i =>
    rw [he] at hg
    by_cases hs : sAt cs i = 2
    · simp only [hs, if_true] at hg ⊢
      repeat (first | (refine oR ?_; (conv => whnf)) | refine kOps ?_ | refine oNil ?_ | refine sSeq ?_ | refine sR ?_ | refine qSeqN ?_)
      (refine oCall rfl (.inl rfl) rfl rfl rfl (.fz [] _) rfl ⟨rfl, hg, ?_⟩; (conv => whnf))
      repeat (first | (refine oR ?_; (conv => whnf)) | refine kOps ?_ | refine oNil ?_ | refine qSeqN ?_ | refine sRet ?_)
      refine qEnd ?_
      conv => whnf
      rfl
    · simp only [hs, if_false] at hg ⊢
      repeat (first | (refine oR ?_; (conv => whnf)) | refine kOps ?_ | refine oNil ?_ | refine sSeq ?_ | refine sR ?_ | refine qSeqN ?_)
      (refine oCall rfl (.inl rfl) rfl rfl rfl (.fz [] _) rfl ⟨rfl, hg, ?_⟩; (conv => whnf))
      repeat (first | (refine oR ?_; (conv => whnf)) | refine kOps ?_ | refine oNil ?_ | refine qSeqN ?_ | refine sRet ?_)
      refine qEnd ?_
      conv => whnf
      rfl
end Go.Proofs.Ytcmciimogcfakaa

/- The law's own functions: stores told as the document's. -/
set_option linter.unusedVariables false
set_option linter.unusedSimpArgs false
namespace Go.Proofs.Ytcmciimogcfakaa
open Go Go.RowKit

theorem c_obj (o : Ob) : C Try.prog 35 [.agg o.enc] (.agg o.enc) := by
  refine fnOk mixed tyOk Try.func35 (code := Try.f35.body.getD .skip) rfl rfl rfl (gC_in ?_)
  repeat (first | (refine oR ?_; (conv => whnf)) | refine kOps ?_ | refine oNil ?_ | refine sSeq ?_ | refine sR ?_ | refine qSeqN ?_ | refine sRet ?_)
  refine qEnd ?_
  conv => whnf
  rfl
theorem roomC {n : Nat} (h : n ≤ 1099511627) : roomy n 80 := ⟨by decide, by omega⟩
theorem c_its (S : Sto) (hT : S.cs.length ≤ 1000000) : C Try.prog 18 [eT S] (eT S) := by
  refine fnOk mixed tyOk Try.func18 (code := Try.f18.body.getD .skip) rfl rfl rfl (gC_in ?_)
  obtain ⟨cs, la, sr⟩ := S
  have hT : cs.length ≤ 1000000 := hT
  have hT2 : cs.length ≤ 1099511627776 := Nat.le_trans hT (by decide)
  repeat (first | (refine oR ?_; (conv => whnf)) | refine kOps ?_ | refine oNil ?_ | refine sSeq ?_ | refine sR ?_ | refine qSeqN ?_ | refine sBlk ?_)
  refine sLoop (α := Nat) (fun i => i ≤ cs.length) (fun i => ⟨tl [(1, .ptr 0 0 0), (2, .ptr 1 0 0), (3, .rowf 2), (4, eI (i : Int))], Ll [(0, .box 26 [encC cs, eI la, eI sr]), (1, .box 46 [.nilsl, i0, i0]), (2, .rows 78 8 ((cs.take i).map Ce.enc))], 39, 3, [], none⟩) (fun i => cs.length - i) 0 .kp (Nat.zero_le _) fun i hi => ?_
  repeat (first | (refine oR ?_; (conv => whnf)) | refine kOps ?_ | refine oNil ?_ | refine sSeq ?_ | refine sR ?_ | refine qSeqN ?_)
  refine sC rfl (fun h1 => ?_) (fun h1 => ?_)
  · have hlt : i < cs.length := by have := dT h1; simp at this; omega
    have hx : cs[i]? = some cs[i] := List.getElem?_eq_getElem hlt
    have hk := List.take_succ_eq_append_getElem hlt
    generalize cs[i] = c at hx hk
    repeat (first | (refine oR ?_; (conv => whnf)) | refine kOps ?_ | refine sSeq ?_ | refine sR ?_ | refine qSeqN ?_ | refine sSkip ?_ | refine sBlk ?_)
    refine ⟨i, _, rfl, encC_get hx, ?_⟩
    conv => whnf
    repeat (first | (refine oR ?_; (conv => whnf)) | refine kOps ?_ | refine oNil ?_ | refine qSeqN ?_)

    refine sDt [9, 10, 11] ?_
    repeat (first | (apply g3run; exact rfl; exact rfl; exact .inl rfl; (conv => whnf); exact .mk rfl) | (apply g3run; exact rfl; exact rfl; exact .inl rfl; (conv => whnf)))
    (refine ⟨.fz [] _, rfl, c_obj c.ob, ?_⟩; (conv => whnf); exact .mk rfl)
    repeat (first | refine g3skip ?_ | (apply g3run; exact rfl; exact rfl; exact .inl rfl; (conv => whnf); exact .mk rfl) | refine g3nil ?_ | refine kT ?_ | (apply gTrun; exact rfl; exact rfl; exact rfl; (conv => whnf); exact .mk rfl) | (apply gRcons; exact rfl; exact rfl; exact rfl; (conv => whnf); exact .mk rfl) | exact gRnil | (apply gTrun; exact rfl; exact rfl; exact rfl; (conv => whnf)))
    refine ⟨by simp [oneC], roomC (by simp; omega), ?_⟩
    conv => whnf
    repeat (first | (refine oR ?_; (conv => whnf)) | refine kOps ?_ | refine oNil ?_ | refine sR ?_ | refine qSeqN ?_ | refine qBlkN ?_ | (apply gTrun; exact rfl; exact rfl; exact rfl; (conv => whnf); exact .mk rfl) | exact gRnil | refine gTnil ?_ | exact KEq.mk rfl)
    exact qLoopN (i + 1) (.keep _ _ _ _ ⟨rfl, rfl, congrArg (Blk.rows 78 8) (by rw [hk]; simp [Ce.enc]), trivial⟩ ⟨rfl, rfl, rfl, congrArg eI (wrapS hlt hT2), trivial⟩ rfl rfl) hlt (by omega)
  · have hge : cs.length ≤ i := by have := dF h1; simpa using this
    repeat (first | (refine oR ?_; (conv => whnf)) | refine kOps ?_ | refine oNil ?_ | refine sSeq ?_ | refine sR ?_ | refine qSeqN ?_ | refine sRet ?_ | refine sExit ?_ | refine qSeqE ?_ | refine qX ?_ | refine qLoopE ?_)
    refine qEnd ?_
    conv => whnf
    rw [List.take_of_length_le hge]
    rfl
/-- Plain slabs of the document: states, gens, places. -/
def plE (i : Nat) (c : Ce) : List AV := [eI c.st, eI c.gn, eI (i : Int)]
def plL : List Ce → Nat → List (List AV)
  | [], _ => []
  | c :: l, i => plE i c :: plL l (i + 1)
theorem plL_append : ∀ (a b : List Ce) (i : Nat), plL (a ++ b) i = plL a i ++ plL b (i + a.length)
  | [], b, i => by simp [plL]
  | c :: a, b, i => by
    simp only [List.cons_append, plL, plL_append a b (i + 1), List.length_cons]
    rw [show i + 1 + a.length = i + (a.length + 1) by omega]
theorem plL_snoc {cs : List Ce} {i : Nat} {c : Ce} (h : cs[i]? = some c) : plL (cs.take (i + 1)) 0 = plL (cs.take i) 0 ++ [plE i c] := by
  obtain ⟨h1, rfl⟩ := List.getElem?_eq_some_iff.1 h
  rw [List.take_succ_eq_append_getElem h1, plL_append]
  have : (cs.take i).length = i := by rw [List.length_take]; omega
  rw [this, Nat.zero_add]
  rfl
theorem plL_len : ∀ (cs : List Ce) (i : Nat), (plL cs i).length = cs.length
  | [], _ => rfl
  | c :: l, i => by simp [plL, plL_len l (i + 1)]
theorem plL_get : ∀ {cs : List Ce} {k i : Nat} {c : Ce}, cs[i]? = some c → (plL cs k)[i]? = some (plE (k + i) c)
  | [], _, _, _, h => by simp at h
  | d :: l, k, 0, c, h => by simp at h; subst h; rfl
  | d :: l, k, i + 1, c, h => by
    have := plL_get (cs := l) (k := k + 1) (i := i) (c := c) (by simpa using h)
    rw [plL, List.getElem?_cons_succ, this, show k + 1 + i = k + (i + 1) by omega]
/-- A plain slab. -/
abbrev eP (S : Sto) : AV := .agg [.sl (plL S.cs 0), eI S.la]
set_option maxRecDepth 100000 in
theorem c_plain (S : Sto) (hT : S.cs.length ≤ 1000000) : C Try.prog 33 [eT S] (eP S) := by
  refine fnOk mixed tyOk Try.func33 (code := Try.f33.body.getD .skip) rfl rfl rfl (gC_in ?_)
  obtain ⟨cs, la, sr⟩ := S
  have hT : cs.length ≤ 1000000 := hT
  have hT2 : cs.length ≤ 1099511627776 := Nat.le_trans hT (by decide)
  repeat (first | (refine oR ?_; (conv => whnf)) | refine kOps ?_ | refine oNil ?_ | refine sSeq ?_ | refine sR ?_ | refine qSeqN ?_ | refine sBlk ?_)
  refine sLoop (α := Nat) (fun i => i ≤ cs.length) (fun i => ⟨tl [(1, .ptr 0 0 0), (2, .ptr 1 0 0), (3, .ptr 2 0 0), (4, eI (i : Int))], Ll [(0, .box 46 [encC cs, eI la, eI sr]), (1, .box 74 [.nilsl, i0]), (2, .box 74 [.rowf 3, eI la]), (3, .rows 117 3 (plL (cs.take i) 0))], 35, 4, [], none⟩) (fun i => cs.length - i) 0 (.trans (.adoptC 2 3 74 117 3 0 _ rfl rfl rfl (by decide)) .kp) (Nat.zero_le _) fun i hi => ?_
  repeat (first | (refine oR ?_; (conv => whnf)) | refine kOps ?_ | refine oNil ?_ | refine sSeq ?_ | refine sR ?_ | refine qSeqN ?_)
  refine sC rfl (fun h1 => ?_) (fun h1 => ?_)
  · have hlt : i < cs.length := by have := dT h1; simp at this; omega
    obtain ⟨c, hc⟩ : ∃ c, cs[i]? = some c := ⟨_, List.getElem?_eq_getElem hlt⟩
    have hk := plL_snoc hc
    have hl : (plL (cs.take i) 0).length = i := by rw [plL_len, List.length_take]; omega
    repeat (first | refine sSeq ?_ | refine qSeqN ?_ | refine sSkip ?_ | refine sBlk ?_)
    refine sDt [16, 17, 19] ?_
    repeat (first | (apply g3run; exact rfl; exact rfl; exact .inl rfl; (conv => whnf); exact .mk rfl) | (apply g3run; exact rfl; exact rfl; exact .inl rfl; (conv => whnf)))
    refine ⟨i, _, rfl, encC_get hc, ?_⟩
    conv => whnf
    exact .mk rfl
    repeat (first | (apply g3run; exact rfl; exact rfl; exact .inl rfl; (conv => whnf); exact .mk rfl) | (apply g3run; exact rfl; exact rfl; exact .inl rfl; (conv => whnf)))
    refine ⟨i, _, rfl, encC_get hc, ?_⟩
    conv => whnf
    exact .mk rfl
    repeat (first | refine g3skip ?_ | (apply g3run; exact rfl; exact rfl; exact .inl rfl; (conv => whnf); exact .mk rfl) | refine g3nil ?_ | refine kT ?_ | (apply gTrun; exact rfl; exact rfl; exact rfl; (conv => whnf); exact .mk rfl) | (apply gRcons; exact rfl; exact rfl; exact rfl; (conv => whnf); exact .mk rfl) | exact gRnil | (apply gTrun; exact rfl; exact rfl; exact rfl; (conv => whnf)))
    refine ⟨by simp [oneC], roomP (by simp [hl]; omega), ?_⟩
    conv => whnf
    repeat (first | (refine oR ?_; (conv => whnf)) | refine kOps ?_ | refine oNil ?_ | refine sR ?_ | refine qSeqN ?_ | refine qBlkN ?_ | (apply gTrun; exact rfl; exact rfl; exact rfl; (conv => whnf); exact .mk rfl) | (apply gRcons; exact rfl; exact rfl; exact rfl; (conv => whnf); exact .mk rfl) | exact gRnil | refine gTnil ?_ | exact KEq.mk rfl)
    exact qLoopN (i + 1) (.keep _ _ _ _ ⟨rfl, rfl, rfl, congrArg (Blk.rows 117 3) (by rw [hk]; rfl), trivial⟩ ⟨rfl, rfl, rfl, congrArg eI (wrapS hlt hT2), trivial⟩ rfl rfl) hlt (by omega)
  · have hge : cs.length ≤ i := by have := dF h1; simpa using this
    repeat (first | (refine oR ?_; (conv => whnf)) | refine kOps ?_ | refine oNil ?_ | refine sSeq ?_ | refine sR ?_ | refine qSeqN ?_ | refine sRet ?_ | refine sExit ?_ | refine qSeqE ?_ | refine qX ?_ | refine qLoopE ?_)
    refine qEnd ?_
    conv => whnf
    rw [List.take_of_length_le hge]
    rfl
end Go.Proofs.Ytcmciimogcfakaa

/- Which stores are right. -/
set_option linter.unusedVariables false
set_option linter.unusedSimpArgs false
namespace Go.Proofs.Ytcmciimogcfakaa
open Go Go.RowKit
open Classical

theorem c_there (c : Ce) : C Try.prog 34 [.agg c.enc] (.bool (c.st == 1 || c.st == 2)) := by
  refine fnOk mixed tyOk Try.func34 (code := Try.f34.body.getD .skip) rfl rfl rfl (gC_in ?_)
  repeat (first | (refine oR ?_; (conv => whnf)) | refine kOps ?_ | refine oNil ?_ | refine sSeq ?_ | refine sR ?_ | refine qSeqN ?_)
  refine oS rfl rfl rfl (fun h1 => ?_) (fun h1 => ?_)
  · rw [h1]
    repeat (first | (refine oR ?_; (conv => whnf)) | refine kOps ?_ | refine oH ?_ | refine oNil ?_ | refine qSeqN ?_ | refine sRet ?_ | (refine sBT ?_; (conv => whnf)))
    refine qEnd ?_
    conv => whnf
    rfl
  · rw [h1]
    repeat (first | (refine oR ?_; (conv => whnf)) | refine kOps ?_ | (refine oG ?_; (conv => whnf)) | refine oNil ?_ | refine qSeqN ?_ | refine sRet ?_ | (refine sBF ?_; (conv => whnf)))
    refine qEnd ?_
    conv => whnf
    rfl
abbrev tS (cs : List Ce) (la sr : Int) : AV := .agg [encC cs, eI la, eI sr]
abbrev tB (cs : List Ce) (la : Int) : AV := .agg [encC cs, eI la]
abbrev tP (cs : List Ce) (la : Int) : AV := .agg [.sl (plL cs 0), eI la]
structure G3 (cs : List Ce) (la : Int) : Prop where
  hl : cs.length ≤ 24
  lb : 0 ≤ la ∧ la ≤ 9
  cl : ∀ (i : Nat) (c : Ce), cs[i]? = some c → (0 ≤ c.st ∧ c.st ≤ 3) ∧ 0 ≤ c.gn ∧ c.gn ≤ la
set_option maxRecDepth 100000 in
theorem c_right3 (cs : List Ce) (la : Int) (hT : cs.length ≤ 1000000) : C Try.prog 32 [tP cs la] (.bool (decide (G3 cs la))) := by
  refine fnOk mixed tyOk Try.func32 (code := Try.f32.body.getD .skip) rfl rfl rfl (gC_in ?_)
  have hT2 : cs.length ≤ 1099511627776 := Nat.le_trans hT (by decide)
  have hlen := plL_len cs 0
  repeat (first | (refine oR ?_; (conv => whnf)) | refine kOps ?_ | refine oNil ?_ | refine sSeq ?_ | refine sR ?_ | refine qSeqN ?_)
  refine oS rfl rfl rfl (fun h1 => ?_) (fun h1 => ?_)
  · have h1 := dT h1
    rw [decide_eq_false (fun h : G3 cs la => by have := h.hl; omega)]
    repeat (first | (refine oR ?_; (conv => whnf)) | refine kOps ?_ | refine oH ?_ | refine oNil ?_ | refine sSeq ?_ | refine sR ?_ | refine qSeqN ?_ | refine sT ?_ | refine sRet ?_ | refine qSeqR ?_ | (refine sBT ?_; (conv => whnf)))
    refine qEnd ?_
    conv => whnf
    rfl
  have h1 := dF h1
  repeat (first | (refine oR ?_; (conv => whnf)) | refine kOps ?_ | (refine oG ?_; (conv => whnf)) | (refine sBF ?_; (conv => whnf)))
  refine oS rfl rfl rfl (fun h2 => ?_) (fun h2 => ?_)
  · have h2 := dT h2
    rw [decide_eq_false (fun h : G3 cs la => by have := h.lb; omega)]
    repeat (first | (refine oR ?_; (conv => whnf)) | refine kOps ?_ | refine oH ?_ | refine oNil ?_ | refine sSeq ?_ | refine sR ?_ | refine qSeqN ?_ | refine sT ?_ | refine sRet ?_ | refine qSeqR ?_ | (refine sBT ?_; (conv => whnf)))
    refine qEnd ?_
    conv => whnf
    rfl
  have h2 := dF h2
  repeat (first | (refine oR ?_; (conv => whnf)) | refine kOps ?_ | (refine oG ?_; (conv => whnf)) | refine oNil ?_ | refine qSeqN ?_ | (refine sBF ?_; (conv => whnf)))
  refine sC rfl (fun h3 => ?_) (fun h3 => ?_)
  · have h3 := dT h3
    rw [decide_eq_false (fun h : G3 cs la => by have := h.lb; omega)]
    repeat (first | (refine oR ?_; (conv => whnf)) | refine kOps ?_ | refine oNil ?_ | refine sSeq ?_ | refine sR ?_ | refine qSeqN ?_ | refine sRet ?_ | refine qSeqR ?_)
    refine qEnd ?_
    conv => whnf
    rfl
  have h3 := dF h3
  repeat (first | (refine oR ?_; (conv => whnf)) | refine kOps ?_ | refine oNil ?_ | refine sSeq ?_ | refine sR ?_ | refine qSeqN ?_ | refine sSkip ?_ | refine sBlk ?_)
  refine sLoop (α := Nat) (fun i => i ≤ cs.length ∧ ∀ (j : Nat) (c : Ce), j < i → cs[j]? = some c → (0 ≤ c.st ∧ c.st ≤ 3) ∧ 0 ≤ c.gn ∧ c.gn ≤ la) (fun i => ⟨tl [(1, .ptr 0 0 0), (3, eI (i : Int))], Ll [(0, .box 74 [.sl (plL cs 0), eI la])], 51, 1, [], none⟩) (fun i => cs.length - i) 0 .kp ⟨Nat.zero_le _, fun j c hj => by omega⟩ fun i hi => ?_
  obtain ⟨hi, hok⟩ := hi
  repeat (first | (refine oR ?_; (conv => whnf)) | refine kOps ?_ | refine oNil ?_ | refine sSeq ?_ | refine sR ?_ | refine qSeqN ?_)
  refine sC rfl (fun h4 => ?_) (fun h4 => ?_)
  · have hlt : i < cs.length := by have := dT h4; omega
    obtain ⟨c, hc⟩ : ∃ c, cs[i]? = some c := ⟨_, List.getElem?_eq_getElem hlt⟩
    have hp := plL_get (k := 0) hc
    rw [Nat.zero_add] at hp
    repeat (first | (refine oR ?_; (conv => whnf)) | refine kOps ?_ | refine sSeq ?_ | refine sR ?_ | refine qSeqN ?_ | refine sSkip ?_ | refine sBlk ?_)
    refine ⟨i, _, rfl, hp, ?_⟩
    conv => whnf
    repeat (first | (refine oR ?_; (conv => whnf)) | refine kOps ?_ | refine oNil ?_ | refine sSeq ?_ | refine sR ?_ | refine qSeqN ?_)
    refine oS rfl rfl rfl (fun h5 => ?_) (fun h5 => ?_)
    · have h5 := dT h5
      rw [decide_eq_false (fun h : G3 cs la => by have := h.cl i c hc; omega)]
      repeat (first | (refine oR ?_; (conv => whnf)) | refine kOps ?_ | refine oH ?_ | refine oNil ?_ | refine sSeq ?_ | refine sR ?_ | refine qSeqN ?_ | refine sT ?_ | refine sRet ?_ | refine qSeqR ?_ | refine qBlkR ?_ | refine qLoopR ?_ | (refine sBT ?_; (conv => whnf)))
      refine qEnd ?_
      conv => whnf
      rfl
    have h5 := dF h5
    repeat (first | (refine oR ?_; (conv => whnf)) | refine kOps ?_ | (refine oG ?_; (conv => whnf)) | (refine sBF ?_; (conv => whnf)))
    refine oS rfl rfl rfl (fun h6 => ?_) (fun h6 => ?_)
    · have h6 := dT h6
      rw [decide_eq_false (fun h : G3 cs la => by have := h.cl i c hc; omega)]
      repeat (first | (refine oR ?_; (conv => whnf)) | refine kOps ?_ | refine oH ?_ | refine oNil ?_ | refine sSeq ?_ | refine sR ?_ | refine qSeqN ?_ | refine sT ?_ | refine sRet ?_ | refine qSeqR ?_ | refine qBlkR ?_ | refine qLoopR ?_ | (refine sBT ?_; (conv => whnf)))
      refine qEnd ?_
      conv => whnf
      rfl
    have h6 := dF h6
    repeat (first | (refine oR ?_; (conv => whnf)) | refine kOps ?_ | (refine oG ?_; (conv => whnf)) | (refine sBF ?_; (conv => whnf)))
    refine oS rfl rfl rfl (fun h7 => ?_) (fun h7 => ?_)
    · have h7 := dT h7
      rw [decide_eq_false (fun h : G3 cs la => by have := h.cl i c hc; omega)]
      repeat (first | (refine oR ?_; (conv => whnf)) | refine kOps ?_ | refine oH ?_ | refine oNil ?_ | refine sSeq ?_ | refine sR ?_ | refine qSeqN ?_ | refine sT ?_ | refine sRet ?_ | refine qSeqR ?_ | refine qBlkR ?_ | refine qLoopR ?_ | (refine sBT ?_; (conv => whnf)))
      refine qEnd ?_
      conv => whnf
      rfl
    have h7 := dF h7
    repeat (first | (refine oR ?_; (conv => whnf)) | refine kOps ?_ | (refine oG ?_; (conv => whnf)) | refine oNil ?_ | refine qSeqN ?_ | (refine sBF ?_; (conv => whnf)))
    refine sC rfl (fun h8 => ?_) (fun h8 => ?_)
    · have h8 := dT h8
      rw [decide_eq_false (fun h : G3 cs la => by have := h.cl i c hc; omega)]
      repeat (first | (refine oR ?_; (conv => whnf)) | refine kOps ?_ | refine oNil ?_ | refine sSeq ?_ | refine sR ?_ | refine qSeqN ?_ | refine sRet ?_ | refine qSeqR ?_ | refine qBlkR ?_ | refine qLoopR ?_)
      refine qEnd ?_
      conv => whnf
      rfl
    have h8 := dF h8
    repeat (first | (refine oR ?_; (conv => whnf)) | refine kOps ?_ | refine oNil ?_ | refine sR ?_ | refine qSeqN ?_ | refine sSkip ?_ | refine qBlkN ?_)
    refine qLoopN (i + 1) .kp ⟨hlt, fun j d hj hd => ?_⟩ (by omega)
    rcases (show j < i ∨ j = i by omega) with hj | rfl
    · exact hok j d hj hd
    · rw [hc] at hd
      cases hd
      omega
  · have hge : cs.length ≤ i := by have := dF h4; omega
    rw [decide_eq_true (show G3 cs la from ⟨by omega, by omega, fun j c hc => hok j c (by have := lt_of_get hc; omega) hc⟩)]
    repeat (first | (refine oR ?_; (conv => whnf)) | refine kOps ?_ | refine oNil ?_ | refine sSeq ?_ | refine sR ?_ | refine qSeqN ?_ | refine sRet ?_ | refine sExit ?_ | refine qSeqE ?_ | refine qX ?_ | refine qLoopE ?_)
    refine qEnd ?_
    conv => whnf
    rfl
abbrev th (c : Ce) : Bool := c.st == 1 || c.st == 2
def OkC (sr : Int) (c : Ce) : Prop := if th c = true then (1 ≤ c.ob.se ∧ c.ob.se ≤ sr) ∧ 0 ≤ c.ob.sg ∧ 0 ≤ c.ob.wk ∧ (-1 ≤ c.ob.pr ∧ c.ob.pr ≤ 5) ∧ c.ob.fl.length ≤ 4 else c.ob.se = 0 ∧ c.ob.sg = 0 ∧ c.ob.wk = 0 ∧ c.ob.pr = 0 ∧ c.ob.sd = false ∧ c.ob.fl.length = 0
structure G6 (cs : List Ce) (la sr : Int) : Prop where
  g3 : G3 cs la
  sb : 0 ≤ sr
  ob : ∀ (i : Nat) (c : Ce), cs[i]? = some c → OkC sr c
  un : ∀ (i k : Nat) (c d : Ce), k < i → cs[i]? = some c → cs[k]? = some d → th c = true → th d = true → d.ob.se ≠ c.ob.se
set_option maxRecDepth 100000 in
theorem c_right6 (cs : List Ce) (la sr : Int) (hT : cs.length ≤ 1000000) : C Try.prog 17 [tS cs la sr] (.bool (decide (G6 cs la sr))) := by
  refine fnOk mixed tyOk Try.func17 (code := Try.f17.body.getD .skip) rfl rfl rfl (gC_in ?_)
  have hT2 : cs.length ≤ 1099511627776 := Nat.le_trans hT (by decide)
  have h3 := c_right3 cs la hT
  repeat (first | (refine oR ?_; (conv => whnf)) | refine kOps ?_ | refine oNil ?_ | refine sSeq ?_ | refine sR ?_ | refine qSeqN ?_)
  (refine oCall rfl (.inl rfl) rfl rfl rfl (.fz [] _) rfl ⟨rfl, c_plain ⟨cs, la, sr⟩ hT, ?_⟩; (conv => whnf))
  repeat refine kOps ?_
  by_cases g3 : G3 cs la
  rotate_left
  · rw [decide_eq_false g3] at h3
    rw [decide_eq_false (fun h : G6 cs la sr => g3 h.g3)]
    (refine oCall rfl (.inl rfl) rfl rfl rfl (.fz [] _) rfl ⟨rfl, h3, ?_⟩; (conv => whnf))
    repeat (first | (refine oR ?_; (conv => whnf)) | refine kOps ?_ | refine oH ?_ | refine oNil ?_ | refine sSeq ?_ | refine sR ?_ | refine qSeqN ?_ | refine sT ?_ | refine sRet ?_ | refine qSeqR ?_ | (refine sBT ?_; (conv => whnf)))
    refine qEnd ?_
    conv => whnf
    rfl
  rw [decide_eq_true g3] at h3
  (refine oCall rfl (.inl rfl) rfl rfl rfl (.fz [] _) rfl ⟨rfl, h3, ?_⟩; (conv => whnf))
  repeat (first | (refine oR ?_; (conv => whnf)) | refine kOps ?_ | (refine oG ?_; (conv => whnf)) | refine oNil ?_ | refine qSeqN ?_ | (refine sBF ?_; (conv => whnf)))
  refine sC rfl (fun h1 => ?_) (fun h1 => ?_)
  · have h1 := dT h1
    rw [decide_eq_false (fun h : G6 cs la sr => by have := h.sb; omega)]
    repeat (first | (refine oR ?_; (conv => whnf)) | refine kOps ?_ | refine oNil ?_ | refine sSeq ?_ | refine sR ?_ | refine qSeqN ?_ | refine sRet ?_ | refine qSeqR ?_)
    refine qEnd ?_
    conv => whnf
    rfl
  have h1 := dF h1
  repeat (first | (refine oR ?_; (conv => whnf)) | refine kOps ?_ | refine oNil ?_ | refine sSeq ?_ | refine sR ?_ | refine qSeqN ?_ | refine sSkip ?_ | refine sBlk ?_)
  refine sLoop (α := Nat) (fun i => i ≤ cs.length ∧ (∀ (j : Nat) (c : Ce), j < i → cs[j]? = some c → OkC sr c) ∧ ∀ (j k : Nat) (c d : Ce), j < i → k < j → cs[j]? = some c → cs[k]? = some d → th c = true → th d = true → d.ob.se ≠ c.ob.se) (fun i => ⟨tl [(1, .ptr 0 0 0), (3, eI (i : Int))], Ll [(0, .box 46 [encC cs, eI la, eI sr])], 120, 1, [], none⟩) (fun i => cs.length - i) 0 .kp ⟨Nat.zero_le _, fun j c hj => by omega, fun j k c d hj => by omega⟩ fun i hi => ?_
  obtain ⟨hi, hok, hun⟩ := hi
  repeat (first | (refine oR ?_; (conv => whnf)) | refine kOps ?_ | refine oNil ?_ | refine sSeq ?_ | refine sR ?_ | refine qSeqN ?_)
  refine sC rfl (fun h4 => ?_) (fun h4 => ?_)
  rotate_left
  · have hge : cs.length ≤ i := by have := dF h4; simpa using this
    rw [decide_eq_true (show G6 cs la sr from ⟨g3, by omega, fun j c hc => hok j c (by have := lt_of_get hc; omega) hc, fun j k c d hk hc => hun j k c d (by have := lt_of_get hc; omega) hk hc⟩)]
    repeat (first | (refine oR ?_; (conv => whnf)) | refine kOps ?_ | refine oNil ?_ | refine sSeq ?_ | refine sR ?_ | refine qSeqN ?_ | refine sRet ?_ | refine sExit ?_ | refine qSeqE ?_ | refine qX ?_ | refine qLoopE ?_)
    refine qEnd ?_
    conv => whnf
    rfl
  have hlt : i < cs.length := by have := dT h4; simpa using this
  obtain ⟨c, hc⟩ : ∃ c, cs[i]? = some c := ⟨_, List.getElem?_eq_getElem hlt⟩
  have hth := c_there c
  repeat (first | (refine oR ?_; (conv => whnf)) | refine kOps ?_ | refine sSeq ?_ | refine sR ?_ | refine qSeqN ?_ | refine sSkip ?_ | refine sBlk ?_)
  refine ⟨i, _, rfl, encC_get hc, ?_⟩
  conv => whnf
  repeat (first | (refine oR ?_; (conv => whnf)) | refine kOps ?_ | refine oNil ?_ | refine sSeq ?_ | refine sR ?_ | refine qSeqN ?_)
  cases ht : (c.st == 1 || c.st == 2) with
  | false =>
    have hto : ¬ th c = true := by rw [th, ht]; decide
    rw [ht] at hth
    have key : ∀ (p : Prop), (OkC sr c → p) → ¬ p → decide (G6 cs la sr) = false := fun p h1 h2 => decide_eq_false fun h => h2 (h1 (h.ob i c hc))
    (refine oCall rfl (.inl rfl) rfl rfl rfl (.fz [] _) rfl ⟨rfl, hth, ?_⟩; (conv => whnf))
    repeat (first | (refine oR ?_; (conv => whnf)) | refine kOps ?_ | refine oNil ?_ | refine sSeq ?_ | refine sR ?_ | refine qSeqN ?_ | refine sT ?_)
    refine oS rfl rfl rfl (fun h5 => ?_) (fun h5 => ?_)
    · rw [key _ (fun h => by rw [OkC, if_neg hto] at h; exact h.1) (by simpa using h5)]
      repeat (first | (refine oR ?_; (conv => whnf)) | refine kOps ?_ | refine oH ?_ | refine oNil ?_ | refine sSeq ?_ | refine sR ?_ | refine qSeqN ?_ | refine sT ?_ | refine sRet ?_ | refine qSeqR ?_ | refine qBlkR ?_ | refine qLoopR ?_ | (refine sBT ?_; (conv => whnf)))
      refine qEnd ?_
      conv => whnf
      rfl
    repeat (first | (refine oR ?_; (conv => whnf)) | refine kOps ?_ | (refine oG ?_; (conv => whnf)) | (refine sBF ?_; (conv => whnf)))
    refine oS rfl rfl rfl (fun h6 => ?_) (fun h6 => ?_)
    · rw [key _ (fun h => by rw [OkC, if_neg hto] at h; exact h.2.1) (by simpa using h6)]
      repeat (first | (refine oR ?_; (conv => whnf)) | refine kOps ?_ | refine oH ?_ | refine oNil ?_ | refine sSeq ?_ | refine sR ?_ | refine qSeqN ?_ | refine sT ?_ | refine sRet ?_ | refine qSeqR ?_ | refine qBlkR ?_ | refine qLoopR ?_ | (refine sBT ?_; (conv => whnf)))
      refine qEnd ?_
      conv => whnf
      rfl
    repeat (first | (refine oR ?_; (conv => whnf)) | refine kOps ?_ | (refine oG ?_; (conv => whnf)) | (refine sBF ?_; (conv => whnf)))
    refine oS rfl rfl rfl (fun h7 => ?_) (fun h7 => ?_)
    · rw [key _ (fun h => by rw [OkC, if_neg hto] at h; exact h.2.2.1) (by simpa using h7)]
      repeat (first | (refine oR ?_; (conv => whnf)) | refine kOps ?_ | refine oH ?_ | refine oNil ?_ | refine sSeq ?_ | refine sR ?_ | refine qSeqN ?_ | refine sT ?_ | refine sRet ?_ | refine qSeqR ?_ | refine qBlkR ?_ | refine qLoopR ?_ | (refine sBT ?_; (conv => whnf)))
      refine qEnd ?_
      conv => whnf
      rfl
    repeat (first | (refine oR ?_; (conv => whnf)) | refine kOps ?_ | (refine oG ?_; (conv => whnf)) | (refine sBF ?_; (conv => whnf)))
    refine oS rfl rfl rfl (fun h8 => ?_) (fun h8 => ?_)
    · rw [key _ (fun h => by rw [OkC, if_neg hto] at h; exact h.2.2.2.1) (by simpa using h8)]
      repeat (first | (refine oR ?_; (conv => whnf)) | refine kOps ?_ | refine oH ?_ | refine oNil ?_ | refine sSeq ?_ | refine sR ?_ | refine qSeqN ?_ | refine sT ?_ | refine sRet ?_ | refine qSeqR ?_ | refine qBlkR ?_ | refine qLoopR ?_ | (refine sBT ?_; (conv => whnf)))
      refine qEnd ?_
      conv => whnf
      rfl
    repeat (first | (refine oR ?_; (conv => whnf)) | refine kOps ?_ | (refine oG ?_; (conv => whnf)) | (refine sBF ?_; (conv => whnf)))
    refine oS rfl rfl rfl (fun h9 => ?_) (fun h9 => ?_)
    · rw [key _ (fun h => by rw [OkC, if_neg hto] at h; exact h.2.2.2.2.1) (by simpa using h9)]
      repeat (first | (refine oR ?_; (conv => whnf)) | refine kOps ?_ | refine oH ?_ | refine oNil ?_ | refine sSeq ?_ | refine sR ?_ | refine qSeqN ?_ | refine sT ?_ | refine sRet ?_ | refine qSeqR ?_ | refine qBlkR ?_ | refine qLoopR ?_ | (refine sBT ?_; (conv => whnf)))
      refine qEnd ?_
      conv => whnf
      rfl
    repeat (first | (refine oR ?_; (conv => whnf)) | refine kOps ?_ | (refine oG ?_; (conv => whnf)) | refine oNil ?_ | refine qSeqN ?_ | (refine sBF ?_; (conv => whnf)))
    refine sC rfl (fun h10 => ?_) (fun h10 => ?_)
    · rw [key _ (fun h => by rw [OkC, if_neg hto] at h; exact h.2.2.2.2.2) (by simpa using h10)]
      repeat (first | (refine oR ?_; (conv => whnf)) | refine kOps ?_ | refine oNil ?_ | refine sSeq ?_ | refine sR ?_ | refine qSeqN ?_ | refine sRet ?_ | refine qSeqR ?_ | refine qBlkR ?_ | refine qLoopR ?_)
      refine qEnd ?_
      conv => whnf
      rfl
    repeat (first | (refine oR ?_; (conv => whnf)) | refine kOps ?_ | refine oNil ?_ | refine sR ?_ | refine qSeqN ?_ | refine sSkip ?_ | refine sExit ?_ | refine qSeqE ?_ | refine qX ?_)
    refine qLoopN (i + 1) .kp ⟨hlt, fun j d hj hd => ?_, fun j k d e hj hk hd he h1 h2 => ?_⟩ (by omega)
    · rcases (show j < i ∨ j = i by omega) with hj | rfl
      · exact hok j d hj hd
      · rw [hc] at hd
        cases hd
        rw [OkC, if_neg hto]
        exact ⟨by simpa using h5, by simpa using h6, by simpa using h7, by simpa using h8, by simpa using h9, by simpa using h10⟩
    · rcases (show j < i ∨ j = i by omega) with hj | rfl
      · exact hun j k d e hj hk hd he h1 h2
      · rw [hc] at hd
        cases hd
        exact absurd h1 hto
  | true =>
    have hto : th c = true := ht
    rw [ht] at hth
    have key : ∀ (p : Prop), (OkC sr c → p) → ¬ p → decide (G6 cs la sr) = false := fun p h1 h2 => decide_eq_false fun h => h2 (h1 (h.ob i c hc))
    (refine oCall rfl (.inl rfl) rfl rfl rfl (.fz [] _) rfl ⟨rfl, hth, ?_⟩; (conv => whnf))
    repeat (first | (refine oR ?_; (conv => whnf)) | refine kOps ?_ | refine oNil ?_ | refine sSeq ?_ | refine sR ?_ | refine qSeqN ?_ | refine sSkip ?_ | refine sF ?_)
    refine oS rfl rfl rfl (fun h5 => ?_) (fun h5 => ?_)
    · have h5 := dT h5
      rw [key (1 ≤ c.ob.se) (fun h => by rw [OkC, if_pos hto] at h; exact h.1.1) (by omega)]
      repeat (first | (refine oR ?_; (conv => whnf)) | refine kOps ?_ | refine oH ?_ | refine oNil ?_ | refine sSeq ?_ | refine sR ?_ | refine qSeqN ?_ | refine sT ?_ | refine sRet ?_ | refine qSeqR ?_ | refine qBlkR ?_ | refine qLoopR ?_ | (refine sBT ?_; (conv => whnf)))
      refine qEnd ?_
      conv => whnf
      rfl
    have h5 := dF h5
    repeat (first | (refine oR ?_; (conv => whnf)) | refine kOps ?_ | (refine oG ?_; (conv => whnf)) | (refine sBF ?_; (conv => whnf)))
    refine oS rfl rfl rfl (fun h6 => ?_) (fun h6 => ?_)
    · have h6 := dT h6
      rw [key (c.ob.se ≤ sr) (fun h => by rw [OkC, if_pos hto] at h; exact h.1.2) (by omega)]
      repeat (first | (refine oR ?_; (conv => whnf)) | refine kOps ?_ | refine oH ?_ | refine oNil ?_ | refine sSeq ?_ | refine sR ?_ | refine qSeqN ?_ | refine sT ?_ | refine sRet ?_ | refine qSeqR ?_ | refine qBlkR ?_ | refine qLoopR ?_ | (refine sBT ?_; (conv => whnf)))
      refine qEnd ?_
      conv => whnf
      rfl
    have h6 := dF h6
    repeat (first | (refine oR ?_; (conv => whnf)) | refine kOps ?_ | (refine oG ?_; (conv => whnf)) | (refine sBF ?_; (conv => whnf)))
    refine oS rfl rfl rfl (fun h7 => ?_) (fun h7 => ?_)
    · have h7 := dT h7
      rw [key (0 ≤ c.ob.sg) (fun h => by rw [OkC, if_pos hto] at h; exact h.2.1) (by omega)]
      repeat (first | (refine oR ?_; (conv => whnf)) | refine kOps ?_ | refine oH ?_ | refine oNil ?_ | refine sSeq ?_ | refine sR ?_ | refine qSeqN ?_ | refine sT ?_ | refine sRet ?_ | refine qSeqR ?_ | refine qBlkR ?_ | refine qLoopR ?_ | (refine sBT ?_; (conv => whnf)))
      refine qEnd ?_
      conv => whnf
      rfl
    have h7 := dF h7
    repeat (first | (refine oR ?_; (conv => whnf)) | refine kOps ?_ | (refine oG ?_; (conv => whnf)) | (refine sBF ?_; (conv => whnf)))
    refine oS rfl rfl rfl (fun h8 => ?_) (fun h8 => ?_)
    · have h8 := dT h8
      rw [key (0 ≤ c.ob.wk) (fun h => by rw [OkC, if_pos hto] at h; exact h.2.2.1) (by omega)]
      repeat (first | (refine oR ?_; (conv => whnf)) | refine kOps ?_ | refine oH ?_ | refine oNil ?_ | refine sSeq ?_ | refine sR ?_ | refine qSeqN ?_ | refine sT ?_ | refine sRet ?_ | refine qSeqR ?_ | refine qBlkR ?_ | refine qLoopR ?_ | (refine sBT ?_; (conv => whnf)))
      refine qEnd ?_
      conv => whnf
      rfl
    have h8 := dF h8
    repeat (first | (refine oR ?_; (conv => whnf)) | refine kOps ?_ | (refine oG ?_; (conv => whnf)) | (refine sBF ?_; (conv => whnf)))
    refine oS rfl rfl rfl (fun h9 => ?_) (fun h9 => ?_)
    · have h9 := dT h9
      rw [key (-1 ≤ c.ob.pr) (fun h => by rw [OkC, if_pos hto] at h; exact h.2.2.2.1.1) (by omega)]
      repeat (first | (refine oR ?_; (conv => whnf)) | refine kOps ?_ | refine oH ?_ | refine oNil ?_ | refine sSeq ?_ | refine sR ?_ | refine qSeqN ?_ | refine sT ?_ | refine sRet ?_ | refine qSeqR ?_ | refine qBlkR ?_ | refine qLoopR ?_ | (refine sBT ?_; (conv => whnf)))
      refine qEnd ?_
      conv => whnf
      rfl
    have h9 := dF h9
    repeat (first | (refine oR ?_; (conv => whnf)) | refine kOps ?_ | (refine oG ?_; (conv => whnf)) | (refine sBF ?_; (conv => whnf)))
    refine oS rfl rfl rfl (fun h10 => ?_) (fun h10 => ?_)
    · have h10 := dT h10
      rw [key (c.ob.pr ≤ 5) (fun h => by rw [OkC, if_pos hto] at h; exact h.2.2.2.1.2) (by omega)]
      repeat (first | (refine oR ?_; (conv => whnf)) | refine kOps ?_ | refine oH ?_ | refine oNil ?_ | refine sSeq ?_ | refine sR ?_ | refine qSeqN ?_ | refine sT ?_ | refine sRet ?_ | refine qSeqR ?_ | refine qBlkR ?_ | refine qLoopR ?_ | (refine sBT ?_; (conv => whnf)))
      refine qEnd ?_
      conv => whnf
      rfl
    have h10 := dF h10
    repeat (first | (refine oR ?_; (conv => whnf)) | refine kOps ?_ | (refine oG ?_; (conv => whnf)) | refine oNil ?_ | refine qSeqN ?_ | (refine sBF ?_; (conv => whnf)))
    refine sC rfl (fun h11 => ?_) (fun h11 => ?_)
    · have h11 := dT h11
      rw [key (c.ob.fl.length ≤ 4) (fun h => by rw [OkC, if_pos hto] at h; exact h.2.2.2.2) (by simp at h11; omega)]
      repeat (first | (refine oR ?_; (conv => whnf)) | refine kOps ?_ | refine oNil ?_ | refine sSeq ?_ | refine sR ?_ | refine qSeqN ?_ | refine sRet ?_ | refine qSeqR ?_ | refine qBlkR ?_ | refine qLoopR ?_)
      refine qEnd ?_
      conv => whnf
      rfl
    have h11 := dF h11
    have hokc : OkC sr c := by rw [OkC, if_pos hto]; exact ⟨by omega, by omega, by omega, by omega, by simp at h11; omega⟩
    repeat (first | (refine oR ?_; (conv => whnf)) | refine kOps ?_ | refine oNil ?_ | refine sSeq ?_ | refine sR ?_ | refine qSeqN ?_ | refine sSkip ?_ | refine sBlk ?_)
    refine sLoop (α := Nat) (fun n => n ≤ i ∧ ∀ (k : Nat) (d : Ce), k < n → cs[k]? = some d → th d = true → d.ob.se ≠ c.ob.se) (fun n => ⟨tl [(1, .ptr 0 0 0), (3, eI (i : Int)), (5, .ptr 2 0 0), (6, eI (n : Int))], Ll [(0, .box 46 [encC cs, eI la, eI sr]), (2, .box 76 c.ob.enc)], 120, 3, [], none⟩) (fun n => i - n) 0 .kp ⟨Nat.zero_le _, fun k d hk => by omega⟩ fun n hn => ?_
    obtain ⟨hn, hno⟩ := hn
    repeat (first | (refine oR ?_; (conv => whnf)) | refine kOps ?_ | refine oNil ?_ | refine sSeq ?_ | refine sR ?_ | refine qSeqN ?_)
    refine sC rfl (fun g1 => ?_) (fun g1 => ?_)
    · have g1 : n < i := by have := dT g1; omega
      have hbig : i ≤ 1099511627776 := by omega
      obtain ⟨d, hd⟩ : ∃ d, cs[n]? = some d := ⟨_, List.getElem?_eq_getElem (by omega)⟩
      have hthd := c_there d
      repeat (first | refine sSeq ?_ | refine qSeqN ?_ | refine sSkip ?_ | refine sBlk ?_ | refine sD ?_ | (apply drRun; exact rfl; exact .inl rfl; (conv => whnf); exact .mk rfl) | (apply drRun; exact rfl; exact .inl rfl; (conv => whnf)))
      refine ⟨n, _, rfl, encC_get hd, ?_⟩
      conv => whnf
      exact .mk rfl
      repeat (first | (apply drRun; exact rfl; exact .inl rfl; (conv => whnf); exact .mk rfl) | (apply drRun; exact rfl; exact .inl rfl; (conv => whnf)))
      (refine ⟨.fz [] _, rfl, hthd, ?_⟩; (conv => whnf); exact .mk rfl)
      repeat (apply drRun; exact rfl; exact .inl rfl; (conv => whnf); exact .mk rfl)
      refine drS rfl rfl rfl (fun htd => ?_) (fun htd => ?_)
      · repeat (first | (apply drRun; exact rfl; exact .inr ⟨_, _, _, rfl, rfl, rfl⟩; (conv => whnf); exact .mk rfl) | (apply drRun; exact rfl; exact .inr ⟨_, _, _, rfl, rfl, rfl⟩; (conv => whnf)))
        refine ⟨n, _, rfl, encC_get hd, ?_⟩
        conv => whnf
        exact .mk rfl
        repeat (first | refine qSeqN ?_ | (refine sBT ?_; (conv => whnf)) | exact KPl.mk rfl | (apply drRun; exact rfl; exact .inr ⟨_, _, _, rfl, rfl, rfl⟩; (conv => whnf); exact .mk rfl) | (apply drRun; exact rfl; exact .inl rfl; (conv => whnf)) | refine drNil ?_)
        refine sC rfl (fun g2 => ?_) (fun g2 => ?_)
        · have g2 : d.ob.se = c.ob.se := by simpa using g2
          rw [decide_eq_false (fun h : G6 cs la sr => h.un i n c d g1 hc hd ht htd g2)]
          repeat (first | (refine oR ?_; (conv => whnf)) | refine kOps ?_ | refine oNil ?_ | refine sSeq ?_ | refine sR ?_ | refine qSeqN ?_ | refine sRet ?_ | refine qSeqR ?_ | refine qBlkR ?_ | refine qLoopR ?_)
          refine qEnd ?_
          conv => whnf
          rfl
        · have g2 : ¬ d.ob.se = c.ob.se := by simpa using g2
          repeat (first | (refine oR ?_; (conv => whnf)) | refine kOps ?_ | refine oNil ?_ | refine sR ?_ | refine qSeqN ?_ | refine sSkip ?_ | refine qBlkN ?_)
          refine qLoopN (n + 1) .kp ⟨g1, fun k e hk he h1 => ?_⟩ (by omega)
          rcases (show k < n ∨ k = n by omega) with hk | rfl
          · exact hno k e hk he h1
          · rw [hd] at he
            cases he
            exact g2
      · repeat (first | (refine oR ?_; (conv => whnf)) | refine kOps ?_ | refine oNil ?_ | refine sR ?_ | refine qSeqN ?_ | refine sSkip ?_ | refine sF ?_ | refine qBlkN ?_ | (refine sBF ?_; (conv => whnf)) | exact KPl.mk rfl | refine dH ?_ | (apply drRun; exact rfl; exact .inl rfl; (conv => whnf)) | refine drNil ?_)
        refine qLoopN (n + 1) .kp ⟨g1, fun k e hk he h1 => ?_⟩ (by omega)
        rcases (show k < n ∨ k = n by omega) with hk | rfl
        · exact hno k e hk he h1
        · rw [hd] at he
          cases he
          rw [th, htd] at h1
          cases h1
    · have g1 : n = i := by have := dF g1; omega
      subst g1
      repeat (first | (refine oR ?_; (conv => whnf)) | refine kOps ?_ | refine oNil ?_ | refine sR ?_ | refine qSeqN ?_ | refine sExit ?_ | refine qSeqE ?_ | refine qBlkN ?_ | refine qX ?_ | refine qLoopE ?_)
      refine qLoopN (n + 1) .kp ⟨hlt, fun j d hj hd => ?_, fun j k d e hj hk hd he h1 h2 => ?_⟩ (by omega)
      · rcases (show j < n ∨ j = n by omega) with hj | rfl
        · exact hok j d hj hd
        · rw [hc] at hd
          cases hd
          exact hokc
      · rcases (show j < n ∨ j = n by omega) with hj | rfl
        · exact hun j k d e hj hk hd he h1 h2
        · rw [hc] at hd
          cases hd
          exact hno k e hk he h2
end Go.Proofs.Ytcmciimogcfakaa

/- The law's guards. -/
set_option linter.unusedVariables false
set_option linter.unusedSimpArgs false
namespace Go.Proofs.Ytcmciimogcfakaa
open Go Go.RowKit
open Classical

structure Sm (cs : List Ce) : Prop where
  hl : cs.length ≤ 30
  fl : ∀ (i : Nat) (c : Ce), cs[i]? = some c → c.ob.fl.length ≤ 10
theorem c_small (cs : List Ce) (la sr : Int) : C Try.prog 16 [tS cs la sr] (.bool (decide (Sm cs))) := by
  refine fnOk mixed tyOk Try.func16 (code := Try.f16.body.getD .skip) rfl rfl rfl (gC_in ?_)
  repeat (first | (refine oR ?_; (conv => whnf)) | refine kOps ?_ | refine oNil ?_ | refine sSeq ?_ | refine sR ?_ | refine qSeqN ?_ | refine sBlk ?_)
  refine sLoop (α := Nat) (fun i => i ≤ cs.length ∧ i ≤ 30 ∧ ∀ (j : Nat) (c : Ce), j < i → cs[j]? = some c → c.ob.fl.length ≤ 10) (fun i => ⟨tl [(1, .ptr 0 0 0), (3, eI (i : Int))], Ll [(0, .box 26 [encC cs, eI la, eI sr])], 31, 1, [], none⟩) (fun i => cs.length - i) 0 .kp ⟨Nat.zero_le _, by decide, fun j c hj => by omega⟩ fun i hi => ?_
  obtain ⟨hi, h30, hok⟩ := hi
  have hfin : ∀ (b : Bool), (b = true ↔ cs.length ≤ 30) → ¬ (i < cs.length ∧ i < 30) → b = decide (Sm cs) := fun b hb hn => by
    by_cases h : cs.length ≤ 30
    · rw [hb.2 h, decide_eq_true (show Sm cs from ⟨h, fun j c hc => hok j c (by have := lt_of_get hc; omega) hc⟩)]
    · rw [decide_eq_false (fun hs : Sm cs => h hs.hl)]
      cases b with
      | false => rfl
      | true => exact absurd (hb.1 rfl) h
  repeat (first | (refine oR ?_; (conv => whnf)) | refine kOps ?_ | refine sSeq ?_ | refine sR ?_)
  refine oS rfl rfl rfl (fun h1 => ?_) (fun h1 => ?_)
  · have h1 : i < cs.length := by have := dT h1; simpa using this
    repeat (first | (refine oR ?_; (conv => whnf)) | refine kOps ?_ | (refine oG ?_; (conv => whnf)) | refine oNil ?_ | refine qSeqN ?_ | (refine sBT ?_; (conv => whnf)))
    refine sC rfl (fun h2 => ?_) (fun h2 => ?_)
    · have h2 : i < 30 := by have := dT h2; omega
      obtain ⟨c, hc⟩ : ∃ c, cs[i]? = some c := ⟨_, List.getElem?_eq_getElem h1⟩
      have hbig : (30 : Nat) ≤ 1099511627776 := by decide
      repeat (first | (refine oR ?_; (conv => whnf)) | refine kOps ?_ | refine sSeq ?_ | refine sR ?_ | refine qSeqN ?_ | refine sSkip ?_ | refine sBlk ?_)
      refine ⟨i, _, rfl, encC_get hc, ?_⟩
      conv => whnf
      repeat (first | (refine oR ?_; (conv => whnf)) | refine kOps ?_ | refine oNil ?_ | refine qSeqN ?_)
      refine sC rfl (fun h3 => ?_) (fun h3 => ?_)
      · have h3 := dT h3
        rw [decide_eq_false (fun hs : Sm cs => by have := hs.fl i c hc; simp at h3; omega)]
        repeat (first | (refine oR ?_; (conv => whnf)) | refine kOps ?_ | refine oNil ?_ | refine sSeq ?_ | refine sR ?_ | refine qSeqN ?_ | refine sRet ?_ | refine qSeqR ?_ | refine qBlkR ?_ | refine qLoopR ?_)
        refine qEnd ?_
        conv => whnf
        rfl
      · have h3 := dF h3
        repeat (first | (refine oR ?_; (conv => whnf)) | refine kOps ?_ | refine oNil ?_ | refine sR ?_ | refine qSeqN ?_ | refine sSkip ?_ | refine qBlkN ?_)
        refine qLoopN (i + 1) .kp ⟨h1, h2, fun j d hj hd => ?_⟩ (by omega)
        rcases (show j < i ∨ j = i by omega) with hj | rfl
        · exact hok j d hj hd
        · rw [hc] at hd
          cases hd
          simp at h3
          omega
    · have h2 := dF h2
      repeat (first | (refine oR ?_; (conv => whnf)) | refine kOps ?_ | refine oNil ?_ | refine sSeq ?_ | refine sR ?_ | refine qSeqN ?_ | refine sRet ?_ | refine sExit ?_ | refine qSeqE ?_ | refine qX ?_ | refine qLoopE ?_)
      refine qEnd ?_
      conv => whnf
      refine congrArg AV.bool (hfin _ ?_ (by omega))
      simp
      omega
  · have h1 := dF h1
    repeat (first | (refine oR ?_; (conv => whnf)) | refine kOps ?_ | refine oH ?_ | refine oNil ?_ | refine sSeq ?_ | refine sR ?_ | refine qSeqN ?_ | refine sF ?_ | refine sRet ?_ | refine sExit ?_ | refine qSeqE ?_ | refine qX ?_ | refine qLoopE ?_ | (refine sBF ?_; (conv => whnf)))
    refine qEnd ?_
    conv => whnf
    refine congrArg AV.bool (hfin _ ?_ (by simp at h1; omega))
    simp
    omega
structure G12 (cs : List Ce) (la sr : Int) : Prop where
  g : G6 cs la sr
  s9 : sr < 1000000000
theorem G12.sm {cs : List Ce} {la sr : Int} (h : G12 cs la sr) : Sm cs := by
  refine ⟨by have := h.g.g3.hl; omega, fun i c hc => ?_⟩
  have := h.g.ob i c hc
  unfold OkC at this
  split at this <;> omega
theorem c_right12 (cs : List Ce) (la sr : Int) : C Try.prog 5 [tS cs la sr] (.bool (decide (G12 cs la sr))) := by
  refine fnOk mixed tyOk Try.func5 (code := Try.f5.body.getD .skip) rfl rfl rfl (gC_in ?_)
  have hs := c_small cs la sr
  by_cases h : Sm cs
  rotate_left
  · rw [decide_eq_false h] at hs
    rw [decide_eq_false (fun g : G12 cs la sr => h g.sm)]
    repeat (first | (refine oR ?_; (conv => whnf)) | refine kOps ?_ | refine oNil ?_ | refine sSeq ?_ | refine sR ?_ | refine qSeqN ?_)
    (refine oCall rfl (.inl rfl) rfl rfl rfl (.fz [] _) rfl ⟨rfl, hs, ?_⟩; (conv => whnf))
    repeat (first | (refine oR ?_; (conv => whnf)) | refine kOps ?_ | refine oH ?_ | refine oNil ?_ | refine qSeqN ?_ | refine sRet ?_ | (refine sBF ?_; (conv => whnf)))
    refine qEnd ?_
    conv => whnf
    rfl
  have hT : cs.length ≤ 1000000 := Nat.le_trans h.hl (by decide)
  have hi := c_its ⟨cs, la, sr⟩ hT
  have hr := c_right6 cs la sr hT
  rw [decide_eq_true h] at hs
  repeat (first | (refine oR ?_; (conv => whnf)) | refine kOps ?_ | refine oNil ?_ | refine sSeq ?_ | refine sR ?_ | refine qSeqN ?_)
  (refine oCall rfl (.inl rfl) rfl rfl rfl (.fz [] _) rfl ⟨rfl, hs, ?_⟩; (conv => whnf))
  repeat (first | (refine oR ?_; (conv => whnf)) | refine kOps ?_ | (refine oG ?_; (conv => whnf)) | (refine sBT ?_; (conv => whnf)))
  refine oS rfl rfl rfl (fun h1 => ?_) (fun h1 => ?_)
  · have h1 := dT h1
    repeat (first | refine kOps ?_ | (refine oG ?_; (conv => whnf)))
    (refine oCall rfl (.inr ⟨_, _, _, rfl, rfl, rfl⟩) rfl rfl rfl (.fz [] _) rfl ⟨rfl, hi, ?_⟩; (conv => whnf))
    repeat refine kOps ?_
    (refine oCall rfl (.inr ⟨_, _, _, rfl, rfl, rfl⟩) rfl rfl rfl (.fz [] _) rfl ⟨rfl, hr, ?_⟩; (conv => whnf))
    repeat (first | (refine oR ?_; (conv => whnf)) | refine kOps ?_ | refine oNil ?_ | refine qSeqN ?_ | refine sRet ?_ | (refine sBT ?_; (conv => whnf)))
    refine qEnd ?_
    conv => whnf
    exact congrArg AV.bool (decide_eq_decide.2 ⟨fun g => ⟨g, h1⟩, fun g => g.g⟩)
  · have h1 := dF h1
    rw [decide_eq_false (fun g : G12 cs la sr => h1 g.s9)]
    repeat (first | (refine oR ?_; (conv => whnf)) | refine kOps ?_ | refine oH ?_ | refine oNil ?_ | refine qSeqN ?_ | refine sRet ?_ | (refine sBF ?_; (conv => whnf)))
    refine qEnd ?_
    conv => whnf
    rfl
theorem G12.rs {cs : List Ce} {la sr : Int} (h : G12 cs la sr) : Rs cs := by
  refine ⟨h.g.g3.hl, fun c hc => ?_, fun c hc => ?_⟩
  · obtain ⟨i, hi⟩ := List.mem_iff_getElem?.1 hc
    have := h.g.g3.cl i c hi
    have := h.g.g3.lb
    omega
  · obtain ⟨i, hi⟩ := List.mem_iff_getElem?.1 hc
    have := h.g.ob i c hi
    unfold OkC at this
    split at this <;> omega
theorem c_tab (T : List Pl) (hT : T.length ≤ 1099511627776) : C Try.prog 20 [encT T] (encT T) := by
  refine fnOk mixed tyOk Try.func20 (code := Try.f20.body.getD .skip) rfl rfl rfl (gC_in ?_)
  repeat (first | (refine oR ?_; (conv => whnf)) | refine kOps ?_ | refine oNil ?_ | refine sSeq ?_ | refine sR ?_ | refine qSeqN ?_ | refine sBlk ?_)
  refine sLoop (fun i => i ≤ T.length) (fun i => ⟨tl [(0, encT T), (3, .rowf 0), (4, eI (i : Int))], Ll [(0, .rows 82 3 ((T.take i).map Pl.enc))], 20, 1, [], none⟩) (fun i => T.length - i) 0 .kp (Nat.zero_le _) fun i hi => ?_
  repeat (first | (refine oR ?_; (conv => whnf)) | refine kOps ?_ | refine oNil ?_ | refine sSeq ?_ | refine sR ?_ | refine qSeqN ?_)
  refine sC rfl (fun h1 => ?_) (fun h1 => ?_)
  · have hlt : i < T.length := by have := dT h1; simp at this; omega
    have hx : T[i]? = some T[i] := List.getElem?_eq_getElem hlt
    have hk := List.take_succ_eq_append_getElem hlt
    generalize T[i] = p at hx hk
    repeat (first | (refine oR ?_; (conv => whnf)) | refine kOps ?_ | refine sSeq ?_ | refine sR ?_ | refine qSeqN ?_ | refine sSkip ?_ | refine sBlk ?_)
    refine ⟨i, _, rfl, enc_get hx, ?_⟩
    conv => whnf
    repeat (first | (refine oR ?_; (conv => whnf)) | refine kOps ?_)
    refine ⟨by simp [oneC], roomP (by simp; omega), ?_⟩
    repeat (first | (refine oR ?_; (conv => whnf)) | refine kOps ?_ | refine oNil ?_ | refine sR ?_ | refine qSeqN ?_ | refine qBlkN ?_)
    exact qLoopN (i + 1) (.keep _ _ _ _ ⟨congrArg (Blk.rows 82 3) (by rw [hk]; simp [Pl.enc]), trivial⟩ ⟨rfl, rfl, congrArg eI (wrapS hlt hT), trivial⟩ rfl rfl) hlt (by omega)
  · have hge : T.length ≤ i := by have := dF h1; simpa using this
    repeat (first | (refine oR ?_; (conv => whnf)) | refine kOps ?_ | refine oNil ?_ | refine sSeq ?_ | refine sR ?_ | refine qSeqN ?_ | refine sRet ?_ | refine sExit ?_ | refine qSeqE ?_ | refine qX ?_ | refine qLoopE ?_)
    refine qEnd ?_
    conv => whnf
    rw [List.take_of_length_le hge]
    rfl
theorem c_even (T : List Pl) : C Try.prog 6 [encT T] (.bool (rightL T)) := by
  refine fnOk mixed tyOk Try.func6 (code := Try.f6.body.getD .skip) rfl rfl rfl (gC_in ?_)
  repeat (first | (refine oR ?_; (conv => whnf)) | refine kOps ?_ | refine oNil ?_ | refine sSeq ?_ | refine sR ?_ | refine qSeqN ?_)
  refine oS rfl rfl rfl (fun h1 => ?_) (fun h1 => ?_)
  · have hT : T.length ≤ 1099511627776 := by have := dT h1; simp at this; omega
    repeat (first | refine kOps ?_ | (refine oG ?_; (conv => whnf)))
    (refine oCall rfl (.inr ⟨_, _, _, rfl, rfl, rfl⟩) rfl rfl rfl (.fz [] _) rfl ⟨rfl, c_tab T hT, ?_⟩; (conv => whnf))
    repeat refine kOps ?_
    (refine oCall rfl (.inr ⟨_, _, _, rfl, rfl, rfl⟩) rfl rfl rfl (.fz [] _) rfl ⟨rfl, c_right T hT, ?_⟩; (conv => whnf))
    repeat (first | (refine oR ?_; (conv => whnf)) | refine kOps ?_ | refine oNil ?_ | refine qSeqN ?_ | refine sRet ?_ | (refine sBT ?_; (conv => whnf)))
    refine qEnd ?_
    conv => whnf
    rfl
  · have h1 := dF h1
    rw [show rightL T = false by rw [rightL, if_pos (by simp at h1; omega)]]
    repeat (first | (refine oR ?_; (conv => whnf)) | refine kOps ?_ | refine oH ?_ | refine oNil ?_ | refine qSeqN ?_ | refine sRet ?_ | (refine sBF ?_; (conv => whnf)))
    refine qEnd ?_
    conv => whnf
    rfl
end Go.Proofs.Ytcmciimogcfakaa

/- The document's Find and Get tell what the program's do. -/
set_option linter.unusedVariables false
set_option linter.unusedSimpArgs false
namespace Go.Proofs.Ytcmciimogcfakaa
open Go Go.RowKit
open Classical

theorem pk_parts {i g : Int} (hi : 0 ≤ i ∧ i < 24) (hg : 0 ≤ g ∧ g ≤ 9) : vlW (pk i g) = true ∧ slW (pk i g) = i ∧ geW (pk i g) = g := by
  have e : pk i g - 1 = i + 32 * g := by unfold pk; omega
  have e1 : (pk i g - 1).tmod 32 = i := by rw [e, Int.tmod_eq_emod_of_nonneg (by omega)]; omega
  have e2 : (pk i g - 1).tdiv 32 = g := by rw [e, Int.tdiv_eq_ediv_of_nonneg (by omega)]; omega
  have hv : vlW (pk i g) = true := by
    unfold vlW
    rw [e1, e2, pkW, if_neg (by omega)]
    have h1 : ¬ pk i g < 1 := by unfold pk; omega
    have h2 : ¬ 400 < pk i g := by unfold pk; omega
    simp [h1, h2]
  refine ⟨hv, ?_, ?_⟩
  · rw [slW, if_pos hv, e1]
  · rw [geW, if_pos hv, e2]
theorem vl_pk {h : Int} (hv : vlW h = true) : pk (slW h) (geW h) = h ∧ (0 ≤ slW h ∧ slW h < 24) ∧ 0 ≤ geW h ∧ geW h ≤ 9 := by
  have hs : slW h = (h - 1).tmod 32 := by rw [slW, if_pos hv]
  have hg : geW h = (h - 1).tdiv 32 := by rw [geW, if_pos hv]
  rw [hs, hg]
  unfold vlW at hv
  rw [Bool.and_eq_true] at hv
  obtain ⟨h1, h2⟩ := hv
  have h1' : 1 ≤ h := by simp at h1; omega
  have h2 : pkW ((h - 1).tmod 32) ((h - 1).tdiv 32) = h := by simpa using h2
  unfold pkW at h2
  split at h2
  · omega
  · rename_i hn
    exact ⟨h2, by omega, by omega⟩
theorem pk_inj {i j g k : Int} (hi : 0 ≤ i ∧ i < 24) (hg : 0 ≤ g ∧ g ≤ 9) (hj : 0 ≤ j ∧ j < 24) (hk : 0 ≤ k ∧ k ≤ 9) (h : pk i g = pk j k) : i = j ∧ g = k := by
  unfold pk at h
  omega
theorem pk_ne {i g : Int} (hi : 0 ≤ i) (hg : 0 ≤ g) : pk i g ≠ 0 := by unfold pk; omega
theorem findH_none {cs : List Ce} (hR : Rs cs) {h : Int} (he : findH cs h = none) {i : Nat} {c : Ce} (hc : cs[i]? = some c) (ht : c.st = 1 ∨ c.st = 2) : pk i c.gn ≠ h := by
  obtain ⟨hi, hg⟩ := hR.at hc
  unfold findH at he
  split at he
  · rename_i h0
    rw [h0]
    exact pk_ne hi.1 hg.1
  · have hm : ∀ st, c.st = st → seek cs st h = none → pk i c.gn ≠ h := fun st hst hs => by
      have := seekGo_none hs i (inIx_mem.2 ⟨Nat.zero_le _, c, by simpa using hc, hst⟩)
      rwa [gAt_of hc] at this
    split at he
    · cases he
    · rename_i h1
      rcases ht with ht | ht
      · exact hm 1 ht h1
      · exact hm 2 ht he
theorem findH_of {cs : List Ce} (hR : Rs cs) {h : Int} {i : Nat} {c : Ce} (hc : cs[i]? = some c) (ht : c.st = 1 ∨ c.st = 2) (hp : pk i c.gn = h) : findH cs h = some i := by
  cases he : findH cs h with
  | none => exact absurd hp (findH_none hR he hc ht)
  | some j =>
    obtain ⟨d, hd, _, hq⟩ := findH_some he
    obtain ⟨hi, hg⟩ := hR.at hc
    obtain ⟨hj, hk⟩ := hR.at hd
    have := (pk_inj hi hg hj hk (hp.trans hq.symm)).1
    congr 1
    omega






























































































def rGet3 (cs : List Ce) (h : Int) : AV := match findH cs h with
  | some i => if sAt cs i = 2 then .tup [eI 0, eI 3] else .tup [eI (i : Int), eI 0]
  | none => .tup [eI 0, eI (if h = 0 then 2 else 3)]
























































































end Go.Proofs.Ytcmciimogcfakaa

/- Names, Out, Times, Has, those: by the document. -/
set_option linter.unusedVariables false
set_option linter.unusedSimpArgs false
namespace Go.Proofs.Ytcmciimogcfakaa
open Go Go.RowKit
open Classical

/-- The cell of a handle that lives. -/
def liveC (cs : List Ce) (h : Int) : Option Ce := match findH cs h with
  | some i => if sAt cs i = 2 then none else cs[i]?
  | none => none
theorem rGet_cases (cs : List Ce) (h : Int) : (∃ c, liveC cs h = some c ∧ rGet cs h = .tup [.agg c.ob.enc, eI 0]) ∨ (liveC cs h = none ∧ ∃ e : Int, e ≠ 0 ∧ rGet cs h = .tup [.agg ob0.enc, eI e]) := by
  unfold liveC rGet
  cases he : findH cs h with
  | none =>
    refine .inr ⟨rfl, _, ?_, rfl⟩
    split <;> decide
  | some i =>
    obtain ⟨c, hc, _⟩ := findH_some he
    simp only [sAt_of hc, hc, Option.getD_some]
    by_cases h2 : c.st = 2
    · simp only [h2, if_true]
      exact .inr ⟨trivial, 3, by decide, rfl⟩
    · simp only [h2, if_false]
      exact .inl ⟨c, rfl, rfl⟩
def nmL (v : List Int) : List Int := v.filter (· != 0)
def outL (cs : List Ce) (h : Int) : List Int := match liveC cs h with
  | some c => nmL c.ob.fl
  | none => []
def lv (cs : List Ce) (h : Int) : Bool := (liveC cs h).isSome
theorem filter_snoc {α : Type} {p : α → Bool} {l : List α} {i : Nat} {a : α} (h : l[i]? = some a) : (l.take (i + 1)).filter p = if p a = true then (l.take i).filter p ++ [a] else (l.take i).filter p := by
  obtain ⟨h1, rfl⟩ := List.getElem?_eq_some_iff.1 h
  rw [List.take_succ_eq_append_getElem h1, List.filter_append]
  by_cases hp : p l[i] = true <;> simp [hp]
theorem filter_len {α : Type} (p : α → Bool) (l : List α) (i : Nat) : ((l.take i).filter p).length ≤ i := by
  refine Nat.le_trans (List.length_filter_le _ _) ?_
  rw [List.length_take]
  omega































theorem liveC_mem {cs : List Ce} {h : Int} {c : Ce} (hl : liveC cs h = some c) : c ∈ cs := by
  unfold liveC at hl
  split at hl
  · split at hl
    · cases hl
    · exact List.mem_of_getElem? hl
  · cases hl

























def has (l : List Int) (h : Int) : Bool := decide (0 < timesL l h)
theorem has_iff {l : List Int} {h : Int} : has l h = true ↔ h ≠ 0 ∧ h ∈ l := by
  unfold has timesL
  rw [decide_eq_true_iff, List.countP_pos_iff]
  refine ⟨fun ⟨x, hx, hp⟩ => ?_, fun ⟨h0, hm⟩ => ⟨h, hm, by simp [h0]⟩⟩
  have h2 : ¬ h = 0 ∧ x = h := by simpa using hp
  exact ⟨h2.1, h2.2 ▸ hx⟩







def thoseL (all l : List Int) (b : Bool) : List Int := all.filter fun a => has l a == b

































end Go.Proofs.Ytcmciimogcfakaa

/- The document's Sorted and Live. -/
set_option linter.unusedVariables false
set_option linter.unusedSimpArgs false
namespace Go.Proofs.Ytcmciimogcfakaa
open Go Go.RowKit
open Classical

def seA (cs : List Ce) (i : Nat) : Int := (cs[i]?.getD ce0).ob.se
def hd (cs : List Ce) (i : Nat) : Int := pk i (gAt cs i)
theorem seA_of {cs : List Ce} {i : Nat} {c : Ce} (h : cs[i]? = some c) : seA cs i = c.ob.se := by simp [seA, h]
/-- Two that are sorted and tell the same are one. -/
theorem sort_uniq {f : Nat → Int} : ∀ {X Y : List Nat}, X.Perm Y → X.Pairwise (fun a b => f a < f b) → Y.Pairwise (fun a b => f a < f b) → X = Y
  | [], Y, h, _, _ => (List.Perm.eq_nil h.symm).symm
  | a :: X, [], h, _, _ => by have := h.length_eq; simp at this
  | a :: X, b :: Y, h, hX, hY => by
    have e : a = b := by
      rw [List.pairwise_cons] at hX hY
      have ha : a ∈ b :: Y := h.subset (by simp)
      have hb : b ∈ a :: X := h.symm.subset (by simp)
      rcases List.mem_cons.1 ha with h1 | h1
      · exact h1
      · rcases List.mem_cons.1 hb with h2 | h2
        · exact h2.symm
        · have := hX.1 b h2
          have := hY.1 a h1
          omega
    subst e
    rw [sort_uniq (List.Perm.cons_inv h) (List.pairwise_cons.1 hX).2 (List.pairwise_cons.1 hY).2]
def liveX (cs : List Ce) : List Nat := (inIx 1 cs 0).mergeSort fun a b => decide (seA cs a ≤ seA cs b)
def liveL (cs : List Ce) : List Int := (liveX cs).map (hd cs)
/-- Serials part those who are there. -/
def Un (cs : List Ce) : Prop := ∀ (i k : Nat) (c d : Ce), k < i → cs[i]? = some c → cs[k]? = some d → th c = true → th d = true → d.ob.se ≠ c.ob.se
theorem inIx_nodup (st : Int) : ∀ (cs : List Ce) (k : Nat), (inIx st cs k).Pairwise (· < ·)
  | [], _ => .nil
  | c :: cs, k => by
    unfold inIx
    split
    · rw [List.pairwise_cons]
      exact ⟨fun i hi => by have := (inIx_mem.1 hi).1; omega, inIx_nodup st cs (k + 1)⟩
    · exact inIx_nodup st cs (k + 1)
theorem inIx_len (st : Int) : ∀ (cs : List Ce) (k : Nat), (inIx st cs k).length ≤ cs.length
  | [], _ => Nat.le_refl _
  | c :: cs, k => by
    have := inIx_len st cs (k + 1)
    unfold inIx
    split <;> simp <;> omega
theorem seA_ne {cs : List Ce} (hU : Un cs) {a b : Nat} (ha : a ∈ inIx 1 cs 0) (hb : b ∈ inIx 1 cs 0) (h : a ≠ b) : seA cs a ≠ seA cs b := by
  obtain ⟨_, c, hc, hcs⟩ := inIx_mem.1 ha
  obtain ⟨_, d, hd, hds⟩ := inIx_mem.1 hb
  rw [Nat.sub_zero] at hc hd
  rw [seA_of hc, seA_of hd]
  have h1 : th c = true := by simp [th, hcs]
  have h2 : th d = true := by simp [th, hds]
  rcases Nat.lt_or_ge a b with hlt | hge
  · exact hU b a d c hlt hd hc h2 h1
  · exact fun he => hU a b c d (by omega) hc hd h1 h2 he.symm
theorem liveX_perm (cs : List Ce) : (liveX cs).Perm (inIx 1 cs 0) := List.mergeSort_perm _ _
theorem liveX_of {cs : List Ce} (hU : Un cs) {X : List Nat} (hp : X.Perm (inIx 1 cs 0)) (hs : X.Pairwise fun a b => seA cs a < seA cs b) : X = liveX cs := by
  refine sort_uniq (hp.trans (liveX_perm cs).symm) hs ?_
  have h1 : (liveX cs).Pairwise fun a b => decide (seA cs a ≤ seA cs b) = true := List.pairwise_mergeSort (fun a b c h1 h2 => by simp at *; omega) (fun a b => by simp; omega) _
  have h2 : (liveX cs).Nodup := (liveX_perm cs).symm.nodup ((inIx_nodup 1 cs 0).imp fun h => by omega)
  refine (h1.and h2).imp_of_mem fun {a b} ha hb h => ?_
  have := seA_ne hU ((liveX_perm cs).subset ha) ((liveX_perm cs).subset hb) h.2
  have := h.1
  simp at this
  omega
theorem swap_perm : ∀ (X : List Nat) (j : Nat) (a b : Nat), X[j]? = some a → X[j + 1]? = some b → ((X.set (j + 1) a).set j b).Perm X
  | [], _, _, _, h, _ => by simp at h
  | x :: X, 0, a, b, h1, h2 => by
    cases X with
    | nil => simp at h2
    | cons y Y =>
      simp at h1 h2
      subst h1
      subst h2
      exact .swap _ _ _
  | x :: X, j + 1, a, b, h1, h2 => by
    simp only [List.set_cons_succ]
    exact .cons _ (swap_perm X j a b (by simpa using h1) (by simpa using h2))
/-- All but what stands at k is sorted, up to i. -/
def J (cs : List Ce) (i k : Nat) (X : List Nat) : Prop := ∀ (p q a b : Nat), p < q → q ≤ i → X[p]? = some a → X[q]? = some b → q ≠ k → seA cs a < seA cs b
theorem J.swap {cs : List Ce} {i k : Nat} {X : List Nat} (h : J cs i (k + 1) X) {a b : Nat} (ha : X[k]? = some a) (hb : X[k + 1]? = some b) (hk : k + 1 ≤ i) (hlt : seA cs b < seA cs a) : J cs i k ((X.set (k + 1) a).set k b) := by
  intro p q x y hpq hq hx hy hqk
  have l1 := lt_of_get ha
  have l2 := lt_of_get hb
  rw [List.getElem?_set, List.getElem?_set] at hx hy
  simp only [List.length_set] at hx hy
  rw [if_neg (by omega)] at hy
  by_cases hq1 : k + 1 = q
  · subst hq1
    rw [if_pos rfl, if_pos l2] at hy
    cases hy
    by_cases hp1 : k = p
    · subst hp1
      rw [if_pos rfl, if_pos l1] at hx
      cases hx
      exact hlt
    · rw [if_neg hp1, if_neg (by omega)] at hx
      exact h p k x a (by omega) (by omega) hx ha (by omega)
  · rw [if_neg hq1] at hy
    by_cases hp1 : k = p
    · subst hp1
      rw [if_pos rfl, if_pos l1] at hx
      cases hx
      exact h (k + 1) q b y (by omega) hq hb hy (by omega)
    · rw [if_neg hp1] at hx
      by_cases hp2 : k + 1 = p
      · subst hp2
        rw [if_pos rfl, if_pos l2] at hx
        cases hx
        exact h k q a y (by omega) hq ha hy (by omega)
      · rw [if_neg hp2] at hx
        exact h p q x y hpq hq hx hy (by omega)
theorem J.done {cs : List Ce} {i k : Nat} {X : List Nat} (h : J cs i k X) (hk : k = 0 ∨ ∃ (j a b : Nat), k = j + 1 ∧ X[j]? = some a ∧ X[k]? = some b ∧ seA cs a < seA cs b) : ∀ (p q a b : Nat), p < q → q ≤ i → X[p]? = some a → X[q]? = some b → seA cs a < seA cs b := by
  intro p q x y hpq hq hx hy
  by_cases hqk : q = k
  · rcases hk with rfl | ⟨j, a, b, rfl, ha, hb, hlt⟩
    · omega
    · subst hqk
      rw [hb] at hy
      cases hy
      by_cases hpj : p = j
      · subst hpj
        rw [ha] at hx
        cases hx
        exact hlt
      · have := h p j x a (by omega) (by omega) hx ha (by omega)
        omega
  · exact h p q x y hpq hq hx hy hqk
theorem hd_of {cs : List Ce} {i : Nat} {c : Ce} (h : cs[i]? = some c) : hd cs i = pk i c.gn := by rw [hd, gAt_of h]
theorem find_live {cs : List Ce} (hR : Rs cs) {i : Nat} (hi : i ∈ inIx 1 cs 0) : ∃ c, cs[i]? = some c ∧ c.st = 1 ∧ findH cs (hd cs i) = some i := by
  obtain ⟨_, c, hc, hcs⟩ := inIx_mem.1 hi
  rw [Nat.sub_zero] at hc
  exact ⟨c, hc, hcs, findH_of hR hc (.inl hcs) (hd_of hc).symm⟩
theorem row_get {cs : List Ce} {X : List Nat} {i a : Nat} (h : X[i]? = some a) : (rI (X.map (hd cs)))[i]? = some [eI (hd cs a)] := by
  simp [rI, h]
theorem row_set {cs : List Ce} {X : List Nat} {i a : Nat} : (rI (X.map (hd cs))).set i [eI (hd cs a)] = rI ((X.set i a).map (hd cs)) := by
  simp [rI, List.map_set]








































































































































theorem liveX_mem {cs : List Ce} {i : Nat} : i ∈ liveX cs ↔ ∃ c, cs[i]? = some c ∧ c.st = 1 := by
  rw [(liveX_perm cs).mem_iff, inIx_mem]
  simp











































end Go.Proofs.Ytcmciimogcfakaa

/- The document's reach. -/
set_option linter.unusedVariables false
set_option linter.unusedSimpArgs false
namespace Go.Proofs.Ytcmciimogcfakaa
open Go Go.RowKit
open Classical

def stepL (cs : List Ce) (seen : List Int) : List Int := thoseL (liveL cs) (seen ++ seen.flatMap (outL cs)) true
def itrL (cs : List Ce) (l : List Int) : Nat → List Int
  | 0 => thoseL (liveL cs) l true
  | n + 1 => stepL cs (itrL cs l n)
def rFromL (cs : List Ce) (l : List Int) : List Int := itrL cs l (liveL cs).length
theorem liveL_len {cs : List Ce} (hR : Rs cs) : (liveL cs).length ≤ 24 := by
  rw [liveL, List.length_map, (liveX_perm cs).length_eq]
  exact Nat.le_trans (inIx_len 1 cs 0) hR.hl
theorem thoseL_len {all l : List Int} {b : Bool} : (thoseL all l b).length ≤ all.length := List.length_filter_le _ _
theorem itrL_len {cs : List Ce} (hR : Rs cs) (l : List Int) : ∀ n, (itrL cs l n).length ≤ 24
  | 0 => Nat.le_trans thoseL_len (liveL_len hR)
  | n + 1 => Nat.le_trans thoseL_len (liveL_len hR)
theorem outL_len {cs : List Ce} (hR : Rs cs) (h : Int) : (outL cs h).length ≤ 4 := by
  unfold outL
  split
  · rename_i c hc
    exact Nat.le_trans (List.length_filter_le _ _) (hR.fl c (liveC_mem hc))
  · decide
theorem outs_len {cs : List Ce} (hR : Rs cs) : ∀ (l : List Int), (l.flatMap (outL cs)).length ≤ 4 * l.length
  | [] => by simp
  | h :: l => by
    have := outs_len hR l
    have := outL_len hR h
    rw [List.flatMap_cons, List.length_append, List.length_cons]
    omega
theorem flat_snoc {f : Int → List Int} {l : List Int} {i : Nat} {a : Int} (h : l[i]? = some a) : (l.take (i + 1)).flatMap f = (l.take i).flatMap f ++ f a := by
  obtain ⟨h1, rfl⟩ := List.getElem?_eq_some_iff.1 h
  rw [List.take_succ_eq_append_getElem h1, List.flatMap_append]
  simp
theorem ones1 (l : List Int) : ∀ y ∈ l.map (fun n => [eI n]), y.length = 1 ∧ y.all oneC = true := fun y hy => by
  obtain ⟨p, _, rfl⟩ := List.mem_map.1 hy
  exact ⟨rfl, rfl⟩



























































end Go.Proofs.Ytcmciimogcfakaa

/- The document's closed sets and rounds. -/
set_option linter.unusedVariables false
set_option linter.unusedSimpArgs false
namespace Go.Proofs.Ytcmciimogcfakaa
open Go Go.RowKit
open Classical

def rCl (cs : List Ce) (l : List Int) : Prop := ∀ a ∈ thoseL (liveL cs) l true, ∀ x ∈ thoseL (liveL cs) (outL cs a) true, has l x = true




































































































def heldP (cs : List Ce) (l : List Int) (q : Pr) : Bool := lv cs q.1 && has l q.1 && lv cs q.2
def heldL (cs : List Ce) (T : List Pl) (l : List Int) : List Int := ((pairsL T).filter (heldP cs l)).map (·.2)






























































end Go.Proofs.Ytcmciimogcfakaa

/- The document's rounds. -/
set_option linter.unusedVariables false
set_option linter.unusedSimpArgs false
namespace Go.Proofs.Ytcmciimogcfakaa
open Go Go.RowKit
open Classical

def nthR (cs : List Ce) (T : List Pl) (l : List Int) : Nat → List Int
  | 0 => rFromL cs l
  | n + 1 => rFromL cs (nthR cs T l n ++ heldL cs T (nthR cs T l n))
theorem rFromL_len {cs : List Ce} (hR : Rs cs) (l : List Int) : (rFromL cs l).length ≤ 24 := itrL_len hR l _
theorem nthR_len {cs : List Ce} (hR : Rs cs) (T : List Pl) (l : List Int) : ∀ n, (nthR cs T l n).length ≤ 24
  | 0 => rFromL_len hR l
  | n + 1 => rFromL_len hR _
theorem heldL_len (cs : List Ce) (T : List Pl) (l : List Int) : (heldL cs T l).length ≤ T.length := by
  rw [heldL, List.length_map]
  exact Nat.le_trans (List.length_filter_le _ _) (pairsL_le T)
/-- The rounds end at N. -/
structure RN (cs : List Ce) (T : List Pl) (l : List Int) (N : Nat) : Prop where
  lt : N < 30
  ne : ∀ n, n < N → nthR cs T l (n + 1) ≠ nthR cs T l n
  eq : nthR cs T l (N + 1) = nthR cs T l N

















































































def lostL (cs : List Ce) (l : List Int) : List Int := (liveL cs).filter fun a => !has l a















































def rCl12 (cs : List Ce) (T : List Pl) (l : List Int) : Prop := (∀ v ∈ heldL cs T l, has l v = true) ∧ rCl cs l

















































end Go.Proofs.Ytcmciimogcfakaa

/- Names, Out; queues; Contains. -/
set_option linter.unusedVariables false
set_option linter.unusedSimpArgs false
namespace Go.Proofs.Ytcmciimogcfakaa
open Go Go.RowKit
open Classical

def nmItems (v : List Int) : List (List AV) := (nmL v).map fun n => [eI n]
theorem c_named (v : List Int) : C Try.prog 86 [encI v] (.fn 98 [.vptr [encI v]]) := by
  refine fnOk mixed tyOk Try.func86 (code := Try.f86.body.getD .skip) rfl rfl rfl (gC_in ?_)
  repeat (first | (refine oR ?_; (conv => whnf)) | refine kOps ?_ | refine oNil ?_ | refine sSeq ?_ | refine sR ?_ | refine qSeqN ?_ | refine sRet ?_)
  refine qEnd ?_
  conv => whnf
  rfl
theorem filter_at {α : Type} {p : α → Bool} {l : List α} {i : Nat} {a : α} (h : l[i]? = some a) (hp : p a = true) : (l.filter p)[((l.take i).filter p).length]? = some a := by
  have e := filter_snoc (p := p) h
  rw [if_pos hp] at e
  have : l.filter p = (l.take (i + 1)).filter p ++ (l.drop (i + 1)).filter p := by rw [← List.filter_append, List.take_append_drop]
  rw [this, e]
  simp
theorem it_named (v : List Int) (hT : v.length ≤ 1099511627776) : IT Try.prog 98 [.vptr [encI v]] (nmItems v) := by
  refine itOk mixed tyOk Try.func98 (code := Try.f98.body.getD .skip) rfl rfl rfl rfl (gC_in ?_)
  have hlen : (v.map fun n => [eI n]).length = v.length := List.length_map _
  repeat (first | (refine oR ?_; (conv => whnf)) | refine kOps ?_ | refine oNil ?_ | refine sSeq ?_ | refine sR ?_ | refine qSeqN ?_ | refine sBlk ?_)
  refine sLoop (α := Nat) (fun i => i ≤ v.length) (fun i => ⟨tl [(0, .yld), (5, encI v), (6, eI v.length), (7, eI (i : Int))], Ll [], 20, 0, [], some (nmL (v.take i)).length⟩) (fun i => v.length - i) 0
    (.keep _ _ _ _ trivial ⟨rfl, rfl, congrArg (fun n : Nat => eI n) hlen, rfl, trivial⟩ rfl rfl) (Nat.zero_le _) fun i hi => ?_
  repeat (first | (refine oR ?_; (conv => whnf)) | refine kOps ?_ | refine oNil ?_ | refine sSeq ?_ | refine sR ?_ | refine qSeqN ?_)
  refine sC rfl (fun h1 => ?_) (fun h1 => ?_)
  · have hlt : i < v.length := by have := dT h1; omega
    obtain ⟨n, hn⟩ : ∃ n, v[i]? = some n := ⟨_, List.getElem?_eq_getElem hlt⟩
    have hk : nmL (v.take (i + 1)) = if (n != 0) = true then nmL (v.take i) ++ [n] else nmL (v.take i) := filter_snoc hn
    repeat (first | (refine oR ?_; (conv => whnf)) | refine sSeq ?_ | refine sR ?_ | refine qSeqN ?_ | refine sSkip ?_ | refine sBlk ?_)
    refine ⟨i, _, rfl, encI_get hn, ?_⟩
    conv => whnf
    repeat (first | (refine oR ?_; (conv => whnf)) | refine kOps ?_ | refine oNil ?_ | refine sSeq ?_ | refine sR ?_ | refine qSeqN ?_)
    refine oS rfl rfl rfl (fun h2 => ?_) (fun h2 => ?_)
    · rw [if_pos h2] at hk
      have hitem : (nmItems v)[(nmL (v.take i)).length]? = some [eI n] := by
        unfold nmItems
        rw [List.getElem?_map, nmL, nmL, filter_at hn h2]; rfl
      have hy : (nmL (v.take (i + 1))).length = (nmL (v.take i)).length + 1 := by rw [hk]; simp
      repeat (first | refine kOps ?_ | (refine oG ?_; (conv => whnf)))
      refine oYield rfl (.inr ⟨_, _, _, rfl, rfl, rfl⟩) rfl rfl rfl («as» := [eI n]) rfl ?_
      refine ⟨_, _, rfl, hitem, rfl, rfl, kY ?_, kY ?_⟩
      · repeat (first | (refine oR ?_; (conv => whnf)) | refine kOps ?_ | (refine oG ?_; (conv => whnf)) | refine oNil ?_ | refine sR ?_ | refine qSeqN ?_ | refine sSkip ?_ | refine sF ?_ | refine qBlkN ?_ | (refine sBT ?_; (conv => whnf)))
        refine qLoopN (i + 1) ?_ (show i + 1 ≤ v.length by omega) (by omega)
        simp only [hy]
        exact .kp
      · repeat (first | (refine oR ?_; (conv => whnf)) | refine kOps ?_ | (refine oG ?_; (conv => whnf)) | refine oNil ?_ | refine qSeqN ?_ | refine sT ?_ | refine sRet ?_ | refine qSeqR ?_ | refine qBlkR ?_ | refine qLoopR ?_ | (refine sBT ?_; (conv => whnf)))
        exact qIt (.inr rfl)
    · rw [if_neg (by simp [h2])] at hk
      repeat (first | (refine oR ?_; (conv => whnf)) | refine kOps ?_ | refine oH ?_ | refine oNil ?_ | refine sR ?_ | refine qSeqN ?_ | refine sSkip ?_ | refine sF ?_ | refine qBlkN ?_ | (refine sBF ?_; (conv => whnf)))
      refine qLoopN (i + 1) ?_ (show i + 1 ≤ v.length by omega) (by omega)
      simp only [hk]
      exact .kp
  · have hge : v.length ≤ i := by have := dF h1; omega
    repeat (first | refine sExit ?_ | refine qSeqE ?_ | refine qX ?_ | refine qLoopE ?_)
    refine qItN (.inl ?_)
    show some (nmL (v.take i)).length = some (nmItems v).length
    rw [List.take_of_length_le hge]
    simp [nmItems]
theorem c_appseq (v : List Int) (hT : v.length ≤ 1099511627776) : C Try.prog 97 [.nilsl, .fn 98 [.vptr [encI v]]] (encI (nmL v)) := by
  refine fnOk mixed tyOk Try.func97 (code := Try.f97.body.getD .skip) rfl rfl rfl (gC_in ?_)
  have hle : (nmL v).length ≤ v.length := List.length_filter_le _ _
  repeat (first | (refine oR ?_; (conv => whnf)) | refine kOps ?_ | refine oNil ?_ | refine sSeq ?_ | refine sR ?_ | refine qSeqN ?_ | refine sBlk ?_)
  refine forIn rfl rfl (it_named v hT) (fun i => ⟨tl [(2, .ptr 0 0 0)], Ll [(0, .box 28 [.rowf 1]), (1, .rows 3 1 (rI ((nmL v).take i)))], 13, 2, [], none⟩) (fun _ => True)
    (.trans (.adoptB 0 1 28 3 1 rfl rfl (by decide)) .kp) trivial (fun i z hi hz => ?_) (fun hn => ?_)
  · obtain ⟨n, hq, rfl⟩ := get_map hz
    have hlt := lt_of_get hq
    refine ⟨rfl, rfl, ?_⟩
    repeat (first | (refine oR ?_; (conv => whnf)) | refine kOps ?_ | refine oNil ?_ | refine sR ?_)
    refine qAs ?_
    repeat (first | (refine oR ?_; (conv => whnf)) | refine kOps ?_ | refine sR ?_ | refine sBlk ?_)
    refine ⟨by simp [oneC], roomI (by simp [rI]; omega), ?_⟩
    repeat (first | (refine oR ?_; (conv => whnf)) | refine kOps ?_ | refine oNil ?_ | refine qBlkN ?_)
    refine qRndN (.keep _ _ _ _ ⟨rfl, congrArg (Blk.rows 3 1) ?_, trivial⟩ ⟨rfl, trivial⟩ rfl rfl) trivial
    obtain ⟨h1, h2⟩ := List.getElem?_eq_some_iff.1 hq
    rw [List.take_succ_eq_append_getElem h1, h2]
    simp [rI]
  · repeat (first | (refine oR ?_; (conv => whnf)) | refine kOps ?_ | refine oNil ?_ | refine sSeq ?_ | refine sR ?_ | refine qSeqN ?_ | refine sRet ?_ | refine qBlkN ?_)
    refine qEnd ?_
    conv => whnf
    rw [List.take_of_length_le (by simp [nmItems])]
    rfl
theorem c_collect (v : List Int) (hT : v.length ≤ 1099511627776) : C Try.prog 85 [.fn 98 [.vptr [encI v]]] (encI (nmL v)) := by
  refine fnOk mixed tyOk Try.func85 (code := Try.f85.body.getD .skip) rfl rfl rfl (gC_in ?_)
  repeat (first | (refine oR ?_; (conv => whnf)) | refine kOps ?_ | refine oNil ?_ | refine sSeq ?_ | refine sR ?_ | refine qSeqN ?_)
  refine oCall rfl (.inl rfl) rfl rfl rfl (.ef [] (encI (nmL v)) []) rfl ⟨⟨rfl, rfl, rfl, rfl⟩, c_appseq v hT, ?_⟩
  conv => whnf
  repeat (first | (refine oR ?_; (conv => whnf)) | refine kOps ?_ | refine oNil ?_ | refine qSeqN ?_ | refine sRet ?_)
  refine qEnd ?_
  conv => whnf
  rfl
theorem c_names (v : List Int) (hT : v.length ≤ 1099511627776) : C Try.prog 74 [encI v] (encI (nmL v)) := by
  refine fnOk mixed tyOk Try.func74 (code := Try.f74.body.getD .skip) rfl rfl rfl (gC_in ?_)
  repeat (first | (refine oR ?_; (conv => whnf)) | refine kOps ?_ | refine oNil ?_ | refine sSeq ?_ | refine sR ?_ | refine qSeqN ?_)
  (refine oCall rfl (.inl rfl) rfl rfl rfl (.fz [] _) rfl ⟨rfl, c_named v, ?_⟩; (conv => whnf))
  repeat refine kOps ?_
  (refine oCall rfl (.inl rfl) rfl rfl rfl (.fz [] _) rfl ⟨rfl, c_collect v hT, ?_⟩; (conv => whnf))
  repeat (first | (refine oR ?_; (conv => whnf)) | refine kOps ?_ | refine oNil ?_ | refine qSeqN ?_ | refine sRet ?_)
  refine qEnd ?_
  conv => whnf
  rfl
theorem c_out (cs : List Ce) (la sr h : Int) (hR : Rs cs) : C Try.prog 54 [tS cs la sr, eI h] (encI (outL cs h)) := by
  refine fnOk mixed tyOk Try.func54 (code := Try.f54.body.getD .skip) rfl rfl rfl (gC_in ?_)
  have hg := c_get6 ⟨cs, la, sr⟩ h hR
  unfold outL
  rcases rGet_cases cs h with ⟨c, hl, hr⟩ | ⟨hl, e, he, hr⟩
  · rw [hr] at hg
    rw [hl]
    repeat (first | (refine oR ?_; (conv => whnf)) | refine kOps ?_ | refine oNil ?_ | refine sSeq ?_ | refine sR ?_ | refine qSeqN ?_)
    (refine oCall rfl (.inl rfl) rfl rfl rfl (.fz [] _) rfl ⟨rfl, hg, ?_⟩; (conv => whnf))
    repeat (first | (refine oR ?_; (conv => whnf)) | refine kOps ?_ | refine oNil ?_ | refine sSeq ?_ | refine sR ?_ | refine qSeqN ?_ | refine sT ?_)
    (refine oCall rfl (.inl rfl) rfl rfl rfl (.fz [] _) rfl ⟨rfl, c_names c.ob.fl (Nat.le_trans (hR.fl c (liveC_mem hl)) (by decide)), ?_⟩; (conv => whnf))
    repeat (first | (refine oR ?_; (conv => whnf)) | refine kOps ?_ | refine oNil ?_ | refine sSeq ?_ | refine sR ?_ | refine qSeqN ?_ | refine sRet ?_)
    refine qEnd ?_
    conv => whnf
    rfl
  · rw [hr] at hg
    rw [hl]
    repeat (first | (refine oR ?_; (conv => whnf)) | refine kOps ?_ | refine oNil ?_ | refine sSeq ?_ | refine sR ?_ | refine qSeqN ?_)
    (refine oCall rfl (.inl rfl) rfl rfl rfl (.fz [] _) rfl ⟨rfl, hg, ?_⟩; (conv => whnf))
    repeat (first | (refine oR ?_; (conv => whnf)) | refine kOps ?_ | refine oNil ?_ | refine sSeq ?_ | refine sR ?_ | refine qSeqN ?_)
    refine sC rfl (fun h1 => ?_) (fun h1 => ?_)
    · simp at h1
      exact absurd h1 he
    · repeat (first | (refine oR ?_; (conv => whnf)) | refine kOps ?_ | refine oNil ?_ | refine sSeq ?_ | refine sR ?_ | refine qSeqN ?_ | refine sSkip ?_ | refine sRet ?_)
      refine qEnd ?_
      conv => whnf
      rfl
/-- A queue. -/
abbrev qA (l : List Int) (cap : Int) : AV := .agg [encI l, eI cap]
theorem c_qnew (cap : Int) : C Try.prog 48 [eI cap] (qA [] cap) := by
  refine fnOk mixed tyOk Try.func48 (code := Try.f48.body.getD .skip) rfl rfl rfl (gC_in ?_)
  repeat (first | (refine oR ?_; (conv => whnf)) | refine kOps ?_ | refine oNil ?_ | refine sSeq ?_ | refine sR ?_ | refine qSeqN ?_ | refine sRet ?_)
  refine qEnd ?_
  conv => whnf
  rfl
theorem c_qlen (l : List Int) (cap : Int) : C Try.prog 52 [qA l cap] (eI (l.length : Int)) := by
  refine fnOk mixed tyOk Try.func52 (code := Try.f52.body.getD .skip) rfl rfl rfl (gC_in ?_)
  repeat (first | (refine oR ?_; (conv => whnf)) | refine kOps ?_ | refine oNil ?_ | refine sSeq ?_ | refine sR ?_ | refine qSeqN ?_ | refine sRet ?_)
  refine qEnd ?_
  conv => whnf
  exact congrArg (fun n : Nat => eI n) (List.length_map _)
theorem c_qwith (l m : List Int) (cap : Int) : C Try.prog 72 [qA l cap, encI m] (qA m cap) := by
  refine fnOk mixed tyOk Try.func72 (code := Try.f72.body.getD .skip) rfl rfl rfl (gC_in ?_)
  repeat (first | (refine oR ?_; (conv => whnf)) | refine kOps ?_ | refine oNil ?_ | refine sSeq ?_ | refine sR ?_ | refine qSeqN ?_ | refine sRet ?_)
  refine qEnd ?_
  conv => whnf
  rfl
end Go.Proofs.Ytcmciimogcfakaa

/- Queues; Contains. -/
set_option linter.unusedVariables false
set_option linter.unusedSimpArgs false
namespace Go.Proofs.Ytcmciimogcfakaa
open Go Go.RowKit
open Classical

theorem c_push (l : List Int) (cap x : Int) (hl : (l.length : Int) < cap) (hb : l.length ≤ 1099511627776) : C Try.prog 51 [qA l cap, eI x] (.tup [qA (l ++ [x]) cap, eI 0]) := by
  refine fnOk mixed tyOk Try.func51 (code := Try.f51.body.getD .skip) rfl rfl rfl (gC_in ?_)
  have hlen : (l.map fun n => [eI n]).length = l.length := List.length_map _
  have e0 : List.drop 0 (List.take (l.map fun n => [eI n]).length (l.map fun n => [eI n])) = l.map fun n => [eI n] := by rw [List.take_length, List.drop_zero]
  have hw : C Try.prog 72 [qA l cap, .sl (List.drop 0 (List.take (l.map fun n => [eI n]).length (l.map fun n => [eI n])) ++ [[eI x]])] (qA (l ++ [x]) cap) := by
    have := c_qwith l (l ++ [x]) cap
    rw [encI, List.map_append] at this
    rw [e0]
    exact this
  repeat (first | (refine oR ?_; (conv => whnf)) | refine kOps ?_ | refine oNil ?_ | refine sSeq ?_ | refine sR ?_ | refine qSeqN ?_)
  refine sC rfl (fun h1 => ?_) (fun h1 => ?_)
  · have := dT h1
    simp at this
    omega
  repeat (first | refine sSeq ?_ | refine qSeqN ?_ | refine sSkip ?_)
  refine sDt [7, 8, 9, 10] ?_
  repeat (first | (apply g3run; exact rfl; exact rfl; exact .inl rfl; (conv => whnf); exact .mk rfl) | (apply g3run; exact rfl; exact rfl; exact .inl rfl; (conv => whnf)))
  refine ⟨fun y hy => (ones1 l y hy).1, _, rfl, Nat.le_refl _, rfl, ?_⟩
  exact .mk rfl
  repeat (first | refine g3skip ?_ | (apply g3run; exact rfl; exact rfl; exact .inl rfl; (conv => whnf); exact .mk rfl) | refine g3nil ?_ | refine kT ?_ | (apply gTrun; exact rfl; exact rfl; exact rfl; (conv => whnf); exact .mk rfl) | (apply gRcons; exact rfl; exact rfl; exact rfl; (conv => whnf); exact .mk rfl) | (apply gRcons; exact rfl; exact rfl; exact rfl; (conv => whnf)))
  refine ⟨fun y hy => (ones1 l y hy).1, _, rfl, Nat.le_refl _, rfl, ?_⟩
  exact .mk rfl
  repeat (first | (apply gRcons; exact rfl; exact rfl; exact rfl; (conv => whnf); exact .mk rfl) | exact gRnil | (apply gTrun; exact rfl; exact rfl; exact rfl; (conv => whnf)))
  refine ⟨?_, roomI ?_, ?_⟩
  · rw [e0]
    intro y hy
    rcases List.mem_append.1 hy with hy | hy
    · exact ones1 l y hy
    · simp at hy
      subst hy
      exact ⟨rfl, rfl⟩
  · rw [e0]
    simp
    omega
  conv => whnf
  repeat (first | (apply gRcons; exact rfl; exact rfl; exact rfl; (conv => whnf); exact .mk rfl) | exact gRnil | exact KEq.mk rfl | (apply gTrun; exact rfl; exact rfl; exact rfl; (conv => whnf)))
  (refine ⟨.fz [3] _, rfl, hw, ?_⟩; (conv => whnf); exact .mk rfl)
  repeat (first | refine qSeqN ?_ | refine sRet ?_ | (apply gTrun; exact rfl; exact rfl; exact rfl; (conv => whnf); exact .mk rfl) | (apply gRcons; exact rfl; exact rfl; exact rfl; (conv => whnf); exact .mk rfl) | exact gRnil | refine gTnil ?_)
  refine qEnd ?_
  conv => whnf
  rfl
theorem c_drain (l : List Int) (cap : Int) : C Try.prog 73 [qA l cap, eI 1] (.tup [qA (l.drop 1) cap, encI (l.take 1)]) := by
  refine fnOk mixed tyOk Try.func73 (code := Try.f73.body.getD .skip) rfl rfl rfl (gC_in ?_)
  have hlen : (l.map fun n => [eI n]).length = l.length := List.length_map _
  have hv : (if (if ((l.map fun n => [eI n]).length : Int) < 1 then ((l.map fun n => [eI n]).length : Int) else 1) > 0 then (if ((l.map fun n => [eI n]).length : Int) < 1 then ((l.map fun n => [eI n]).length : Int) else 1) else 0) = ((min 1 l.length : Nat) : Int) := by
    rw [hlen]
    split <;> split <;> omega
  have hdm : List.drop (min 1 l.length) (List.take (l.map fun n => [eI n]).length (l.map fun n => [eI n])) = (l.drop 1).map fun n => [eI n] := by
    cases l with
    | nil => rfl
    | cons a l => rw [List.take_length]; simp
  have hw : C Try.prog 72 [qA l cap, .sl (List.drop (min 1 l.length) (List.take (l.map fun n => [eI n]).length (l.map fun n => [eI n])))] (qA (l.drop 1) cap) := by
    rw [hdm]
    exact c_qwith l (l.drop 1) cap
  repeat (first | (refine oR ?_; (conv => whnf)) | refine kOps ?_ | refine oNil ?_ | refine sSeq ?_ | refine sR ?_ | refine qSeqN ?_)
  refine sDt [10] ?_
  repeat (first | (apply g3run; exact rfl; exact rfl; exact .inl rfl; (conv => whnf); exact .mk rfl) | (apply g3run; exact rfl; exact rfl; exact .inl rfl; (conv => whnf)))
  refine ⟨fun y hy => (ones1 l y hy).1, _, hv, by rw [hlen]; omega, ?_⟩
  exact .mk rfl
  repeat (apply g3run; exact rfl; exact rfl; exact .inl rfl; (conv => whnf))
  (refine ⟨.fz [] _, rfl, hw, ?_⟩; (conv => whnf); exact .mk rfl)
  repeat (first | (apply g3run; exact rfl; exact rfl; exact .inl rfl; (conv => whnf); exact .mk rfl) | (apply g3run; exact rfl; exact rfl; exact .inl rfl; (conv => whnf)))
  refine ⟨fun y hy => (ones1 l y hy).1, _, hv, by rw [hlen]; omega, ?_⟩
  exact .mk rfl
  repeat (first | refine g3skip ?_ | (apply g3run; exact rfl; exact rfl; exact .inl rfl; (conv => whnf); exact .mk rfl) | refine g3nil ?_ | refine kT ?_ | (apply gTrun; exact rfl; exact rfl; exact rfl; (conv => whnf); exact .mk rfl) | (apply gRcons; exact rfl; exact rfl; exact rfl; (conv => whnf); exact .mk rfl) | (apply gRcons; exact rfl; exact rfl; exact rfl; (conv => whnf)))
  refine ⟨fun y hy => (ones1 l y hy).1, _, hv, by rw [hlen]; omega, ?_⟩
  exact .mk rfl
  repeat (first | refine qSeqN ?_ | refine sRet ?_ | (apply gRcons; exact rfl; exact rfl; exact rfl; (conv => whnf); exact .mk rfl) | exact gRnil | refine gTnil ?_)
  refine qEnd ?_
  conv => whnf
  refine congrArg (fun z => AV.tup [qA (l.drop 1) cap, .sl z]) ?_
  cases l with
  | nil => rfl
  | cons a l => simp
theorem c_pop (x : Int) (l : List Int) (cap : Int) : C Try.prog 53 [qA (x :: l) cap] (.tup [qA l cap, eI x, eI 0]) := by
  refine fnOk mixed tyOk Try.func53 (code := Try.f53.body.getD .skip) rfl rfl rfl (gC_in ?_)
  have hd : C Try.prog 73 [qA (x :: l) cap, eI 1] (.tup [qA l cap, encI [x]]) := c_drain (x :: l) cap
  repeat (first | (refine oR ?_; (conv => whnf)) | refine kOps ?_ | refine oNil ?_ | refine sSeq ?_ | refine sR ?_ | refine qSeqN ?_)
  (refine oCall rfl (.inl rfl) rfl rfl rfl (.fz [] _) rfl ⟨rfl, hd, ?_⟩; (conv => whnf))
  repeat (first | (refine oR ?_; (conv => whnf)) | refine kOps ?_ | refine oNil ?_ | refine sSeq ?_ | refine sR ?_ | refine qSeqN ?_ | refine sSkip ?_ | refine sF ?_)
  refine sDt [5, 6, 7] ?_
  repeat (first | (apply g3run; exact rfl; exact rfl; exact .inl rfl; (conv => whnf); exact .mk rfl) | (apply g3run; exact rfl; exact rfl; exact .inl rfl; (conv => whnf)))
  refine ⟨0, _, rfl, rfl, ?_⟩
  conv => whnf
  exact .mk rfl
  repeat (first | refine g3skip ?_ | (apply g3run; exact rfl; exact rfl; exact .inl rfl; (conv => whnf); exact .mk rfl) | refine g3nil ?_ | refine kT ?_ | (apply gTrun; exact rfl; exact rfl; exact rfl; (conv => whnf); exact .mk rfl) | (apply gRcons; exact rfl; exact rfl; exact rfl; (conv => whnf); exact .mk rfl) | (apply gRcons; exact rfl; exact rfl; exact rfl; (conv => whnf)))
  refine ⟨0, _, rfl, rfl, ?_⟩
  conv => whnf
  exact .mk rfl
  repeat (first | refine qSeqN ?_ | refine sRet ?_ | (apply gTrun; exact rfl; exact rfl; exact rfl; (conv => whnf); exact .mk rfl) | (apply gRcons; exact rfl; exact rfl; exact rfl; (conv => whnf); exact .mk rfl) | exact gRnil | refine gTnil ?_)
  refine qEnd ?_
  conv => whnf
  rfl
/-- Where a number stands. -/
def ixGo (x : Int) : List Int → Nat → Int
  | [], _ => -1
  | n :: l, i => if x = n then (i : Int) else ixGo x l (i + 1)
theorem ixGo_or (x : Int) : ∀ (l : List Int) (i : Nat), (ixGo x l i = -1 ∧ x ∉ l) ∨ (0 ≤ ixGo x l i ∧ x ∈ l)
  | [], i => .inl ⟨rfl, by simp⟩
  | n :: l, i => by
    unfold ixGo
    by_cases h : x = n
    · rw [if_pos h]
      exact .inr ⟨by omega, by simp [h]⟩
    · rw [if_neg h]
      rcases ixGo_or x l (i + 1) with ⟨h1, h2⟩ | ⟨h1, h2⟩
      · exact .inl ⟨h1, by simp [h, h2]⟩
      · exact .inr ⟨h1, by simp [h2]⟩
theorem c_index (l : List Int) (x : Int) (hT : l.length ≤ 1099511627776) : C Try.prog 70 [encI l, eI x] (eI (ixGo x l 0)) := by
  refine fnOk mixed tyOk Try.func70 (code := Try.f70.body.getD .skip) rfl rfl rfl (gC_in ?_)
  have hlen : (l.map fun n => [eI n]).length = l.length := List.length_map _
  repeat (first | (refine oR ?_; (conv => whnf)) | refine kOps ?_ | refine oNil ?_ | refine sSeq ?_ | refine sR ?_ | refine qSeqN ?_ | refine sBlk ?_)
  refine sLoop (α := Nat) (fun i => i ≤ l.length ∧ ixGo x (l.drop i) i = ixGo x l 0) (fun i => ⟨tl [(0, encI l), (1, eI x), (7, eI l.length), (8, eI (i : Int))], Ll [], 19, 0, [], none⟩) (fun i => l.length - i) 0
    (.keep _ _ _ _ trivial ⟨rfl, rfl, congrArg (fun n : Nat => eI n) hlen, rfl, trivial⟩ rfl rfl) ⟨Nat.zero_le _, rfl⟩ fun i hi => ?_
  obtain ⟨hi, hix⟩ := hi
  repeat (first | (refine oR ?_; (conv => whnf)) | refine kOps ?_ | refine oNil ?_ | refine sSeq ?_ | refine sR ?_ | refine qSeqN ?_)
  refine sC rfl (fun h1 => ?_) (fun h1 => ?_)
  · have hlt : i < l.length := by have := dT h1; omega
    obtain ⟨n, hn⟩ : ∃ n, l[i]? = some n := ⟨_, List.getElem?_eq_getElem hlt⟩
    rw [drop_of hn, ixGo] at hix
    repeat (first | (refine oR ?_; (conv => whnf)) | refine kOps ?_ | refine oNil ?_ | refine sSeq ?_ | refine sR ?_ | refine qSeqN ?_ | refine sSkip ?_ | refine sBlk ?_)
    refine ⟨i, _, rfl, encI_get hn, ?_⟩
    conv => whnf
    repeat (first | (refine oR ?_; (conv => whnf)) | refine kOps ?_ | refine oNil ?_ | refine qSeqN ?_)
    refine sC rfl (fun h2 => ?_) (fun h2 => ?_)
    · have h2 : x = n := by simpa using h2
      rw [if_pos h2] at hix
      rw [← hix]
      repeat (first | (refine oR ?_; (conv => whnf)) | refine kOps ?_ | refine oNil ?_ | refine sSeq ?_ | refine sR ?_ | refine qSeqN ?_ | refine sRet ?_ | refine qSeqR ?_ | refine qBlkR ?_ | refine qLoopR ?_)
      refine qEnd ?_
      conv => whnf
      rfl
    · have h2 : ¬ x = n := by simpa using h2
      rw [if_neg h2] at hix
      repeat (first | (refine oR ?_; (conv => whnf)) | refine kOps ?_ | refine oNil ?_ | refine sR ?_ | refine qSeqN ?_ | refine sSkip ?_ | refine qBlkN ?_)
      exact qLoopN (i + 1) .kp ⟨hlt, hix⟩ (by omega)
  · have hge : l.length ≤ i := by have := dF h1; omega
    rw [List.drop_eq_nil_of_le hge] at hix
    rw [← hix]
    repeat (first | (refine oR ?_; (conv => whnf)) | refine kOps ?_ | refine oNil ?_ | refine sSeq ?_ | refine sR ?_ | refine qSeqN ?_ | refine sRet ?_ | refine sExit ?_ | refine qSeqE ?_ | refine qX ?_ | refine qLoopE ?_)
    refine qEnd ?_
    conv => whnf
    rfl
theorem c_contains6 (l : List Int) (x : Int) (hT : l.length ≤ 1099511627776) : C Try.prog 47 [encI l, eI x] (.bool (decide (x ∈ l))) := by
  refine fnOk mixed tyOk Try.func47 (code := Try.f47.body.getD .skip) rfl rfl rfl (gC_in ?_)
  have ho := ixGo_or x l 0
  repeat (first | (refine oR ?_; (conv => whnf)) | refine kOps ?_ | refine oNil ?_ | refine sSeq ?_ | refine sR ?_ | refine qSeqN ?_)
  (refine oCall rfl (.inl rfl) rfl rfl rfl (.fz [] _) rfl ⟨rfl, c_index l x hT, ?_⟩; (conv => whnf))
  repeat (first | (refine oR ?_; (conv => whnf)) | refine kOps ?_ | refine oNil ?_ | refine qSeqN ?_ | refine sRet ?_)
  refine qEnd ?_
  conv => whnf
  refine congrArg AV.bool (decide_eq_decide.2 ?_)
  rcases ho with ⟨h1, h2⟩ | ⟨h1, h2⟩
  · rw [h1]
    exact ⟨fun h => by omega, fun h => absurd h h2⟩
  · exact ⟨fun _ => h2, fun _ => h1⟩
end Go.Proofs.Ytcmciimogcfakaa

/- IndexFunc, ContainsFunc; the closures. -/
set_option linter.unusedVariables false
set_option linter.unusedSimpArgs false
namespace Go.Proofs.Ytcmciimogcfakaa
open Go Go.RowKit
open Classical

/-- Where it is first so. -/
def fxGo (p : Int → Bool) : List Int → Nat → Int
  | [], _ => -1
  | n :: l, i => if p n = true then (i : Int) else fxGo p l (i + 1)
theorem fxGo_or (p : Int → Bool) : ∀ (l : List Int) (i : Nat), (fxGo p l i = -1 ∧ ∀ x ∈ l, p x = false) ∨ ∃ (j : Nat) (x : Int), l[j]? = some x ∧ p x = true ∧ fxGo p l i = ((i + j : Nat) : Int) ∧ ∀ (m : Nat) (y : Int), m < j → l[m]? = some y → p y = false
  | [], i => .inl ⟨rfl, by simp⟩
  | n :: l, i => by
    unfold fxGo
    cases h : p n with
    | true => exact .inr ⟨0, n, rfl, h, by simp, fun m y hm => by omega⟩
    | false =>
      rcases fxGo_or p l (i + 1) with ⟨h1, h2⟩ | ⟨j, x, h1, h2, h3, h4⟩
      · refine .inl ⟨by simpa using h1, fun x hx => ?_⟩
        rcases List.mem_cons.1 hx with rfl | hx
        · exact h
        · exact h2 x hx
      · refine .inr ⟨j + 1, x, by simpa using h1, h2, by simp [h3]; omega, fun m y hm hy => ?_⟩
        cases m with
        | zero => simp at hy; subst hy; exact h
        | succ m => exact h4 m y (by omega) (by simpa using hy)
theorem c_cl1 (l : List Int) (x : Int) (hT : l.length ≤ 1099511627776) : C Try.prog 58 [eI x, .vptr [encI l]] (.bool (!decide (x ∈ l))) := by
  refine fnOk mixed tyOk Try.func58 (code := Try.f58.body.getD .skip) rfl rfl rfl (gC_in ?_)
  repeat (first | (refine oR ?_; (conv => whnf)) | refine kOps ?_ | refine oNil ?_ | refine sSeq ?_ | refine sR ?_ | refine qSeqN ?_)
  (refine oCall rfl (.inl rfl) rfl rfl rfl (.fz [] _) rfl ⟨rfl, c_contains6 l x hT, ?_⟩; (conv => whnf))
  repeat (first | (refine oR ?_; (conv => whnf)) | refine kOps ?_ | refine oNil ?_ | refine qSeqN ?_ | refine sRet ?_)
  refine qEnd ?_
  conv => whnf
  rfl
theorem c_lost1 (l : List Int) (x : Int) (hT : l.length ≤ 1099511627776) : C Try.prog 46 [eI x, .vptr [encI l]] (.bool (decide (x ∈ l))) := by
  refine fnOk mixed tyOk Try.func46 (code := Try.f46.body.getD .skip) rfl rfl rfl (gC_in ?_)
  repeat (first | (refine oR ?_; (conv => whnf)) | refine kOps ?_ | refine oNil ?_ | refine sSeq ?_ | refine sR ?_ | refine qSeqN ?_)
  (refine oCall rfl (.inl rfl) rfl rfl rfl (.fz [] _) rfl ⟨rfl, c_contains6 l x hT, ?_⟩; (conv => whnf))
  repeat (first | (refine oR ?_; (conv => whnf)) | refine kOps ?_ | refine oNil ?_ | refine qSeqN ?_ | refine sRet ?_)
  refine qEnd ?_
  conv => whnf
  rfl
theorem c_news1 (cs : List Ce) (la sr h : Int) (hR : Rs cs) : C Try.prog 56 [eI h, .vptr [encC cs, eI la, eI sr]] (.bool (lv cs h)) := by
  refine fnOk mixed tyOk Try.func56 (code := Try.f56.body.getD .skip) rfl rfl rfl (gC_in ?_)
  have hg := c_get6 ⟨cs, la, sr⟩ h hR
  unfold lv
  rcases rGet_cases cs h with ⟨c, hl, hr⟩ | ⟨hl, e, he, hr⟩
  · rw [hr] at hg
    rw [hl]
    repeat (first | (refine oR ?_; (conv => whnf)) | refine kOps ?_ | refine oNil ?_ | refine sSeq ?_ | refine sR ?_ | refine qSeqN ?_)
    (refine oCall rfl (.inl rfl) rfl rfl rfl (.fz [] _) rfl ⟨rfl, hg, ?_⟩; (conv => whnf))
    repeat (first | (refine oR ?_; (conv => whnf)) | refine kOps ?_ | refine oNil ?_ | refine sSeq ?_ | refine sR ?_ | refine qSeqN ?_ | refine sRet ?_)
    refine qEnd ?_
    conv => whnf
    rfl
  · rw [hr] at hg
    rw [hl]
    repeat (first | (refine oR ?_; (conv => whnf)) | refine kOps ?_ | refine oNil ?_ | refine sSeq ?_ | refine sR ?_ | refine qSeqN ?_)
    (refine oCall rfl (.inl rfl) rfl rfl rfl (.fz [] _) rfl ⟨rfl, hg, ?_⟩; (conv => whnf))
    repeat (first | (refine oR ?_; (conv => whnf)) | refine kOps ?_ | refine oNil ?_ | refine sSeq ?_ | refine sR ?_ | refine qSeqN ?_ | refine sRet ?_)
    refine qEnd ?_
    conv => whnf
    exact congrArg AV.bool (by simp [he])
theorem c_indexf (l m : List Int) (hm : m.length ≤ 1099511627776) (hT : l.length ≤ 1099511627776) : C Try.prog 66 [encI l, .fn 58 [.vptr [encI m]]] (eI (fxGo (fun x => !decide (x ∈ m)) l 0)) := by
  refine fnOk mixed tyOk Try.func66 (code := Try.f66.body.getD .skip) rfl rfl rfl (gC_in ?_)
  have hlen : (l.map fun n => [eI n]).length = l.length := List.length_map _
  repeat (first | (refine oR ?_; (conv => whnf)) | refine kOps ?_ | refine oNil ?_ | refine sSeq ?_ | refine sR ?_ | refine qSeqN ?_ | refine sBlk ?_)
  refine sLoop (α := Nat) (fun i => i ≤ l.length ∧ fxGo (fun x => !decide (x ∈ m)) (l.drop i) i = fxGo (fun x => !decide (x ∈ m)) l 0) (fun i => ⟨tl [(0, encI l), (1, .fn 58 [.vptr [encI m]]), (7, eI l.length), (8, eI (i : Int))], Ll [], 19, 0, [], none⟩) (fun i => l.length - i) 0
    (.keep _ _ _ _ trivial ⟨rfl, rfl, congrArg (fun n : Nat => eI n) hlen, rfl, trivial⟩ rfl rfl) ⟨Nat.zero_le _, rfl⟩ fun i hi => ?_
  obtain ⟨hi, hix⟩ := hi
  repeat (first | (refine oR ?_; (conv => whnf)) | refine kOps ?_ | refine oNil ?_ | refine sSeq ?_ | refine sR ?_ | refine qSeqN ?_)
  refine sC rfl (fun h1 => ?_) (fun h1 => ?_)
  · have hlt : i < l.length := by have := dT h1; omega
    obtain ⟨n, hn⟩ : ∃ n, l[i]? = some n := ⟨_, List.getElem?_eq_getElem hlt⟩
    rw [drop_of hn, fxGo] at hix
    repeat (first | (refine oR ?_; (conv => whnf)) | refine kOps ?_ | refine oNil ?_ | refine sSeq ?_ | refine sR ?_ | refine qSeqN ?_ | refine sSkip ?_ | refine sBlk ?_)
    refine ⟨i, _, rfl, encI_get hn, ?_⟩
    conv => whnf
    repeat (first | (refine oR ?_; (conv => whnf)) | refine kOps ?_)
    (refine oCall rfl (.inl rfl) rfl rfl rfl (.fz [] _) rfl ⟨rfl, c_cl1 m n hm, ?_⟩; (conv => whnf))
    repeat (first | refine kOps ?_ | refine oNil ?_ | refine qSeqN ?_)
    refine sC rfl (fun h2 => ?_) (fun h2 => ?_)
    · rw [if_pos h2] at hix
      rw [← hix]
      repeat (first | (refine oR ?_; (conv => whnf)) | refine kOps ?_ | refine oNil ?_ | refine sSeq ?_ | refine sR ?_ | refine qSeqN ?_ | refine sRet ?_ | refine qSeqR ?_ | refine qBlkR ?_ | refine qLoopR ?_)
      refine qEnd ?_
      conv => whnf
      rfl
    · rw [if_neg (by simp only [h2]; decide)] at hix
      repeat (first | (refine oR ?_; (conv => whnf)) | refine kOps ?_ | refine oNil ?_ | refine sR ?_ | refine qSeqN ?_ | refine sSkip ?_ | refine qBlkN ?_)
      exact qLoopN (i + 1) .kp ⟨hlt, hix⟩ (by omega)
  · have hge : l.length ≤ i := by have := dF h1; omega
    rw [List.drop_eq_nil_of_le hge] at hix
    rw [← hix]
    repeat (first | (refine oR ?_; (conv => whnf)) | refine kOps ?_ | refine oNil ?_ | refine sSeq ?_ | refine sR ?_ | refine qSeqN ?_ | refine sRet ?_ | refine sExit ?_ | refine qSeqE ?_ | refine qX ?_ | refine qLoopE ?_)
    refine qEnd ?_
    conv => whnf
    rfl
theorem c_containsf (l m : List Int) (hm : m.length ≤ 1099511627776) (hT : l.length ≤ 1099511627776) : C Try.prog 57 [encI l, .fn 58 [.vptr [encI m]]] (.bool (decide (∃ x ∈ l, x ∉ m))) := by
  refine fnOk mixed tyOk Try.func57 (code := Try.f57.body.getD .skip) rfl rfl rfl (gC_in ?_)
  have ho := fxGo_or (fun x => !decide (x ∈ m)) l 0
  repeat (first | (refine oR ?_; (conv => whnf)) | refine kOps ?_ | refine oNil ?_ | refine sSeq ?_ | refine sR ?_ | refine qSeqN ?_)
  (refine oCall rfl (.inl rfl) rfl rfl rfl (.fz [] _) rfl ⟨rfl, c_indexf l m hm hT, ?_⟩; (conv => whnf))
  repeat (first | (refine oR ?_; (conv => whnf)) | refine kOps ?_ | refine oNil ?_ | refine qSeqN ?_ | refine sRet ?_)
  refine qEnd ?_
  conv => whnf
  refine congrArg AV.bool (decide_eq_decide.2 ?_)
  rcases ho with ⟨h1, h2⟩ | ⟨j, x, h1, h2, h3, _⟩
  · rw [h1]
    exact ⟨fun h => by omega, fun ⟨x, hx, hn⟩ => by have := h2 x hx; simp at this; exact absurd this hn⟩
  · rw [h3]
    exact ⟨fun _ => ⟨x, List.mem_of_getElem? h1, by simpa using h2⟩, fun _ => by omega⟩
end Go.Proofs.Ytcmciimogcfakaa
