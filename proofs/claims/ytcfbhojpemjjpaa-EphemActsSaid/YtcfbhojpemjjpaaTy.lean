/- The types that the walks ask for. -/
import Derived.Test.YtcfbhojpemjjpaaP
import Derived.Test.YtcfbhojpemjjpaaProg
set_option linter.unusedVariables false
set_option linter.unusedSimpArgs false
namespace Go.Proofs.Ytcfbhojpemjjpaa
open Go Go.RowKit

def i0 : AV := .int .i64 0
def tInt : TI := ⟨.int .i64, 1, 8, [i0], false⟩
def tBool : TI := ⟨.bool, 1, 1, [.bool false], false⟩
def tU8 : TI := ⟨.int .u8, 1, 1, [.int .u8 0], false⟩
def tSl (e : Nat) : TI := ⟨.slice e, 1, 24, [.nilsl], false⟩
def tPl : TI := ⟨.struct [(0, 1), (1, 1), (2, 1)], 3, 24, [i0, i0, i0], true⟩
def tPr : TI := ⟨.struct [(0, 1), (1, 1)], 2, 16, [i0, i0], true⟩
def tMap (k e : Nat) : TI := ⟨.map k e, 1, 8, [.any], false⟩
def tFn : TI := ⟨.other, 1, 8, [.any], false⟩
def Γ : Nat → Option TI
  | 3 => some tInt
  | 4 => some tBool
  | 5 => some tU8
  | 27 => some tInt
  | 22 => some (tSl 78)
  | 25 => some (tSl 77)
  | 43 => some (tSl 3)
  | 66 => some (tSl 73)
  | 68 => some (tSl 75)
  | 78 => some tPl
  | 77 => some tPl
  | 73 => some tPr
  | 75 => some tPr
  | 53 => some (tMap 3 3)
  | 57 => some (tMap 3 4)
  | 90 => some tFn
  | 92 => some tFn
  | _ => none
theorem ty_plain {t : Nat} {i : TI} (d : TypeDesc) (hu : Try.prog.underlying t = some d) (hk : i.k.ok Try.prog d) (hi : (Try.prog.info? t).map (fun q => (q.size, q.bytes, q.zero.map (fun z => z.cells.toList.map ofV), q.zero.map (fun z => (z.cells.toList.all (·.oneCell'), z.oneCell')))) = some (i.sz, i.by_, some i.z, some (true, !i.k.isAgg))) (hz : i.z.length = i.sz) (he : i.eq = false) : TyF Try.prog t i :=
  ⟨⟨d, hu, hk⟩, hi, hz, fun h => by rw [he] at h; cases h⟩
theorem ty_struct {t : Nat} {i : TI} (F : Array Field) (fs : List (Nat × Nat)) (hu : Try.prog.underlying t = some (.struct F)) (hik : i.k = .struct fs) (hf : F.toList.map (fun f => (f.offset, (Try.prog.info? f.type).map (·.size))) = fs.map (fun p => (p.1, some p.2))) (h0 : fs.all (fun p => !Nat.beq p.2 0) = true)
    (hi : (Try.prog.info? t).map (fun q => (q.size, q.bytes, q.zero.map (fun z => z.cells.toList.map ofV), q.zero.map (fun z => (z.cells.toList.all (·.oneCell'), z.oneCell')))) = some (i.sz, i.by_, some i.z, some (true, !i.k.isAgg))) (hz : i.z.length = i.sz)
    (h1 : Try.prog.eqGuardType Try.prog.depth t = false) (h2 : Try.prog.stoodInHeld t = false) (h3 : F.size = i.sz) (h4 : (F.toList.zipIdx.all fun p => !(p.1.name == "_") && Nat.beq p.1.offset p.2 && (match Try.prog.underlying p.1.type with | some (.int _) => true | _ => false)) = true) : TyF Try.prog t i :=
  ⟨⟨_, hu, by rw [hik]; exact ⟨F, rfl, hf, h0⟩⟩, hi, hz, fun _ => ⟨h1, h2, F, hu, h3, h4⟩⟩
theorem tyOk : TyOk Try.prog Γ := by
  intro t i h
  unfold Γ at h
  split at h <;> first | (cases h; done) | (simp only [Option.some.injEq] at h; subst h)
  · exact ty_plain _ Try.underlying3 rfl (by kernel_rfl) rfl rfl
  · exact ty_plain _ Try.underlying4 rfl (by kernel_rfl) rfl rfl
  · exact ty_plain _ Try.underlying5 rfl (by kernel_rfl) rfl rfl
  · exact ty_plain _ Try.underlying27 rfl (by kernel_rfl) rfl rfl
  · exact ty_plain _ Try.underlying22 rfl (by kernel_rfl) rfl rfl
  · exact ty_plain _ Try.underlying25 rfl (by kernel_rfl) rfl rfl
  · exact ty_plain _ Try.underlying43 rfl (by kernel_rfl) rfl rfl
  · exact ty_plain _ Try.underlying66 rfl (by kernel_rfl) rfl rfl
  · exact ty_plain _ Try.underlying68 rfl (by kernel_rfl) rfl rfl
  · exact ty_struct _ _ Try.underlying78 rfl (by kernel_rfl) rfl (by kernel_rfl) rfl Try.eqGuardType78 Try.stoodInHeld78 rfl (by kernel_rfl)
  · exact ty_struct _ _ Try.underlying77 rfl (by kernel_rfl) rfl (by kernel_rfl) rfl Try.eqGuardType77 Try.stoodInHeld77 rfl (by kernel_rfl)
  · exact ty_struct _ _ Try.underlying73 rfl (by kernel_rfl) rfl (by kernel_rfl) rfl Try.eqGuardType73 Try.stoodInHeld73 rfl (by kernel_rfl)
  · exact ty_struct _ _ Try.underlying75 rfl (by kernel_rfl) rfl (by kernel_rfl) rfl Try.eqGuardType75 Try.stoodInHeld75 rfl (by kernel_rfl)
  · exact ty_plain _ Try.underlying53 rfl (by kernel_rfl) rfl rfl
  · exact ty_plain _ Try.underlying57 rfl (by kernel_rfl) rfl rfl
  · exact ty_plain _ Try.underlying90 rfl (by kernel_rfl) rfl rfl
  · exact ty_plain _ Try.underlying92 rfl (by kernel_rfl) rfl rfl
theorem mixed : Try.prog.follows .mixedOrders = true := by kernel_rfl
end Go.Proofs.Ytcfbhojpemjjpaa
