/- Part 6 of the walk that the law rests on: So, Fu. -/
import Derived.Test.YtcmciimogcfakaaM5
import Derived.Test.YtcmciimogcfakaaProg
import Derived.Shelf.SlSortCmp.NoneTotal
/- The library's sort, laid at this program. -/
set_option linter.unusedVariables false
namespace Go.Proofs.Ytcmciimogcfakaa
open Go.Shelf
def sortL_ren : Go.Shelf.Ren := ⟨fun | 6 => 67 | 15 => 82 | 14 => 81 | 28 => 95 | 29 => 96 | 20 => 87 | 21 => 88 | 22 => 89 | 23 => 90 | 24 => 91 | 25 => 92 | 26 => 93 | 27 => 94 | 46 => 99 | 47 => 100 | 48 => 101 | 49 => 102 | 50 => 103 | 57 => 104 | n => n, fun | 22 => 28 | 24 => 3 | 25 => 84 | 3 => 3 | 39 => 138 | 0 => 0 | 53 => 155 | 55 => 157 | 4 => 4 | 46 => 148 | 45 => 147 | 50 => 152 | 5 => 5 | 9 => 9 | 66 => 160 | 70 => 164 | 76 => 166 | 77 => 167 | n => n, fun | n => n⟩
theorem sortL : Go.Proofs.SlLaysF.n6 Try.prog sortL_ren := {
  mixed := by kernel_rfl
  f6 := ⟨Try.f67.name, by decide, Try.func67.trans (congrArg some (by kernel_rfl))⟩
  f14 := ⟨Try.f81.name, by decide, Try.func81.trans (congrArg some (by kernel_rfl))⟩
  f15 := Try.func82.trans (congrArg some (by kernel_rfl))
  f20 := ⟨Try.f87.name, by decide, Try.func87.trans (congrArg some (by kernel_rfl))⟩
  f21 := ⟨Try.f88.name, by decide, Try.func88.trans (congrArg some (by kernel_rfl))⟩
  f22 := ⟨Try.f89.name, by decide, Try.func89.trans (congrArg some (by kernel_rfl))⟩
  f23 := ⟨Try.f90.name, by decide, Try.func90.trans (congrArg some (by kernel_rfl))⟩
  f24 := ⟨Try.f91.name, by decide, Try.func91.trans (congrArg some (by kernel_rfl))⟩
  f25 := ⟨Try.f92.name, by decide, Try.func92.trans (congrArg some (by kernel_rfl))⟩
  f26 := ⟨Try.f93.name, by decide, Try.func93.trans (congrArg some (by kernel_rfl))⟩
  f27 := ⟨Try.f94.name, by decide, Try.func94.trans (congrArg some (by kernel_rfl))⟩
  f28 := Try.func95.trans (congrArg some (by kernel_rfl))
  f29 := Try.func96.trans (congrArg some (by kernel_rfl))
  f46 := ⟨Try.f99.name, by decide, Try.func99.trans (congrArg some (by kernel_rfl))⟩
  f47 := Try.func100.trans (congrArg some (by kernel_rfl))
  f48 := Try.func101.trans (congrArg some (by kernel_rfl))
  f49 := ⟨Try.f102.name, by decide, Try.func102.trans (congrArg some (by kernel_rfl))⟩
  f50 := ⟨Try.f103.name, by decide, Try.func103.trans (congrArg some (by kernel_rfl))⟩
  f57 := ⟨Try.f104.name, by decide, Try.func104.trans (congrArg some (by kernel_rfl))⟩
  t0 := Try.underlying0
  a0 := Try.isAgg0
  z0 := Try.sizeOf0
  v0 := Try.zeroValue0
  t3 := Try.underlying3
  a3 := Try.isAgg3
  z3 := Try.sizeOf3
  v3 := Try.zeroValue3
  t4 := Try.underlying4
  a4 := Try.isAgg4
  z4 := Try.sizeOf4
  v4 := Try.zeroValue4
  t5 := Try.underlying5
  a5 := Try.isAgg5
  z5 := Try.sizeOf5
  v5 := Try.zeroValue5
  t9 := Try.underlying9
  a9 := Try.isAgg9
  z9 := Try.sizeOf9
  v9 := Try.zeroValue9
  t22 := Try.underlying28
  a22 := Try.isAgg28
  z22 := Try.sizeOf28
  v22 := Try.zeroValue28
  a24 := Try.isAgg3
  z24 := Try.sizeOf3
  t25 := Try.underlying84
  a25 := Try.isAgg84
  z25 := Try.sizeOf84
  v25 := Try.zeroValue84
  t39 := Try.underlying138
  a39 := Try.isAgg138
  z39 := Try.sizeOf138
  v39 := Try.zeroValue138
  t45 := Try.underlying147
  a45 := Try.isAgg147
  z45 := Try.sizeOf147
  v45 := Try.zeroValue147
  t46 := Try.underlying148
  a46 := Try.isAgg148
  z46 := Try.sizeOf148
  v46 := Try.zeroValue148
  t50 := Try.underlying152
  a50 := Try.isAgg152
  z50 := Try.sizeOf152
  v50 := Try.zeroValue152
  t53 := Try.underlying155
  a53 := Try.isAgg155
  z53 := Try.sizeOf155
  v53 := Try.zeroValue155
  t55 := Try.underlying157
  a55 := Try.isAgg157
  z55 := Try.sizeOf157
  v55 := Try.zeroValue157
  t66 := Try.underlying160
  a66 := Try.isAgg160
  z66 := Try.sizeOf160
  v66 := Try.zeroValue160
  t70 := Try.underlying164
  a70 := Try.isAgg164
  z70 := Try.sizeOf164
  v70 := Try.zeroValue164
  t76 := Try.underlying166
  a76 := Try.isAgg166
  z76 := Try.sizeOf166
  v76 := Try.zeroValue166
  t77 := Try.underlying167
  a77 := Try.isAgg167
  z77 := Try.sizeOf167
  v77 := Try.zeroValue167 }
end Go.Proofs.Ytcmciimogcfakaa

/- store.Live: the comparison. -/
set_option linter.unusedVariables false
set_option linter.unusedSimpArgs false
namespace Go.Proofs.Ytcmciimogcfakaa
open Go Go.RowKit
open Classical

theorem c_live1 (cs : List Ce) (la sr : Int) {a b : Nat} {ca cb : Ce} (ha : cs[a]? = some ca) (hb : cs[b]? = some cb) : C Try.prog 68 [eI (a : Int), eI (b : Int), .vptr [encC cs, eI la, eI sr]] (eI (cmpI ca.ob.se cb.ob.se)) := by
  refine fnOk mixed tyOk Try.func68 (code := Try.f68.body.getD .skip) rfl rfl rfl (gC_in ?_)
  repeat (first | (refine oR ?_; (conv => whnf)) | refine kOps ?_ | refine oNil ?_ | refine sSeq ?_ | refine sR ?_ | refine qSeqN ?_ | refine sD ?_ | (apply drRun; exact rfl; exact .inl rfl; (conv => whnf); exact .mk rfl) | (apply drRun; exact rfl; exact .inl rfl; (conv => whnf)))
  refine ⟨a, _, rfl, encC_get ha, ?_⟩
  conv => whnf
  exact .mk rfl
  repeat (first | (apply drRun; exact rfl; exact .inl rfl; (conv => whnf); exact .mk rfl) | (apply drRun; exact rfl; exact .inl rfl; (conv => whnf)))
  refine ⟨b, _, rfl, encC_get hb, ?_⟩
  conv => whnf
  exact .mk rfl
  repeat (first | (apply drRun; exact rfl; exact .inl rfl; (conv => whnf); exact .mk rfl) | (apply drRun; exact rfl; exact .inl rfl; (conv => whnf)))
  (refine ⟨.fz [] _, rfl, c_cmp ca.ob.se cb.ob.se, ?_⟩; (conv => whnf); exact .mk rfl)
  repeat (first | refine qSeqN ?_ | refine sRet ?_ | (apply drRun; exact rfl; exact .inl rfl; (conv => whnf); exact .mk rfl) | refine drNil ?_)
  refine qEnd ?_
  conv => whnf
  rfl
end Go.Proofs.Ytcmciimogcfakaa
