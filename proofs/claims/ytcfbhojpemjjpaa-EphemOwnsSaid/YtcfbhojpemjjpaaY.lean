/- The walk, all of it. -/
import Derived.Test.YtcfbhojpemjjpaaW
set_option linter.unusedVariables false
set_option linter.unusedSimpArgs false
namespace Go.Proofs.Ytcfbhojpemjjpaa
open Go Go.RowKit

/-- What a function's code asks. -/
noncomputable abbrev Vc (P : Program) (Γ : Nat → Option TI) : Code → (Exit → St → Prop) → St → Prop := vcC P Γ noY (vcDr P Γ) (vcRF P Γ (vcDr P Γ))
/-- What an iterator's code asks. -/
noncomputable abbrev Vi (P : Program) (Γ : Nat → Option TI) (items : List (List AV)) : Code → (Exit → St → Prop) → St → Prop := vcC P Γ (itY items) (vcDr P Γ) noR
section
variable {P : Program} {Γ : Nat → Option TI}
theorem fnOk (hm : P.follows .mixedOrders = true) (hT : TyOk P Γ) {f : FuncId} {fn : Func} {code : Code} {args : List AV} {r : AV} (hf : P.funcs[f]? = some fn) (hb : fn.body = some code) (hn : (fn.name == "runtime.NumGoroutine") = false)
    (hnt : Nat.ble args.length fn.ntmps = true) (h : Vc P Γ code (post Γ fn.results.toList r) (st0 args fn.ntmps)) : C P f args r :=
  contract hT hf hb hn (Nat.le_of_ble_eq_true hnt) (fun _ _ _ hst => draw_ok hm hT hst) (fun _ _ _ hst hse hmm => rf_ok hT (fun _ _ _ _ _ hst => draw_ok hm hT hst) hst hse hmm 0) h
theorem fnOkR (hm : P.follows .mixedOrders = true) (hT : TyOk P Γ) {f : FuncId} {fn : Func} {code : Code} {args : List AV} {ty sz : Nat} {xs : List (List AV)} (hf : P.funcs[f]? = some fn) (hb : fn.body = some code) (hn : (fn.name == "runtime.NumGoroutine") = false)
    (hnt : Nat.ble args.length fn.ntmps = true) (h : Vc P Γ code (postR Γ fn.results.toList ty sz xs) (st0 args fn.ntmps)) : CR P f args ty sz xs :=
  contractR hT hf hb hn (Nat.le_of_ble_eq_true hnt) (fun _ _ _ hst => draw_ok hm hT hst) (fun _ _ _ hst hse hmm => rf_ok hT (fun _ _ _ _ _ hst => draw_ok hm hT hst) hst hse hmm 0) h
theorem itOk (hm : P.follows .mixedOrders = true) (hT : TyOk P Γ) {f : FuncId} {fn : Func} {code : Code} {caps : List AV} {items : List (List AV)} (hf : P.funcs[f]? = some fn) (hb : fn.body = some code) (hn : (fn.name == "runtime.NumGoroutine") = false)
    (hres : fn.results = #[]) (hnt : Nat.ble (caps.length + 1) fn.ntmps = true) (h : Vi P Γ items code (itPost items.length) { st0 (.yld :: caps) fn.ntmps with y := some 0 }) : IT P f caps items :=
  iter hT hf hb hn hres (Nat.le_of_ble_eq_true hnt) (fun _ _ _ _ hst => draw_ok hm hT hst) h
end
end Go.Proofs.Ytcfbhojpemjjpaa
