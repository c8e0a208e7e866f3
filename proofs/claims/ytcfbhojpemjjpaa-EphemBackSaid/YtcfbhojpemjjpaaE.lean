/- Contracts, and what an operation asks. -/
import Derived.Test.YtcfbhojpemjjpaaD
set_option linter.unusedVariables false
set_option linter.unusedSimpArgs false
namespace Go.Proofs.Ytcfbhojpemjjpaa
open Go Go.RowKit

/-- The blocks lie as they are said to lie, apart from each other and from what never changes. -/
structure Good (c : Cx) (L : Nat → Blk) : Prop where
  blk : ∀ i, (L i).alive = true → ∃ e, c.μ i = some e ∧ BlkRel c (L i) e
  dom : ∀ i e, c.μ i = some e → (L i).alive = true
  inj : ∀ i j e e', c.μ i = some e → c.μ j = some e' → e.nil = false → e'.nil = false → e.b = e'.b → i = j
  okd : ∀ b, c.ok b → b < c.w.heap.size ∧ ¬ c.own b
def lk (l : List Blk) : Nat → Blk := fun i => match l[i]? with | some b => b | none => .dead
/-- The function f, called with args over the blocks L0, hands back r over the blocks L1; blocks that it was given stay where they are. -/
def CE (P : Program) (f : FuncId) (args : List AV) (L0 : List Blk) (r : AV) (L1 : List Blk) : Prop :=
  (∀ as w, (callFunc f as).run P w = .ok (.enter f as) w) ∧
  ∀ (c : Cx) (vs : List Value), Good c (lk L0) → F2 (Rel c) args vs →
    CallsIn Fence.wide 0 P f vs.toArray c.w fun e w' => ∃ v d, d.w = w' ∧ e = .returned v ∧ Fr c d ∧ Good d (lk L1) ∧ Rel d r v ∧ ∀ i, i < L0.length → (lk L1 i).alive = true → d.μ i = c.μ i
/-- The function f, called with args, hands back r; it turns nothing. -/
def C (P : Program) (f : FuncId) (args : List AV) (r : AV) : Prop := CE P f args [] r []

/-- The function f, called with args, hands back a row of its own making. -/
def CR (P : Program) (f : FuncId) (args : List AV) (ty sz : Nat) (xs : List (List AV)) : Prop := CE P f args [] (.rowf 0) [.rows ty sz xs]

/-- How a call is met: its arguments' live blocks frozen (l), or lent (what comes back has no memory), or handed over (ids). -/
inductive Mode where
  | fz (l : List Nat) (r : AV)
  | bo (r : AV)
  | nw (l : List Nat) (ty sz : Nat) (xs : List (List AV))
  | ef (ids : List Nat) (r : AV) (L1 : List Blk)

def idx (ids : List Nat) (i : Nat) : Option Nat := ids.findIdx? (Nat.beq i)
def gRen (ids : List Nat) : AV → AV
  | .ptr i k j => match idx ids i with | some p => .ptr p k j | none => .any
  | .row i o m => match idx ids i with | some p => .row p o m | none => .any
  | .rowf i => match idx ids i with | some p => .rowf p | none => .any
  | .mp i => match idx ids i with | some p => .mp p | none => .any
  | a => a
def back1 (ids : List Nat) (j p : Nat) : Nat := match ids[p]? with | some i => i | none => j + (p - ids.length)
def gBack (ids : List Nat) (j : Nat) : AV → AV
  | .ptr p k q => .ptr (back1 ids j p) k q
  | .row p o m => .row (back1 ids j p) o m
  | .rowf p => .rowf (back1 ids j p)
  | .mp p => .mp (back1 ids j p)
  | a => a
def backs (ids : List Nat) (j : Nat) : Nat → List Blk → List (Nat × Blk)
  | _, [] => []
  | p, b :: l => (back1 ids j p, b.map' (trav (gBack ids j) 8)) :: backs ids j (p + 1) l
def deads (ids : List Nat) : Nat → List Blk → List Nat
  | _, [] => []
  | p, b :: l => match ids[p]? with | some i => (bif b.alive then deads ids (p + 1) l else i :: deads ids (p + 1) l) | none => []
def nodupB : List Nat → Bool
  | [] => true
  | i :: l => !memB l i && nodupB l
/-- The names in a value, as far as they are seen. -/
def refs : Nat → AV → List Nat
  | n + 1, .fn _ cs => cs.flatMap (refs n)
  | n + 1, .agg cs => cs.flatMap (refs n)
  | n + 1, .tup cs => cs.flatMap (refs n)
  | _, .ptr i _ _ => [i]
  | _, .row i _ _ => [i]
  | _, .rowf i => [i]
  | _, .mp i => [i]
  | _, _ => []
def callM (P : Program) (g : FuncId) (args : List AV) (L : Nat → Blk) (np j : Nat) (k : Eff → Prop) : Mode → Prop
  | .fz l r => l.all (fun i => (L i).alive) = true ∧ C P g (args.map (pur L (memB l) 8)) r ∧ frc r fun r => k { v := r, fz := l, rd := l }
  | .bo r => flat 8 r = true ∧ C P g (args.map (pur L (fun _ => true) 8)) r ∧ frc r fun r => k { v := r, rd := args.flatMap (refs 8) }
  | .nw l ty sz xs => (l.all (fun i => (L i).alive) = true ∧ (L j).alive = false) ∧ CR P g (args.map (pur L (memB l) 8)) ty sz xs ∧ k { v := .rowf j, wr := [(j, .rows ty sz xs)], fz := l, rd := j :: l, al := 1 }
  | .ef _ _ _ => False

def mapGet (es : List (Int × AV)) (n : Int) : Option AV := (es.find? fun p => p.1 == n).map (·.2)
def mapSet (es : List (Int × AV)) (n : Int) (v : AV) : List (Int × AV) :=
  match es with
  | [] => [(n, v)]
  | p :: l => if p.1 = n then (n, v) :: l else p :: mapSet l n v
def mapDel (es : List (Int × AV)) (n : Int) : List (Int × AV) :=
  match es with
  | [] => []
  | p :: l => if p.1 = n then l else p :: mapDel l n
/-- Equal cell by cell: whole numbers. -/
def eqCs : List AV → List AV → Option Bool
  | [], [] => some true
  | .int k a :: l, .int k' b :: m => match decide (k = k'), eqCs l m with | true, some t => some (a == b && t) | _, _ => none
  | _, _ => none
def nrm : AV → AV
  | .nilsl => .sl []
  | a => a

section
variable (P : Program) (Γ : Nat → Option TI) (np : Nat)
/-- A value of a type out of cells. -/
def ldC (i : TI) (x : List AV) (k : AV → Prop) : Prop :=
  match i.k.isAgg with
  | true => frcL (x.take i.sz) fun y => match Nat.beq y.length i.sz with | true => k (.agg y) | false => False
  | false => match x with | [] => False | a :: _ => frc a k
def bldL (fs : List (Nat × Nat)) (ρ : Operand → AV) : List (Nat × Operand) → List AV → (List AV → Prop) → Prop
  | [], cs, k => k cs
  | (f, x) :: ps, cs, k => match fs[f]? with
    | some (off, sz) => frc (ρ x) fun v => match v.cells with
      | some ys => frcL ys fun ys => match Nat.beq ys.length sz && Nat.ble (off + sz) cs.length with
        | true => frcL (splice cs off ys) fun cs => bldL fs ρ ps cs k
        | false => False
      | none => False
    | none => False
/-- The elements of a slice literal. -/
def bldS (z : List AV) (ρ : Operand → AV) : List (Nat × Operand) → List (List AV) → (List (List AV) → Prop) → Prop
  | [], xs, k => k xs
  | (f, x) :: ps, xs, k => frc (ρ x) fun v => match v.cells with
      | some ys => frcL (ys.map nrm) fun ys => match Nat.beq ys.length z.length && ys.all AV.pureC && Nat.blt f xs.length with
        | true => bldS z ρ ps (xs.set f ys) k
        | false => False
      | none => False
def intOp (op : BinOp) (k : IntKind) (a b : Int) (K : AV → Prop) : Prop :=
  match op with
  | .add => K (.int k (k.wrap (a + b)))
  | .sub => K (.int k (k.wrap (a - b)))
  | .mul => K (.int k (k.wrap (a * b)))
  | .quo => b ≠ 0 ∧ K (.int k (k.wrap (a.tdiv b)))
  | .rem => b ≠ 0 ∧ K (.int k (a.tmod b))
  | .or => K (.int k (k.wrap (BitVec.ofInt k.bits a ||| BitVec.ofInt k.bits b).toNat))
  | .and => K (.int k (k.wrap (BitVec.ofInt k.bits a &&& BitVec.ofInt k.bits b).toNat))
  | .eql => K (.bool (a == b))
  | .neq => K (.bool (a != b))
  | .lss => K (.bool (decide (a < b)))
  | .leq => K (.bool (decide (a ≤ b)))
  | .gtr => K (.bool (decide (a > b)))
  | .geq => K (.bool (decide (a ≥ b)))
  | _ => False
def vcBin (op : BinOp) (t : Nat) (a b : AV) (K : AV → Prop) : Prop :=
  match a, b with
  | .int ka x, .int kb y => match op with
    | .shl => 0 ≤ y ∧ K (.int ka (ka.wrap (x * 2 ^ (min y.toNat ka.bits))))
    | .shr => 0 ≤ y ∧ K (.int ka (x.fdiv (2 ^ (min y.toNat ka.bits))))
    | op => match decide (ka = kb) with | true => intOp op ka x y K | false => False
  | .bool x, .bool y => match Γ t with
    | some i => match i.k with
      | .bool => match op with
        | .eql => K (.bool (x == y))
        | .neq => K (.bool (!(x == y)))
        | _ => False
      | _ => False
    | none => False
  | .agg xs, .agg ys => match Γ t with
    | some i => match i.eq && Nat.beq xs.length i.sz with
      | true => match eqCs xs ys with
        | some t => match op with
          | .eql => K (.bool t)
          | .neq => K (.bool (!t))
          | _ => False
        | none => False
      | false => False
    | none => False
  | .sl xs, .nilsl => match Γ t with
    | some i => match i.k with
      | .slice _ => match op with
        | .eql => ∀ b : Bool, (xs ≠ [] → b = false) → K (.bool b)
        | .neq => ∀ b : Bool, (xs ≠ [] → b = true) → K (.bool b)
        | _ => False
      | _ => False
    | none => False
  | _, _ => False
/-- A place among so many. -/
def at_ (n : Int) (l : Nat) (K : Nat → Prop) : Prop := ∃ m : Nat, n = (m : Int) ∧ m < l ∧ K m
def vcIdx (sz : Nat) (L : Nat → Blk) (x : AV) (n : Int) (k : Eff → Prop) : Prop :=
  match x with
  | .sl xs => ∃ (m : Nat) (y : List AV), n = (m : Int) ∧ xs[m]? = some y ∧ frcL y fun y => match Nat.beq y.length sz with | true => k { v := .vptr y } | false => False
  | .slc xs => ∃ (m : Nat) (y : List AV), n = (m : Int) ∧ xs[m]? = some y ∧ frcL y fun y => match Nat.beq y.length sz with | true => k { v := .vptr y } | false => False
  | .rowf b => match L b with
    | .rows _ s xs => match Nat.beq s sz with | true => at_ n xs.length fun m => k { v := .ptr b m 0, rd := [b] } | false => False
    | _ => False
  | .row b o len => match L b with
    | .rows _ s xs => match Nat.beq s sz with | true => at_ n len fun m => k { v := .ptr b (o + m) 0, rd := [b] } | false => False
    | _ => False
  | _ => False
/-- The elements of a slice, for append. -/
def elems (L : Nat → Blk) (x : AV) (K : List (List AV) → List Nat → Prop) : Prop :=
  match x with
  | .nilsl => K [] []
  | .sl xs => K xs []
  | .slc xs => K xs []
  | .rowf b => match L b with | .rows _ _ xs => K xs [b] | _ => False
  | _ => False
/-- lo and hi of a slice expression, within a length. -/
def cut (lo hi : Option AV) (l : Nat) (K : Nat → Nat → Prop) : Prop :=
  match lo, hi with
  | none, none => K 0 l
  | none, some (.int _ h) => ∃ b : Nat, h = (b : Int) ∧ b ≤ l ∧ K 0 b
  | some (.int _ a), none => ∃ m : Nat, a = (m : Int) ∧ m ≤ l ∧ K m l
  | some (.int _ a), some (.int _ h) => ∃ m b : Nat, a = (m : Int) ∧ h = (b : Int) ∧ m ≤ b ∧ b ≤ l ∧ K m b
  | _, _ => False
def roomy (n b : Nat) : Prop := 0 < b ∧ n * b ≤ 140737488355328
def vcE (o : Oper) (ρ : Operand → AV) (L : Nat → Blk) (j : Nat) (k : Eff → Prop) : Prop :=
  match o.op with
  | .move x => frc (ρ x) fun v => k { v := v }
  | .assign x => frc (ρ x) fun v => k { v := v }
  | .pick c a b => frc (ρ c) fun c => match c with
    | .bool t => splitB t fun t => match t with | true => frc (ρ a) fun v => k { v := v } | false => frc (ρ b) fun v => k { v := v }
    | _ => False
  | .alloc t => match Γ t with
    | some i => match (L j).alive with | false => k { v := .ptr j 0 0, wr := [(j, .box t i.z)], rd := [j], al := 1 } | true => False
    | none => False
  | .box t x => frc (ρ x) fun v => match v.cells with
    | some cs => frcL cs fun cs => match (L j).alive with | false => k { v := .ptr j 0 0, wr := [(j, .box t cs)], rd := [j], al := 1 } | true => False
    | none => False
  | .load t a => match Γ t with
    | some i => frc (ρ a) fun p => match p with
      | .vptr cs => ldC i cs fun v => k { v := v }
      | .ptr b kk q => match L b with
        | .box _ cs => match kk with | 0 => ldC i (cs.drop q) fun v => k { v := v, rd := [b] } | _ + 1 => False
        | .rows _ _ xs => ∃ x, xs[kk]? = some x ∧ ldC i (x.drop q) fun v => k { v := v, rd := [b] }
        | _ => False
      | _ => False
    | none => False
  | .store t a x => match Γ t with
    | some i => frc (ρ a) fun p => frc (ρ x) fun v => match v.cells with
      | some cs => frcL cs fun cs => match Nat.beq cs.length i.sz && cs.all oneC with
        | true => match p with
          | .ptr b kk q => match L b with
            | .box ty ys => match kk, Nat.ble (q + cs.length) ys.length with
              | 0, true => frcL (splice ys q cs) fun ys => k { v := .und, wr := [(b, .box ty ys)], rd := [b] }
              | _, _ => False
            | .rows ty sz xs => ∃ y, xs[kk]? = some y ∧ match (cs.map nrm).all AV.pureC && Nat.ble (q + cs.length) y.length with
              | true => frcL (splice y q (cs.map nrm)) fun y => k { v := .und, wr := [(b, .rows ty sz (xs.set kk y))], rd := [b] }
              | false => False
            | _ => False
          | _ => False
        | false => False
      | none => False
    | none => False
  | .nilCheck x => frc (ρ x) fun v => match v with
    | .ptr i kk q => k { v := .ptr i kk q }
    | .vptr cs => k { v := .vptr cs }
    | _ => False
  | .binOp op t x y _ => frc (ρ x) fun a => frc (ρ y) fun b => vcBin Γ op t a b fun v => k { v := v }
  | .unOp op _ x => frc (ρ x) fun v => match op, v with
    | .not, .bool b => k { v := .bool (!b) }
    | .neg, .int kk n => k { v := .int kk (kk.wrap (0 - n)) }
    | _, _ => False
  | .convert s d x => match Γ s, Γ d with
    | some _, some i => match i.k with
      | .int kk => frc (ρ x) fun v => match v with | .int _ n => k { v := .int kk (kk.wrap n) } | _ => False
      | _ => False
    | _, _ => False
  | .makeFunc (.func f) first caps => match first.toList with
    | [] => frcL (caps.toList.map ρ) fun cs => k { v := .fn f cs }
    | _ => False
  | .makeMap t none => match Γ t with
    | some i => match i.k with
      | .map kt _ => match Γ kt with
        | some q => match q.k with
          | .int kk => match (L j).alive with | false => k { v := .mp j, wr := [(j, .map kk [])], rd := [j], al := 1 } | true => False
          | _ => False
        | none => False
      | _ => False
    | none => False
  | .makeSlice t l c => match Γ t with
    | some i => match i.k with
      | .slice e => match Γ e with
        | some q => frc (ρ l) fun a => frc (ρ c) fun b => match a, b with
          | .int .i64 n, .int .i64 n' => n' = n ∧ ∃ m : Nat, n = (m : Int) ∧ roomy m q.by_ ∧ match (L j).alive, (q.z.map nrm).all AV.pureC, Nat.blt 0 q.sz with
            | false, true, true => k { v := .rowf j, wr := [(j, .rows e q.sz (List.replicate m (q.z.map nrm)))], rd := [j], al := 1 }
            | _, _, _ => False
          | _, _ => False
        | none => False
      | _ => False
    | none => False
  | .buildSlice t n ps => match Γ t with
    | some i => match i.k with
      | .slice e => match Γ e with
        | some q => bldS q.z ρ ps.toList (List.replicate n (q.z.map nrm)) fun xs => match (L j).alive, (q.z.map nrm).all AV.pureC, Nat.blt 0 q.sz, Nat.ble (n * q.sz) 16777216 with
          | false, true, true, true => k { v := .rowf j, wr := [(j, .rows e q.sz xs)], rd := [j], al := 1 }
          | _, _, _, _ => False
        | none => False
      | _ => False
    | none => False
  | .build t ps => match Γ t with
    | some i => match i.k with
      | .struct fs => bldL fs ρ ps.toList i.z fun cs => k { v := .agg cs }
      | .arr _ e => match Γ e with
        | some q => bldL ((List.range i.sz).map fun f => (f * q.sz, q.sz)) ρ ps.toList i.z fun cs => k { v := .agg cs }
        | none => False
      | _ => False
    | none => False
  | .fieldAddr t x f => match Γ t with
    | some i => match i.k with
      | .struct fs => match fs[f]? with
        | some (off, _) => frc (ρ x) fun p => match p with
          | .vptr cs => frcL (cs.drop off) fun cs => k { v := .vptr cs }
          | .ptr b kk q => k { v := .ptr b kk (q + off) }
          | _ => False
        | none => False
      | _ => False
    | none => False
  | .indexAddr t x ix => match Γ t with
    | some i => match i.k with
      | .slice e => match Γ e with
        | some q => frc (ρ x) fun a => frc (ρ ix) fun n => match n with | .int _ n => vcIdx q.sz L a n k | _ => False
        | none => False
      | _ => False
    | none => False
  | .index t x ix => match Γ t with
    | some i => match i.k with
      | .arr len e => match Γ e with
        | some q => frc (ρ x) fun a => frc (ρ ix) fun n => match a, n with
          | .agg cs, .int _ n => match Nat.beq q.sz 1 && !q.k.isAgg with
            | true => ∃ (m : Nat) (v : AV), n = (m : Int) ∧ cs[m]? = some v ∧ m < len ∧ frc v fun v => k { v := v }
            | false => False
          | _, _ => False
        | none => False
      | _ => False
    | none => False
  | .slice t x lo hi mx => match Γ t with
    | some i => match i.k with
      | .slice e => match Γ e with
        | some q => frc (ρ x) fun a => match a with
          | .sl xs => (∀ x ∈ xs, x.length = q.sz) ∧ cut (lo.map ρ) (hi.map ρ) xs.length fun a b => match mx with
            | none => k { v := .sl ((xs.take b).drop a) }
            | some m => match hi.map ρ, ρ m with
              | some (.int _ h), .int _ n => n = h ∧ k { v := .slc ((xs.take b).drop a) }
              | _, _ => False
          | .rowf b => match L b, mx with
            | .rows _ s xs, none => match Nat.beq s q.sz with
              | true => cut (lo.map ρ) (hi.map ρ) xs.length fun m h => k { v := .row b m (h - m), rd := [b] }
              | false => False
            | _, _ => False
          | _ => False
        | none => False
      | _ => False
    | none => False
  | .lookup t m x ok => match Γ t with
    | some i => match i.k with
      | .map kt e => match Γ kt with
        | some qk => match qk.k with
          | .int kq => match Γ e with
            | some q => frc (ρ m) fun m => frc (ρ x) fun x => match m, x with
              | .mp b, .int kx n => match L b with
                | .map kk es => match decide (kk = kx) && decide (kq = kx) with
                  | true => ∃ r, mapGet es n = r ∧ match r, ok with
                    | some v, true => frc v fun v => k { v := .tup [v, .bool true], rd := [b] }
                    | none, true => match q.z, q.k.isAgg with | [z], false => k { v := .tup [z, .bool false], rd := [b] } | _, _ => False
                    | some v, false => frc v fun v => k { v := v, rd := [b] }
                    | none, false => match q.z, q.k.isAgg with | [z], false => k { v := z, rd := [b] } | _, _ => False
                  | false => False
                | _ => False
              | _, _ => False
            | none => False
          | _ => False
        | none => False
      | _ => False
    | none => False
  | .mapUpdate t m x y => match Γ t with
    | some i => match i.k with
      | .map kt _ => match Γ kt with
        | some qk => match qk.k with
          | .int kq => frc (ρ m) fun m => frc (ρ x) fun x => frc (ρ y) fun v => match m, x with
            | .mp b, .int kx n => match L b with
              | .map kk es => match decide (kk = kx) && decide (kq = kx) && v.pureC with
                | true => k { v := .und, wr := [(b, .map kk (mapSet es n v))], rd := [b] }
                | false => False
              | _ => False
            | _, _ => False
          | _ => False
        | none => False
      | _ => False
    | none => False
  | .extract x n => frc (ρ x) fun v => match v with
    | .tup vs => match vs[n]? with | some v => frc v fun v => k { v := v } | none => False
    | _ => False
  | .call c => match c.callee with
    | .value f => frc (ρ f) fun f => match f with
      | .fn g caps => frcL ((c.args.toList.map ρ) ++ caps) fun as => ∃ m : Mode, callM P g as L np j k m
      | _ => False
    | .builtin .len => match c.args.toList with
      | [x] => match c.argTypes.toList with
        | [t] => match Γ t with
          | some i => match i.k with
            | .slice _ => frc (ρ x) fun v => match v with
              | .sl xs => k { v := .int .i64 xs.length }
              | .slc xs => k { v := .int .i64 xs.length }
              | .nilsl => k { v := .int .i64 0 }
              | .row b o n => k { v := .int .i64 n }
              | .rowf b => match L b with | .rows _ _ xs => k { v := .int .i64 xs.length, rd := [b] } | _ => False
              | _ => False
            | .map _ _ => frc (ρ x) fun v => match v with
              | .mp b => match L b with | .map _ es => k { v := .int .i64 es.length, rd := [b] } | _ => False
              | _ => False
            | _ => False
          | none => False
        | _ => False
      | _ => False
    | .builtin .append => match c.args.toList, c.argTypes.toList with
      | [s, x], [t, t'] => match Γ t, decide (t = t') with
        | some i, true => match i.k with
          | .slice e => match Γ e with
            | some q => frc (ρ s) fun s => frc (ρ x) fun x => elems L x fun ys rd => match s with
              | .rowf b => match L b with
                | .rows ty sz xs => match Nat.ble np b && Nat.beq ty e && !(memB rd b) && Nat.beq sz q.sz with
                  | true => (∀ y ∈ ys, y.length = sz ∧ y.all oneC = true) ∧ roomy (xs.length + ys.length) q.by_ ∧ k { v := .rowf b, wr := [(b, .rows ty sz (xs ++ ys))], scr := [b], rd := b :: rd }
                  | false => False
                | _ => False
              | .nilsl => match ys with
                | y :: ys => match (L j).alive, Nat.blt 0 q.sz with
                  | false, true => (∀ z ∈ y :: ys, z.length = q.sz ∧ z.all oneC = true) ∧ roomy (ys.length + 1) q.by_ ∧ k { v := .rowf j, wr := [(j, .rows e q.sz (y :: ys))], rd := j :: rd, al := 1 }
                  | _, _ => False
                | [] => False
              | .slc xs => match ys with
                | y :: ys => match (L j).alive, Nat.blt 0 q.sz with
                  | false, true => (∀ z ∈ xs ++ y :: ys, z.length = q.sz ∧ z.all oneC = true) ∧ roomy (xs.length + (ys.length + 1)) q.by_ ∧ k { v := .rowf j, wr := [(j, .rows e q.sz (xs ++ y :: ys))], rd := j :: rd, al := 1 }
                  | _, _ => False
                | [] => False
              | _ => False
            | none => False
          | _ => False
        | _, _ => False
      | _, _ => False
    | .builtin .min => match c.args.toList with
      | [x, y] => frc (ρ x) fun x => frc (ρ y) fun y => match x, y with | .int kk a, .int _ b => k { v := .int kk (if b < a then b else a) } | _, _ => False
      | _ => False
    | .builtin .max => match c.args.toList with
      | [x, y] => frc (ρ x) fun x => frc (ρ y) fun y => match x, y with | .int kk a, .int _ b => k { v := .int kk (if b > a then b else a) } | _, _ => False
      | _ => False
    | .builtin .delete => match c.args.toList, c.argTypes.toList with
      | [m, x], t :: _ => match Γ t with
        | some i => match i.k with
          | .map kt _ => match Γ kt with
            | some qk => match qk.k with
              | .int kq => frc (ρ m) fun m => frc (ρ x) fun x => match m, x with
                | .mp b, .int kx n => match L b with
                  | .map kk es => match decide (kk = kx) && decide (kq = kx) with
                    | true => k { v := .any, wr := [(b, .map kk (mapDel es n))], rd := [b] }
                    | false => False
                  | _ => False
                | _, _ => False
              | _ => False
            | none => False
          | _ => False
        | none => False
      | _, _ => False
    | _ => False
  | _ => False
end
end Go.Proofs.Ytcfbhojpemjjpaa
