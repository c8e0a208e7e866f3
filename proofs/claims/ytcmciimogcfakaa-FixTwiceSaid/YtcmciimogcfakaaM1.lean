/- Part 1 of the walk that the law rests on: V, D, E, F, G, H, I, J, K, L, M, N, O, Q, R, S. -/
import Derived.Below
import Derived.CallsIn
import Derived.RangeFuncLeaves
import Derived.RangeFuncCalls
import Derived.RangeFuncRecord
import Derived.Maps.AppendAt
import Derived.OwnWalk
import Derived.WalkKit
import Derived.KernelRfl
import Derived.RowKit3
import Derived.Laws.StructEq
import Derived.Laws.Rows
import Derived.Laws.Tables
import Derived.Lib.SliceRun
import Derived.Great.FillDense
import Derived.MapKept
/- The values, the blocks and the states of the abstract walk, and what ties them to the model's world. -/
set_option linter.unusedVariables false
set_option linter.unusedSimpArgs false
namespace Go.Proofs.Ytcmciimogcfakaa
open Go Go.RowKit

/-- Related one by one. -/
inductive F2 {α β : Type} (R : α → β → Prop) : List α → List β → Prop where
  | nil : F2 R [] []
  | cons {a : α} {b : β} {l : List α} {m : List β} : R a b → F2 R l m → F2 R (a :: l) (b :: m)
theorem F2.length {α β : Type} {R : α → β → Prop} {l : List α} {m : List β} (h : F2 R l m) : l.length = m.length := by
  induction h with
  | nil => rfl
  | cons _ _ ih => simp [ih]
theorem F2.imp {α β : Type} {R S : α → β → Prop} {l : List α} {m : List β} (h : F2 R l m) (hi : ∀ a b, a ∈ l → R a b → S a b) : F2 S l m := by
  induction h with
  | nil => exact .nil
  | cons hr _ ih => exact .cons (hi _ _ (by simp) hr) (ih fun a b ha => hi a b (by simp [ha]))
theorem F2.map {α β γ : Type} {R : α → β → Prop} {S : γ → β → Prop} {l : List α} {m : List β} (h : F2 R l m) (g : α → γ) (hi : ∀ a b, a ∈ l → R a b → S (g a) b) : F2 S (l.map g) m := by
  induction h with
  | nil => exact .nil
  | cons hr _ ih => exact .cons (hi _ _ (by simp) hr) (ih fun a b ha => hi a b (by simp [ha]))
theorem F2.append {α β : Type} {R : α → β → Prop} {l l' : List α} {m m' : List β} (h : F2 R l m) (h' : F2 R l' m') : F2 R (l ++ l') (m ++ m') := by
  induction h with
  | nil => exact h'
  | cons hr _ ih => exact .cons hr ih
theorem F2.get {α β : Type} {R : α → β → Prop} {l : List α} {m : List β} (h : F2 R l m) (i : Nat) {a : α} (ha : l[i]? = some a) : ∃ b, m[i]? = some b ∧ R a b := by
  induction h generalizing i with
  | nil => simp at ha
  | cons hr _ ih =>
    cases i with
    | zero => simp at ha; subst ha; exact ⟨_, rfl, hr⟩
    | succ i => simp at ha; simpa using ih i ha
theorem F2.of_get {α β : Type} {R : α → β → Prop} : ∀ {l : List α} {m : List β}, l.length = m.length → (∀ (i : Nat) (a : α) (b : β), l[i]? = some a → m[i]? = some b → R a b) → F2 R l m
  | [], [], _, _ => .nil
  | [], _ :: _, h, _ => by simp at h
  | _ :: _, [], h, _ => by simp at h
  | a :: l, b :: m, h, hr => .cons (hr 0 a b rfl rfl) (F2.of_get (by simpa using h) fun i x y hx hy => hr (i + 1) x y (by simpa using hx) (by simpa using hy))
theorem F2.drop {α β : Type} {R : α → β → Prop} {l : List α} {m : List β} (h : F2 R l m) (n : Nat) : F2 R (l.drop n) (m.drop n) := by
  induction h generalizing n with
  | nil => simpa using F2.nil
  | cons hr ht ih => cases n with
    | zero => exact .cons hr ht
    | succ n => simpa using ih n
theorem F2.take {α β : Type} {R : α → β → Prop} {l : List α} {m : List β} (h : F2 R l m) (n : Nat) : F2 R (l.take n) (m.take n) := by
  induction h generalizing n with
  | nil => simpa using F2.nil
  | cons hr ht ih => cases n with
    | zero => simpa using F2.nil
    | succ n => simpa using F2.cons hr (ih n)
theorem F2.set {α β : Type} {R : α → β → Prop} {l : List α} {m : List β} (h : F2 R l m) (n : Nat) {a : α} {b : β} (hr : R a b) : F2 R (l.set n a) (m.set n b) := by
  induction h generalizing n with
  | nil => simpa using F2.nil
  | cons h0 ht ih => cases n with
    | zero => exact .cons hr ht
    | succ n => simpa using F2.cons h0 (ih n)
theorem F2.replicate {α β : Type} {R : α → β → Prop} (n : Nat) {a : α} {b : β} (hr : R a b) : F2 R (List.replicate n a) (List.replicate n b) := by
  induction n with
  | zero => exact .nil
  | succ n ih => exact .cons hr ih

/-- Where a live block lies: its number; of a slice's array: how many cells an element has, the capacity, the length; whether it is that of the nil slice (then there is no block). -/
structure Ent where
  b : Nat
  sz : Nat
  cap : Nat
  n : Nat
  nil : Bool
/-- A value as the walk tells it. -/
inductive AV where
  | int (k : IntKind) (n : Int)
  | bool (b : Bool)
  | fn (f : FuncId) (caps : List AV)
  | yld
  | ptr (i k j : Nat)
  | vptr (cs : List AV)
  | row (i off len : Nat)
  | rowf (i : Nat)
  | sl (xs : List (List AV))
  | slc (xs : List (List AV))
  | nilsl
  | agg (cs : List AV)
  | tup (vs : List AV)
  | mp (i : Nat)
  | gst (i : Nat) (e : Ent)
  | und
  | any
instance : Inhabited AV := ⟨.any⟩

def Ent.val (e : Ent) : Value := bif e.nil then .slice none 0 0 else .slice (some ⟨e.b, 0, none⟩) e.n e.cap
/-- What holds at a moment: the world, the blocks that never change any more, the live blocks, the loop that yield belongs to. -/
structure Cx where
  w : World
  ok : Nat → Prop
  μ : Nat → Option Ent
  yl : Option Nat

/-- Values without live blocks. -/
inductive R0 (w : World) (ok : Nat → Prop) : AV → Value → Prop where
  | int (k : IntKind) (n : Int) : R0 w ok (.int k n) (.int k n)
  | bool (b : Bool) : R0 w ok (.bool b) (.bool b)
  | fn (f : FuncId) {caps : List AV} {vs : List Value} (hl : caps.length = vs.length) (h : ∀ (i : Nat) (a : AV) (v : Value), caps[i]? = some a → vs[i]? = some v → R0 w ok a v) : R0 w ok (.fn f caps) (.func (.func f) #[] vs.toArray)
  | vptr {cs : List AV} (b off : Nat) (us : Nat → Value) (hb : ok b) (hc : ∀ (j : Nat), j < cs.length → w.cell? ⟨b, off + j, none⟩ = some (us j)) (h : ∀ (j : Nat) (a : AV), cs[j]? = some a → R0 w ok a (us j)) : R0 w ok (.vptr cs) (.pointer (some ⟨b, off, none⟩))
  | sle (A : Option Addr) (c : Nat) : R0 w ok (.sl []) (.slice A 0 c)
  | sl {xs : List (List AV)} (b off sz c : Nat) (us : Nat → Value) (hb : ok b) (hcp : xs.length ≤ c) (hz : ∀ x ∈ xs, x.length = sz) (hc : ∀ (j : Nat), j < xs.length * sz → w.cell? ⟨b, off + j, none⟩ = some (us j))
      (h : ∀ (j : Nat) (a : AV), xs.flatten[j]? = some a → R0 w ok a (us j)) : R0 w ok (.sl xs) (.slice (some ⟨b, off, none⟩) xs.length c)
  | slce (A : Option Addr) : R0 w ok (.slc []) (.slice A 0 0)
  | slc {xs : List (List AV)} (b off sz : Nat) (us : Nat → Value) (hb : ok b) (hz : ∀ x ∈ xs, x.length = sz) (hc : ∀ (j : Nat), j < xs.length * sz → w.cell? ⟨b, off + j, none⟩ = some (us j))
      (h : ∀ (j : Nat) (a : AV), xs.flatten[j]? = some a → R0 w ok a (us j)) : R0 w ok (.slc xs) (.slice (some ⟨b, off, none⟩) xs.length xs.length)
  | nilsl : R0 w ok .nilsl (.slice none 0 0)
  | agg {cs : List AV} {vs : List Value} (hl : cs.length = vs.length) (h : ∀ (i : Nat) (a : AV) (v : Value), cs[i]? = some a → vs[i]? = some v → R0 w ok a v) : R0 w ok (.agg cs) (.agg vs.toArray)
  | tup {cs : List AV} {vs : List Value} (hl : cs.length = vs.length) (h : ∀ (i : Nat) (a : AV) (v : Value), cs[i]? = some a → vs[i]? = some v → R0 w ok a v) : R0 w ok (.tup cs) (.tuple vs.toArray)
  | und : R0 w ok .und undef
  | any (v : Value) : R0 w ok .any v

theorem R0.mono {w w' : World} {ok ok' : Nat → Prop} (hk : ∀ b, ok b → ok' b) (hw : ∀ b, ok b → w'.heap[b]? = w.heap[b]?) {a : AV} {v : Value} (h : R0 w ok a v) : R0 w' ok' a v := by
  have hc : ∀ (b off : Nat) (u : Value), ok b → w.cell? ⟨b, off, none⟩ = some u → w'.cell? ⟨b, off, none⟩ = some u := fun b off u hb h => by
    unfold World.cell? at h ⊢
    rw [hw b hb]
    exact h
  induction h with
  | int k n => exact .int k n
  | bool b => exact .bool b
  | fn f hl _ ih => exact .fn f hl ih
  | vptr b off us hb h1 _ ih => exact .vptr b off us (hk _ hb) (fun j hj => hc _ _ _ hb (h1 j hj)) ih
  | sle A c => exact .sle A c
  | sl b off sz c us hb hcp hz h1 _ ih => exact .sl b off sz c us (hk _ hb) hcp hz (fun j hj => hc _ _ _ hb (h1 j hj)) ih
  | slce A => exact .slce A
  | slc b off sz us hb hz h1 _ ih => exact .slc b off sz us (hk _ hb) hz (fun j hj => hc _ _ _ hb (h1 j hj)) ih
  | nilsl => exact .nilsl
  | agg hl _ ih => exact .agg hl ih
  | tup hl _ ih => exact .tup hl ih
  | und => exact .und
  | any v => exact .any v

/-- Values, live blocks and all. -/
inductive Rel (c : Cx) : AV → Value → Prop where
  | pure {a : AV} {v : Value} (h : R0 c.w c.ok a v) : Rel c a v
  | fn (f : FuncId) {caps : List AV} {vs : List Value} (hl : caps.length = vs.length) (h : ∀ (i : Nat) (a : AV) (v : Value), caps[i]? = some a → vs[i]? = some v → Rel c a v) : Rel c (.fn f caps) (.func (.func f) #[] vs.toArray)
  | agg {cs : List AV} {vs : List Value} (hl : cs.length = vs.length) (h : ∀ (i : Nat) (a : AV) (v : Value), cs[i]? = some a → vs[i]? = some v → Rel c a v) : Rel c (.agg cs) (.agg vs.toArray)
  | tup {cs : List AV} {vs : List Value} (hl : cs.length = vs.length) (h : ∀ (i : Nat) (a : AV) (v : Value), cs[i]? = some a → vs[i]? = some v → Rel c a v) : Rel c (.tup cs) (.tuple vs.toArray)
  | yld (l : Nat) (h : c.yl = some l) : Rel c .yld (.func (.yield l) #[] #[])
  | ptr {i k j : Nat} {e : Ent} (h : c.μ i = some e) (hn : e.nil = false) : Rel c (.ptr i k j) (.pointer (some ⟨e.b, k * e.sz + j, none⟩))
  | row {i off len : Nat} {e : Ent} (cc o : Nat) (h : c.μ i = some e) (hn : e.nil = false) (ho : o = off * e.sz ∨ cc = 0) (hc : off + cc = e.cap) (hl : off + len ≤ e.n) : Rel c (.row i off len) (.slice (some ⟨e.b, o, none⟩) len cc)
  | rown {i : Nat} {e : Ent} (h : c.μ i = some e) (hn : e.nil = true) : Rel c (.row i 0 0) (.slice none 0 0)
  | rowf {i : Nat} {e : Ent} (h : c.μ i = some e) : Rel c (.rowf i) e.val
  | mp {i : Nat} {e : Ent} (h : c.μ i = some e) (hn : e.nil = false) : Rel c (.mp i) (.map (some e.b))
  | gst {i : Nat} {e : Ent} (h : c.μ i = some e) (v : Value) : Rel c (.gst i e) v

/-- A block as the walk tells it: none; a variable; a slice's array; a map of whole numbers. -/
inductive Blk where
  | dead
  | box (ty : Nat) (cs : List AV)
  | rows (ty sz : Nat) (xs : List (List AV))
  | map (kt : IntKind) (es : List (Int × AV))
instance : Inhabited Blk := ⟨.dead⟩
def Blk.alive : Blk → Bool
  | .dead => false
  | _ => true

/-- A block lies where it is said to lie. -/
inductive BlkRel (c : Cx) : Blk → Ent → Prop where
  | box {ty : Nat} {cs : List AV} {e : Ent} (vs : List Value) (hn : e.nil = false) (hh : c.w.heap[e.b]? = some (.cells vs.toArray ty (0, 0))) (h : F2 (Rel c) cs vs) : BlkRel c (.box ty cs) e
  | rows {ty sz : Nat} {xs : List (List AV)} {e : Ent} (vs : List Value) (hh : c.w.ownsRow 0 ty sz e.val e.n vs) (h : F2 (R0 c.w c.ok) xs.flatten vs) (hs : e.sz = sz) (hn : e.n = xs.length)
      (hz : ∀ x ∈ xs, x.length = sz) (h0 : 0 < sz) (h1 : ∀ v ∈ vs, v.oneCell' = true) : BlkRel c (.rows ty sz xs) e
  | map {kt : IntKind} {es : List (Int × AV)} {e : Ent} (hn : e.nil = false) (ms : Array MapEntry) (clock : Nat) (hh : c.w.heap[e.b]? = some (.map ms clock))
      (h : F2 (fun (p : Int × AV) (m : MapEntry) => m.key = .int kt p.1 ∧ R0 c.w c.ok p.2 m.val) es ms.toList) : BlkRel c (.map kt es) e

def Cx.own (c : Cx) (b : Nat) : Prop := ∃ i e, c.μ i = some e ∧ e.nil = false ∧ e.b = b

/-- What a step may do: only its own blocks are turned. -/
structure Fr (c d : Cx) : Prop where
  os : d.w.os = c.w.os
  tape : d.w.tape = c.w.tape
  output : d.w.output = c.w.output
  size : c.w.heap.size ≤ d.w.heap.size
  same : ∀ b, b < c.w.heap.size → ¬ c.own b → d.w.heap[b]? = c.w.heap[b]?
  own : ∀ b, d.own b → c.own b ∨ c.w.heap.size ≤ b
  ok : ∀ b, d.ok b → c.ok b ∨ c.own b ∨ c.w.heap.size ≤ b
  mono : ∀ b, c.ok b → d.ok b
  yl : d.yl = c.yl
  drn : c.w.drawn ≤ d.w.drawn
theorem Fr.refl (c : Cx) : Fr c c := ⟨rfl, rfl, rfl, Nat.le_refl _, fun _ _ _ => rfl, fun _ h => .inl h, fun _ h => .inl h, fun _ h => h, rfl, Nat.le_refl _⟩
theorem Fr.trans {c d e : Cx} (h : Fr c d) (k : Fr d e) : Fr c e := by
  refine ⟨k.os.trans h.os, k.tape.trans h.tape, k.output.trans h.output, Nat.le_trans h.size k.size, fun b hb hn => ?_, fun b hb => ?_, fun b hb => ?_, fun b hb => k.mono b (h.mono b hb), k.yl.trans h.yl, Nat.le_trans h.drn k.drn⟩
  · rw [k.same b (Nat.lt_of_lt_of_le hb h.size) (fun hd => (h.own b hd).elim hn fun hle => by omega), h.same b hb hn]
  · rcases k.own b hb with h1 | h1
    · exact h.own b h1
    · exact .inr (Nat.le_trans h.size h1)
  · rcases k.ok b hb with h1 | h1 | h1
    · exact h.ok b h1
    · rcases h.own b h1 with h2 | h2
      · exact .inr (.inl h2)
      · exact .inr (.inr h2)
    · exact .inr (.inr (Nat.le_trans h.size h1))

/-- A function at one more place. -/
def upd {α : Type} (f : Nat → α) (i : Nat) (v : α) : Nat → α := fun j => bif Nat.beq j i then v else f j
theorem upd_same {α : Type} (f : Nat → α) (i : Nat) (v : α) : upd f i v i = v := by simp [upd]
theorem upd_ne {α : Type} (f : Nat → α) {i j : Nat} (v : α) (h : j ≠ i) : upd f i v j = f j := by
  have hb : Nat.beq j i = false := by
    cases hb : Nat.beq j i with
    | false => rfl
    | true => exact absurd (Nat.eq_of_beq_eq_true hb) h
  simp [upd, hb]

/-- The state of a walk. nt: how many temporaries there are; nx: the next block's name; g: values that are kept for later; y: how many things have been told to yield. -/
structure St where
  t : Nat → AV
  L : Nat → Blk
  nt : Nat
  nx : Nat
  g : List AV
  y : Option Nat

/-- A walk through the parts of a value; what names a live block goes through g. -/
def trav (g : AV → AV) : Nat → AV → AV
  | 0, .fn _ _ => .any
  | 0, .agg _ => .any
  | 0, .tup _ => .any
  | n + 1, .fn f cs => .fn f (cs.map (trav g n))
  | n + 1, .agg cs => .agg (cs.map (trav g n))
  | n + 1, .tup cs => .tup (cs.map (trav g n))
  | _, .ptr i k j => g (.ptr i k j)
  | _, .row i o l => g (.row i o l)
  | _, .rowf i => g (.rowf i)
  | _, .mp i => g (.mp i)
  | _, .gst i e => g (.gst i e)
  | _, a => a
end Go.Proofs.Ytcmciimogcfakaa

/- The abstract walk: what an operation does to a state, and what is asked of the prover there. -/
set_option linter.unusedVariables false
set_option linter.unusedSimpArgs false
namespace Go.Proofs.Ytcmciimogcfakaa
open Go Go.RowKit

/-- A type, as far as the walk asks. -/
inductive TK where
  | int (k : IntKind)
  | bool
  | slice (e : Nat)
  | struct (fs : List (Nat × Nat))
  | arr (n e : Nat)
  | ptr (e : Nat)
  | map (k e : Nat)
  | other
def TK.isAgg : TK → Bool
  | .struct _ => true
  | .arr _ _ => true
  | _ => false
structure TI where
  k : TK
  sz : Nat
  by_ : Nat
  z : List AV
  eq : Bool := false
def ofV : Value → AV
  | .int k n => .int k n
  | .bool b => .bool b
  | .slice none 0 0 => .nilsl
  | _ => .any
def ofConst : Value → AV
  | .int k n => .int k n
  | .bool b => .bool b
  | .slice none 0 0 => .nilsl
  | _ => .any

/-- Its head is looked for before the walk goes on. -/
def frc (a : AV) (K : AV → Prop) : Prop :=
  match a with
  | .int k n => K (.int k n)
  | .bool b => K (.bool b)
  | .fn f cs => K (.fn f cs)
  | .yld => K .yld
  | .ptr i k j => K (.ptr i k j)
  | .vptr cs => K (.vptr cs)
  | .row i o l => K (.row i o l)
  | .rowf i => K (.rowf i)
  | .sl xs => K (.sl xs)
  | .slc xs => K (.slc xs)
  | .nilsl => K .nilsl
  | .agg cs => K (.agg cs)
  | .tup cs => K (.tup cs)
  | .mp i => K (.mp i)
  | .gst i e => K (.gst i e)
  | .und => K .und
  | .any => K .any
theorem frc_eq (a : AV) (K : AV → Prop) : frc a K = K a := by cases a <;> rfl
def frcL : List AV → (List AV → Prop) → Prop
  | [], K => K []
  | a :: l, K => frc a fun a => frcL l fun l => K (a :: l)
theorem frcL_eq (l : List AV) (K : List AV → Prop) : frcL l K = K l := by
  induction l generalizing K with
  | nil => rfl
  | cons a l ih => simp only [frcL, frc_eq, ih]
/-- A test whose outcome is not known parts the walk. -/
structure splitB (b : Bool) (K : Bool → Prop) : Prop where
  out : K b
theorem splitB_eq (b : Bool) (K : Bool → Prop) : splitB b K = K b := propext ⟨fun h => h.out, fun h => ⟨h⟩⟩
theorem splitB_intro {b : Bool} {K : Bool → Prop} (ht : b = true → K true) (hf : b = false → K false) : splitB b K := by
  cases b
  · exact ⟨hf rfl⟩
  · exact ⟨ht rfl⟩
theorem splitB_t {K : Bool → Prop} (h : K true) : splitB true K := ⟨h⟩
theorem splitB_f {K : Bool → Prop} (h : K false) : splitB false K := ⟨h⟩

def AV.cells : AV → Option (List AV)
  | .gst _ _ => none
  | .agg cs => some cs
  | .tup _ => none
  | .und => none
  | .any => none
  | a => some [a]
/-- One cell, and no live block in it. -/
def AV.pureC : AV → Bool
  | .int _ _ => true
  | .bool _ => true
  | .sl _ => true
  | .slc _ => true
  | .nilsl => true
  | .vptr _ => true
  | _ => false
/-- A value with no memory behind it. -/
def flat : Nat → AV → Bool
  | _, .int _ _ => true
  | _, .bool _ => true
  | n + 1, .agg cs => cs.all (flat n)
  | n + 1, .tup cs => cs.all (flat n)
  | _, _ => false
def oneC : AV → Bool
  | .gst _ _ => false
  | .agg _ => false
  | .tup _ => false
  | .und => false
  | .any => false
  | _ => true
def splice {α : Type} (x : List α) (j : Nat) (cs : List α) : List α := x.take j ++ cs ++ x.drop (j + cs.length)

/-- A value, its live blocks frozen (those of l); other live blocks are let go of. -/
def pur (L : Nat → Blk) (l : Nat → Bool) : Nat → AV → AV
  | n + 1, .fn f cs => .fn f (cs.map (pur L l n))
  | n + 1, .agg cs => .agg (cs.map (pur L l n))
  | n + 1, .tup cs => .tup (cs.map (pur L l n))
  | _, .rowf i => bif l i then (match L i with | .rows _ _ xs => .sl xs | _ => .any) else .any
  | _, .row i o m => bif l i then (match L i with | .rows _ _ xs => .sl ((xs.drop o).take m) | _ => .any) else .any
  | n + 1, .ptr i k j => bif l i then (match L i with | .box _ cs => (match k with | 0 => .vptr ((cs.drop j).map (pur L l n)) | _ => .any) | .rows _ _ xs => (match xs[k]? with | some x => .vptr (x.drop j) | none => .any) | _ => .any) else .any
  | 0, .ptr _ _ _ => .any
  | 0, .fn _ _ => .any
  | 0, .agg _ => .any
  | 0, .tup _ => .any
  | _, .mp _ => .any
  | _, .gst _ _ => .any
  | _, .yld => .any
  | _, .nilsl => .sl []
  | _, a => a

def memB (l : List Nat) (i : Nat) : Bool := l.any (Nat.beq i)
def gScr (l : List Nat) : AV → AV
  | .ptr i k j => bif memB l i then .any else .ptr i k j
  | .row i o m => bif memB l i then .any else .row i o m
  | .rowf i => bif memB l i then .any else .rowf i
  | .mp i => bif memB l i then .any else .mp i
  | .gst i e => bif memB l i then .any else .gst i e
  | a => a
def gFz (L : Nat → Blk) (l : List Nat) : AV → AV
  | .ptr i k j => bif memB l i then pur L (memB l) 8 (.ptr i k j) else .ptr i k j
  | .row i o m => bif memB l i then pur L (memB l) 8 (.row i o m) else .row i o m
  | .rowf i => bif memB l i then pur L (memB l) 8 (.rowf i) else .rowf i
  | .mp i => bif memB l i then .any else .mp i
  | .gst i e => bif memB l i then .any else .gst i e
  | a => a
def Blk.map' (f : AV → AV) : Blk → Blk
  | .box ty cs => .box ty (cs.map f)
  | b => b
def scA (l : List Nat) (a : AV) : AV := match l with | [] => a | l => trav (gScr l) 8 a
def scL (l : List Nat) (L : Nat → Blk) : Nat → Blk := match l with | [] => L | l => fun i => (L i).map' (trav (gScr l) 8)
def fzA (L : Nat → Blk) (l : List Nat) (a : AV) : AV := match l with | [] => a | l => trav (gFz L l) 8 a
def fzL (l : List Nat) (L : Nat → Blk) : Nat → Blk := match l with | [] => L | l => fun i => bif memB l i then .dead else (L i).map' (trav (gFz L l) 8)

/-- What an operation does: v: its value; wr: blocks that are written, or new; scr: blocks that have moved; fz: blocks that are frozen; rd: blocks that it looked at; al: how many are new. -/
structure Eff where
  v : AV
  wr : List (Nat × Blk) := []
  scr : List Nat := []
  fz : List Nat := []
  rd : List Nat := []
  al : Nat := 0
def wrL (L : Nat → Blk) : List (Nat × Blk) → Nat → Blk
  | [] => L
  | (i, b) :: l => upd (wrL L l) i b
def putT (t : Nat → AV) : Option Nat → AV → Nat → AV
  | some d, v => upd t d v
  | none, _ => t
def apA (L : Nat → Blk) (e : Eff) (a : AV) : AV := scA e.scr (fzA L e.fz a)
def apL (L : Nat → Blk) (e : Eff) : Nat → Blk := wrL (scL e.scr (fzL e.fz L)) e.wr
def apT (L : Nat → Blk) (e : Eff) (t : Nat → AV) : Nat → AV := match e.fz, e.scr with | [], [] => t | _, _ => fun i => apA L e (t i)
def apG (L : Nat → Blk) (e : Eff) (g : List AV) : List AV := match e.fz, e.scr with | [], [] => g | _, _ => g.map (apA L e)
def St.ap (s : St) (d : Option Nat) (e : Eff) : St :=
  { s with t := putT (apT s.L e s.t) d e.v, L := apL s.L e, nx := s.nx + e.al, g := apG s.L e s.g }
theorem apT_eq (L : Nat → Blk) (e : Eff) (t : Nat → AV) (i : Nat) : apT L e t i = apA L e (t i) := by
  obtain ⟨v, wr, scr, fz, rd, al⟩ := e
  cases fz <;> cases scr <;> rfl
theorem apG_eq (L : Nat → Blk) (e : Eff) (g : List AV) : apG L e g = g.map (apA L e) := by
  obtain ⟨v, wr, scr, fz, rd, al⟩ := e
  cases fz <;> cases scr <;> first | rfl | exact (List.map_id _).symm
def St.ev (s : St) : Operand → AV
  | .tmp t => s.t t
  | .const v => ofConst v
  | .global _ => .any
  | .func f => .fn f []
end Go.Proofs.Ytcmciimogcfakaa

/- Contracts, and what an operation asks. -/
set_option linter.unusedVariables false
set_option linter.unusedSimpArgs false
namespace Go.Proofs.Ytcmciimogcfakaa
open Go Go.RowKit

/-- The blocks lie as they are said to lie, apart from each other and from what never changes. -/
structure Good (c : Cx) (L : Nat → Blk) : Prop where
  blk : ∀ i, (L i).alive = true → ∃ e, c.μ i = some e ∧ BlkRel c (L i) e
  dom : ∀ i e, c.μ i = some e → (L i).alive = true
  inj : ∀ i j e e', c.μ i = some e → c.μ j = some e' → e.nil = false → e'.nil = false → e.b = e'.b → i = j
  okd : ∀ b, c.ok b → b < c.w.heap.size ∧ ¬ c.own b
def lk (l : List Blk) : Nat → Blk := fun i => match l[i]? with | some b => b | none => .dead
/-- The function f, called with args over the blocks L0, hands back r over the blocks L1; blocks that it was given stay where they are. -/
def CE (P : Program) (f : FuncId) (args : List AV) (L0 : List Blk) (r : AV) (L1 : List Blk) : Prop :=
  (∀ as w, (callFunc f as).run P w = .ok (.enter f as) w) ∧
  ∀ (c : Cx) (vs : List Value), Good c (lk L0) → F2 (Rel c) args vs →
    CallsIn Fence.wide 0 P f vs.toArray c.w fun e w' => ∃ v d, d.w = w' ∧ e = .returned v ∧ Fr c d ∧ Good d (lk L1) ∧ Rel d r v ∧ ∀ i, i < L0.length → (lk L1 i).alive = true → d.μ i = c.μ i
/-- The function f, called with args, hands back r; it turns nothing. -/
def C (P : Program) (f : FuncId) (args : List AV) (r : AV) : Prop := CE P f args [] r []

/-- The function f, called with args, hands back a row of its own making. -/
def CR (P : Program) (f : FuncId) (args : List AV) (ty sz : Nat) (xs : List (List AV)) : Prop := CE P f args [] (.rowf 0) [.rows ty sz xs]

/-- How a call is met: its arguments' live blocks frozen (l), or lent (what comes back has no memory), or handed over (ids). -/
inductive Mode where
  | fz (l : List Nat) (r : AV)
  | bo (r : AV)
  | nw (l : List Nat) (ty sz : Nat) (xs : List (List AV))
  | ef (ids : List Nat) (r : AV) (L1 : List Blk)

def idx (ids : List Nat) (i : Nat) : Option Nat := ids.findIdx? (Nat.beq i)
def gRen (ids : List Nat) : AV → AV
  | .ptr i k j => match idx ids i with | some p => .ptr p k j | none => .any
  | .row i o m => match idx ids i with | some p => .row p o m | none => .any
  | .rowf i => match idx ids i with | some p => .rowf p | none => .any
  | .mp i => match idx ids i with | some p => .mp p | none => .any
  | .gst _ _ => .any
  | a => a
def back1 (ids : List Nat) (j p : Nat) : Nat := match ids[p]? with | some i => i | none => j + (p - ids.length)
def gBack (ids : List Nat) (j : Nat) : AV → AV
  | .ptr p k q => .ptr (back1 ids j p) k q
  | .row p o m => .row (back1 ids j p) o m
  | .rowf p => .rowf (back1 ids j p)
  | .mp p => .mp (back1 ids j p)
  | .gst _ _ => .any
  | a => a
def backs (ids : List Nat) (j : Nat) : Nat → List Blk → List (Nat × Blk)
  | _, [] => []
  | p, b :: l => (back1 ids j p, b.map' (trav (gBack ids j) 8)) :: backs ids j (p + 1) l
def deads (ids : List Nat) : Nat → List Blk → List Nat
  | _, [] => []
  | p, b :: l => match ids[p]? with | some i => (bif b.alive then deads ids (p + 1) l else i :: deads ids (p + 1) l) | none => []
def nodupB : List Nat → Bool
  | [] => true
  | i :: l => !memB l i && nodupB l
/-- The names in a value, as far as they are seen. -/
def refs : Nat → AV → List Nat
  | n + 1, .fn _ cs => cs.flatMap (refs n)
  | n + 1, .agg cs => cs.flatMap (refs n)
  | n + 1, .tup cs => cs.flatMap (refs n)
  | _, .ptr i _ _ => [i]
  | _, .row i _ _ => [i]
  | _, .rowf i => [i]
  | _, .mp i => [i]
  | _, _ => []
def callM (P : Program) (g : FuncId) (args : List AV) (L : Nat → Blk) (np j : Nat) (k : Eff → Prop) : Mode → Prop
  | .fz l r => l.all (fun i => (L i).alive) = true ∧ C P g (args.map (pur L (memB l) 8)) r ∧ frc r fun r => k { v := r, fz := l, rd := l }
  | .bo r => flat 8 r = true ∧ C P g (args.map (pur L (fun _ => true) 8)) r ∧ frc r fun r => k { v := r, rd := args.flatMap (refs 8) }
  | .nw l ty sz xs => (l.all (fun i => (L i).alive) = true ∧ (L j).alive = false) ∧ CR P g (args.map (pur L (memB l) 8)) ty sz xs ∧ k { v := .rowf j, wr := [(j, .rows ty sz xs)], fz := l, rd := j :: l, al := 1 }
  | .ef ids r L1 => (nodupB ids = true ∧ ids.all (fun i => (L i).alive) = true ∧ L1.all Blk.alive = true ∧ Nat.beq L1.length ids.length = true) ∧ CE P g (args.map (trav (gRen ids) 8)) (ids.map fun i => (L i).map' (trav (gRen ids) 8)) r L1 ∧
      frc (trav (gBack ids 0) 8 r) fun r => k { v := r, wr := backs ids 0 0 L1, rd := ids }

def mapGet (es : List (Int × AV)) (n : Int) : Option AV := (es.find? fun p => p.1 == n).map (·.2)
def mapSet (es : List (Int × AV)) (n : Int) (v : AV) : List (Int × AV) :=
  match es with
  | [] => [(n, v)]
  | p :: l => if p.1 = n then (n, v) :: l else p :: mapSet l n v
def mapDel (es : List (Int × AV)) (n : Int) : List (Int × AV) :=
  match es with
  | [] => []
  | p :: l => if p.1 = n then l else p :: mapDel l n
/-- Equal cell by cell: whole numbers. -/
def eqCs : List AV → List AV → Option Bool
  | [], [] => some true
  | .int k a :: l, .int k' b :: m => match decide (k = k'), eqCs l m with | true, some t => some (a == b && t) | _, _ => none
  | _, _ => none
def nrm : AV → AV
  | .nilsl => .sl []
  | a => a

section
variable (P : Program) (Γ : Nat → Option TI) (np : Nat)
/-- A value of a type out of cells. -/
def ldC (i : TI) (x : List AV) (k : AV → Prop) : Prop :=
  match i.k.isAgg with
  | true => frcL (x.take i.sz) fun y => match Nat.beq y.length i.sz with | true => k (.agg y) | false => False
  | false => match x with | [] => False | a :: _ => frc a k
def bldL (fs : List (Nat × Nat)) (ρ : Operand → AV) : List (Nat × Operand) → List AV → (List AV → Prop) → Prop
  | [], cs, k => k cs
  | (f, x) :: ps, cs, k => match fs[f]? with
    | some (off, sz) => frc (ρ x) fun v => match v.cells with
      | some ys => frcL ys fun ys => match Nat.beq ys.length sz && Nat.ble (off + sz) cs.length with
        | true => frcL (splice cs off ys) fun cs => bldL fs ρ ps cs k
        | false => False
      | none => False
    | none => False
/-- The elements of a slice literal. -/
def bldS (z : List AV) (ρ : Operand → AV) : List (Nat × Operand) → List (List AV) → (List (List AV) → Prop) → Prop
  | [], xs, k => k xs
  | (f, x) :: ps, xs, k => frc (ρ x) fun v => match v.cells with
      | some ys => frcL (ys.map nrm) fun ys => match Nat.beq ys.length z.length && ys.all AV.pureC && Nat.blt f xs.length with
        | true => bldS z ρ ps (xs.set f ys) k
        | false => False
      | none => False
def intOp (op : BinOp) (k : IntKind) (a b : Int) (K : AV → Prop) : Prop :=
  match op with
  | .add => K (.int k (k.wrap (a + b)))
  | .sub => K (.int k (k.wrap (a - b)))
  | .mul => K (.int k (k.wrap (a * b)))
  | .quo => b ≠ 0 ∧ K (.int k (k.wrap (a.tdiv b)))
  | .rem => b ≠ 0 ∧ K (.int k (a.tmod b))
  | .or => K (.int k (k.wrap (BitVec.ofInt k.bits a ||| BitVec.ofInt k.bits b).toNat))
  | .and => K (.int k (k.wrap (BitVec.ofInt k.bits a &&& BitVec.ofInt k.bits b).toNat))
  | .eql => K (.bool (a == b))
  | .neq => K (.bool (a != b))
  | .lss => K (.bool (decide (a < b)))
  | .leq => K (.bool (decide (a ≤ b)))
  | .gtr => K (.bool (decide (a > b)))
  | .geq => K (.bool (decide (a ≥ b)))
  | _ => False
def vcBin (op : BinOp) (t : Nat) (a b : AV) (K : AV → Prop) : Prop :=
  match a, b with
  | .int ka x, .int kb y => match op with
    | .shl => 0 ≤ y ∧ K (.int ka (ka.wrap (x * 2 ^ (min y.toNat ka.bits))))
    | .shr => 0 ≤ y ∧ K (.int ka (x.fdiv (2 ^ (min y.toNat ka.bits))))
    | op => match decide (ka = kb) with | true => intOp op ka x y K | false => False
  | .bool x, .bool y => match Γ t with
    | some i => match i.k with
      | .bool => match op with
        | .eql => K (.bool (x == y))
        | .neq => K (.bool (!(x == y)))
        | _ => False
      | _ => False
    | none => False
  | .agg xs, .agg ys => match Γ t with
    | some i => match i.eq && Nat.beq xs.length i.sz with
      | true => match eqCs xs ys with
        | some t => match op with
          | .eql => K (.bool t)
          | .neq => K (.bool (!t))
          | _ => False
        | none => False
      | false => False
    | none => False
  | .sl xs, .nilsl => match Γ t with
    | some i => match i.k with
      | .slice _ => match op with
        | .eql => ∀ b : Bool, (xs ≠ [] → b = false) → K (.bool b)
        | .neq => ∀ b : Bool, (xs ≠ [] → b = true) → K (.bool b)
        | _ => False
      | _ => False
    | none => False
  | _, _ => False
/-- A place among so many. -/
def at_ (n : Int) (l : Nat) (K : Nat → Prop) : Prop := ∃ m : Nat, n = (m : Int) ∧ m < l ∧ K m
def vcIdx (sz : Nat) (L : Nat → Blk) (x : AV) (n : Int) (k : Eff → Prop) : Prop :=
  match x with
  | .sl xs => ∃ (m : Nat) (y : List AV), n = (m : Int) ∧ xs[m]? = some y ∧ frcL y fun y => match Nat.beq y.length sz with | true => k { v := .vptr y } | false => False
  | .slc xs => ∃ (m : Nat) (y : List AV), n = (m : Int) ∧ xs[m]? = some y ∧ frcL y fun y => match Nat.beq y.length sz with | true => k { v := .vptr y } | false => False
  | .rowf b => match L b with
    | .rows _ s xs => match Nat.beq s sz with | true => at_ n xs.length fun m => k { v := .ptr b m 0, rd := [b] } | false => False
    | _ => False
  | .row b o len => match L b with
    | .rows _ s xs => match Nat.beq s sz with | true => at_ n len fun m => k { v := .ptr b (o + m) 0, rd := [b] } | false => False
    | _ => False
  | _ => False
/-- The elements of a slice, for append. -/
def elems (L : Nat → Blk) (x : AV) (K : List (List AV) → List Nat → Prop) : Prop :=
  match x with
  | .nilsl => K [] []
  | .sl xs => K xs []
  | .slc xs => K xs []
  | .rowf b => match L b with | .rows _ _ xs => K xs [b] | _ => False
  | _ => False
/-- lo and hi of a slice expression, within a length. -/
def cut (lo hi : Option AV) (l : Nat) (K : Nat → Nat → Prop) : Prop :=
  match lo, hi with
  | none, none => K 0 l
  | none, some (.int _ h) => ∃ b : Nat, h = (b : Int) ∧ b ≤ l ∧ K 0 b
  | some (.int _ a), none => ∃ m : Nat, a = (m : Int) ∧ m ≤ l ∧ K m l
  | some (.int _ a), some (.int _ h) => ∃ m b : Nat, a = (m : Int) ∧ h = (b : Int) ∧ m ≤ b ∧ b ≤ l ∧ K m b
  | _, _ => False
def roomy (n b : Nat) : Prop := 0 < b ∧ n * b ≤ 140737488355328
def vcE (o : Oper) (ρ : Operand → AV) (L : Nat → Blk) (j : Nat) (k : Eff → Prop) : Prop :=
  match o.op with
  | .move x => frc (ρ x) fun v => k { v := v }
  | .assign x => frc (ρ x) fun v => k { v := v }
  | .pick c a b => frc (ρ c) fun c => match c with
    | .bool t => splitB t fun t => match t with | true => frc (ρ a) fun v => k { v := v } | false => frc (ρ b) fun v => k { v := v }
    | _ => False
  | .alloc t => match Γ t with
    | some i => match (L j).alive with | false => k { v := .ptr j 0 0, wr := [(j, .box t i.z)], rd := [j], al := 1 } | true => False
    | none => False
  | .box t x => frc (ρ x) fun v => match v.cells with
    | some cs => frcL cs fun cs => match (L j).alive with | false => k { v := .ptr j 0 0, wr := [(j, .box t cs)], rd := [j], al := 1 } | true => False
    | none => False
  | .load t a => match Γ t with
    | some i => frc (ρ a) fun p => match p with
      | .vptr cs => ldC i cs fun v => k { v := v }
      | .ptr b kk q => match L b with
        | .box _ cs => match kk with | 0 => ldC i (cs.drop q) fun v => k { v := v, rd := [b] } | _ + 1 => False
        | .rows _ _ xs => ∃ x, xs[kk]? = some x ∧ ldC i (x.drop q) fun v => k { v := v, rd := [b] }
        | _ => False
      | _ => False
    | none => False
  | .store t a x => match Γ t with
    | some i => frc (ρ a) fun p => frc (ρ x) fun v => match v.cells with
      | some cs => frcL cs fun cs => match Nat.beq cs.length i.sz && cs.all oneC with
        | true => match p with
          | .ptr b kk q => match L b with
            | .box ty ys => match kk, Nat.ble (q + cs.length) ys.length with
              | 0, true => frcL (splice ys q cs) fun ys => k { v := .und, wr := [(b, .box ty ys)], rd := [b] }
              | _, _ => False
            | .rows ty sz xs => ∃ y, xs[kk]? = some y ∧ match (cs.map nrm).all AV.pureC && Nat.ble (q + cs.length) y.length with
              | true => frcL (splice y q (cs.map nrm)) fun y => k { v := .und, wr := [(b, .rows ty sz (xs.set kk y))], rd := [b] }
              | false => False
            | _ => False
          | _ => False
        | false => False
      | none => False
    | none => False
  | .nilCheck x => frc (ρ x) fun v => match v with
    | .ptr i kk q => k { v := .ptr i kk q }
    | .vptr cs => k { v := .vptr cs }
    | _ => False
  | .binOp op t x y _ => frc (ρ x) fun a => frc (ρ y) fun b => vcBin Γ op t a b fun v => k { v := v }
  | .unOp op _ x => frc (ρ x) fun v => match op, v with
    | .not, .bool b => k { v := .bool (!b) }
    | .neg, .int kk n => k { v := .int kk (kk.wrap (0 - n)) }
    | _, _ => False
  | .convert s d x => match Γ s, Γ d with
    | some _, some i => match i.k with
      | .int kk => frc (ρ x) fun v => match v with | .int _ n => k { v := .int kk (kk.wrap n) } | _ => False
      | _ => False
    | _, _ => False
  | .makeFunc (.func f) first caps => match first.toList with
    | [] => frcL (caps.toList.map ρ) fun cs => k { v := .fn f cs }
    | _ => False
  | .makeMap t none => match Γ t with
    | some i => match i.k with
      | .map kt _ => match Γ kt with
        | some q => match q.k with
          | .int kk => match (L j).alive with | false => k { v := .mp j, wr := [(j, .map kk [])], rd := [j], al := 1 } | true => False
          | _ => False
        | none => False
      | _ => False
    | none => False
  | .makeSlice t l c => match Γ t with
    | some i => match i.k with
      | .slice e => match Γ e with
        | some q => frc (ρ l) fun a => frc (ρ c) fun b => match a, b with
          | .int .i64 n, .int .i64 n' => n' = n ∧ ∃ m : Nat, n = (m : Int) ∧ roomy m q.by_ ∧ match (L j).alive, (q.z.map nrm).all AV.pureC, Nat.blt 0 q.sz with
            | false, true, true => k { v := .rowf j, wr := [(j, .rows e q.sz (List.replicate m (q.z.map nrm)))], rd := [j], al := 1 }
            | _, _, _ => False
          | _, _ => False
        | none => False
      | _ => False
    | none => False
  | .buildSlice t n ps => match Γ t with
    | some i => match i.k with
      | .slice e => match Γ e with
        | some q => bldS q.z ρ ps.toList (List.replicate n (q.z.map nrm)) fun xs => match (L j).alive, (q.z.map nrm).all AV.pureC, Nat.blt 0 q.sz, Nat.ble (n * q.sz) 16777216 with
          | false, true, true, true => k { v := .rowf j, wr := [(j, .rows e q.sz xs)], rd := [j], al := 1 }
          | _, _, _, _ => False
        | none => False
      | _ => False
    | none => False
  | .build t ps => match Γ t with
    | some i => match i.k with
      | .struct fs => bldL fs ρ ps.toList i.z fun cs => k { v := .agg cs }
      | .arr _ e => match Γ e with
        | some q => bldL ((List.range i.sz).map fun f => (f * q.sz, q.sz)) ρ ps.toList i.z fun cs => k { v := .agg cs }
        | none => False
      | _ => False
    | none => False
  | .fieldAddr t x f => match Γ t with
    | some i => match i.k with
      | .struct fs => match fs[f]? with
        | some (off, _) => frc (ρ x) fun p => match p with
          | .vptr cs => frcL (cs.drop off) fun cs => k { v := .vptr cs }
          | .ptr b kk q => k { v := .ptr b kk (q + off) }
          | _ => False
        | none => False
      | _ => False
    | none => False
  | .indexAddr t x ix => match Γ t with
    | some i => match i.k with
      | .slice e => match Γ e with
        | some q => frc (ρ x) fun a => frc (ρ ix) fun n => match n with | .int _ n => vcIdx q.sz L a n k | _ => False
        | none => False
      | _ => False
    | none => False
  | .index t x ix => match Γ t with
    | some i => match i.k with
      | .arr len e => match Γ e with
        | some q => frc (ρ x) fun a => frc (ρ ix) fun n => match a, n with
          | .agg cs, .int _ n => match Nat.beq q.sz 1 && !q.k.isAgg with
            | true => ∃ (m : Nat) (v : AV), n = (m : Int) ∧ cs[m]? = some v ∧ m < len ∧ frc v fun v => k { v := v }
            | false => False
          | _, _ => False
        | none => False
      | _ => False
    | none => False
  | .slice t x lo hi mx => match Γ t with
    | some i => match i.k with
      | .slice e => match Γ e with
        | some q => frc (ρ x) fun a => match a with
          | .sl xs => (∀ x ∈ xs, x.length = q.sz) ∧ cut (lo.map ρ) (hi.map ρ) xs.length fun a b => match mx with
            | none => k { v := .sl ((xs.take b).drop a) }
            | some m => match hi.map ρ, ρ m with
              | some (.int _ h), .int _ n => n = h ∧ k { v := .slc ((xs.take b).drop a) }
              | _, _ => False
          | .rowf b => match L b, mx with
            | .rows _ s xs, none => match Nat.beq s q.sz with
              | true => cut (lo.map ρ) (hi.map ρ) xs.length fun m h => k { v := .row b m (h - m), rd := [b] }
              | false => False
            | _, _ => False
          | _ => False
        | none => False
      | _ => False
    | none => False
  | .lookup t m x ok => match Γ t with
    | some i => match i.k with
      | .map kt e => match Γ kt with
        | some qk => match qk.k with
          | .int kq => match Γ e with
            | some q => frc (ρ m) fun m => frc (ρ x) fun x => match m, x with
              | .mp b, .int kx n => match L b with
                | .map kk es => match decide (kk = kx) && decide (kq = kx) with
                  | true => ∃ r, mapGet es n = r ∧ match r, ok with
                    | some v, true => frc v fun v => k { v := .tup [v, .bool true], rd := [b] }
                    | none, true => match q.z, q.k.isAgg with | [z], false => k { v := .tup [z, .bool false], rd := [b] } | _, _ => False
                    | some v, false => frc v fun v => k { v := v, rd := [b] }
                    | none, false => match q.z, q.k.isAgg with | [z], false => k { v := z, rd := [b] } | _, _ => False
                  | false => False
                | _ => False
              | _, _ => False
            | none => False
          | _ => False
        | none => False
      | _ => False
    | none => False
  | .mapUpdate t m x y => match Γ t with
    | some i => match i.k with
      | .map kt _ => match Γ kt with
        | some qk => match qk.k with
          | .int kq => frc (ρ m) fun m => frc (ρ x) fun x => frc (ρ y) fun v => match m, x with
            | .mp b, .int kx n => match L b with
              | .map kk es => match decide (kk = kx) && decide (kq = kx) && v.pureC with
                | true => k { v := .und, wr := [(b, .map kk (mapSet es n v))], rd := [b] }
                | false => False
              | _ => False
            | _, _ => False
          | _ => False
        | none => False
      | _ => False
    | none => False
  | .extract x n => frc (ρ x) fun v => match v with
    | .tup vs => match vs[n]? with | some v => frc v fun v => k { v := v } | none => False
    | _ => False
  | .call c => match c.callee with
    | .value f => frc (ρ f) fun f => match f with
      | .fn g caps => frcL ((c.args.toList.map ρ) ++ caps) fun as => ∃ m : Mode, callM P g as L np j k m
      | _ => False
    | .builtin .len => match c.args.toList with
      | [x] => match c.argTypes.toList with
        | [t] => match Γ t with
          | some i => match i.k with
            | .slice _ => frc (ρ x) fun v => match v with
              | .sl xs => k { v := .int .i64 xs.length }
              | .slc xs => k { v := .int .i64 xs.length }
              | .nilsl => k { v := .int .i64 0 }
              | .row b o n => k { v := .int .i64 n }
              | .rowf b => match L b with | .rows _ _ xs => k { v := .int .i64 xs.length, rd := [b] } | _ => False
              | _ => False
            | .map _ _ => frc (ρ x) fun v => match v with
              | .mp b => match L b with | .map _ es => k { v := .int .i64 es.length, rd := [b] } | _ => False
              | _ => False
            | _ => False
          | none => False
        | _ => False
      | _ => False
    | .builtin .append => match c.args.toList, c.argTypes.toList with
      | [s, x], [t, t'] => match Γ t, decide (t = t') with
        | some i, true => match i.k with
          | .slice e => match Γ e with
            | some q => frc (ρ s) fun s => frc (ρ x) fun x => elems L x fun ys rd => match s with
              | .rowf b => match L b with
                | .rows ty sz xs => match Nat.ble np b && Nat.beq ty e && !(memB rd b) && Nat.beq sz q.sz with
                  | true => (∀ y ∈ ys, y.length = sz ∧ y.all oneC = true) ∧ roomy (xs.length + ys.length) q.by_ ∧ k { v := .rowf b, wr := [(b, .rows ty sz (xs ++ ys))], scr := [b], rd := b :: rd }
                  | false => False
                | _ => False
              | .nilsl => match ys with
                | y :: ys => match (L j).alive, Nat.blt 0 q.sz with
                  | false, true => (∀ z ∈ y :: ys, z.length = q.sz ∧ z.all oneC = true) ∧ roomy (ys.length + 1) q.by_ ∧ k { v := .rowf j, wr := [(j, .rows e q.sz (y :: ys))], rd := j :: rd, al := 1 }
                  | _, _ => False
                | [] => False
              | .slc xs => match ys with
                | y :: ys => match (L j).alive, Nat.blt 0 q.sz with
                  | false, true => (∀ z ∈ xs ++ y :: ys, z.length = q.sz ∧ z.all oneC = true) ∧ roomy (xs.length + (ys.length + 1)) q.by_ ∧ k { v := .rowf j, wr := [(j, .rows e q.sz (xs ++ y :: ys))], rd := j :: rd, al := 1 }
                  | _, _ => False
                | [] => False
              | _ => False
            | none => False
          | _ => False
        | _, _ => False
      | _, _ => False
    | .builtin .min => match c.args.toList with
      | [x, y] => frc (ρ x) fun x => frc (ρ y) fun y => match x, y with | .int kk a, .int _ b => k { v := .int kk (if b < a then b else a) } | _, _ => False
      | _ => False
    | .builtin .max => match c.args.toList with
      | [x, y] => frc (ρ x) fun x => frc (ρ y) fun y => match x, y with | .int kk a, .int _ b => k { v := .int kk (if b > a then b else a) } | _, _ => False
      | _ => False
    | .builtin .delete => match c.args.toList, c.argTypes.toList with
      | [m, x], t :: _ => match Γ t with
        | some i => match i.k with
          | .map kt _ => match Γ kt with
            | some qk => match qk.k with
              | .int kq => frc (ρ m) fun m => frc (ρ x) fun x => match m, x with
                | .mp b, .int kx n => match L b with
                  | .map kk es => match decide (kk = kx) && decide (kq = kx) with
                    | true => k { v := .any, wr := [(b, .map kk (mapDel es n))], rd := [b] }
                    | false => False
                  | _ => False
                | _, _ => False
              | _ => False
            | none => False
          | _ => False
        | none => False
      | _, _ => False
    | .builtin .clear => match c.args.toList, c.argTypes.toList with
      | [x], t :: _ => match Γ t with
        | some i => match i.k with
          | .slice e => match Γ e with
            | some q => frc (ρ x) fun v => match v with
              | .row b o n => match L b with
                | .rows ty sz xs => match Nat.beq sz q.sz && (q.z.map nrm).all AV.pureC with
                  | true => k { v := .any, wr := [(b, .rows ty sz (splice xs o (List.replicate n (q.z.map nrm))))], rd := [b] }
                  | false => False
                | _ => False
              | _ => False
            | none => False
          | _ => False
        | none => False
      | _, _ => False
    | _ => False
  | _ => False
end
end Go.Proofs.Ytcmciimogcfakaa

/- How the relations go on through a step. -/
set_option linter.unusedVariables false
set_option linter.unusedSimpArgs false
namespace Go.Proofs.Ytcmciimogcfakaa
open Go Go.RowKit

theorem get_map {α β : Type} {l : List α} {f : α → β} {i : Nat} {b : β} (h : (l.map f)[i]? = some b) : ∃ a, l[i]? = some a ∧ b = f a := by
  rw [List.getElem?_map] at h
  obtain ⟨a, ha, hb⟩ := Option.map_eq_some_iff.1 h
  exact ⟨a, ha, hb.symm⟩

theorem R0.trav {w : World} {ok : Nat → Prop} (g : AV → AV) {a : AV} {v : Value} (h : R0 w ok a v) : ∀ n, R0 w ok (trav g n a) v := by
  induction h with
  | int k n => intro m; cases m <;> exact .int k n
  | bool b => intro m; cases m <;> exact .bool b
  | fn f hl _ ih =>
    intro m
    cases m with
    | zero => exact .any _
    | succ m => exact .fn f (by simpa using hl) fun i a v ha hv => by obtain ⟨x, hx, rfl⟩ := get_map ha; exact ih i x v hx hv m
  | vptr b off us hb h1 h2 _ => intro m; cases m <;> exact .vptr b off us hb h1 h2
  | sle A c => intro m; cases m <;> exact .sle A c
  | sl b off sz c us hb hcp hz h1 h2 _ => intro m; cases m <;> exact .sl b off sz c us hb hcp hz h1 h2
  | slce A => intro m; cases m <;> exact .slce A
  | slc b off sz us hb hz h1 h2 _ => intro m; cases m <;> exact .slc b off sz us hb hz h1 h2
  | nilsl => intro m; cases m <;> exact .nilsl
  | agg hl _ ih =>
    intro m
    cases m with
    | zero => exact .any _
    | succ m => exact .agg (by simpa using hl) fun i a v ha hv => by obtain ⟨x, hx, rfl⟩ := get_map ha; exact ih i x v hx hv m
  | tup hl _ ih =>
    intro m
    cases m with
    | zero => exact .any _
    | succ m => exact .tup (by simpa using hl) fun i a v ha hv => by obtain ⟨x, hx, rfl⟩ := get_map ha; exact ih i x v hx hv m
  | und => intro m; cases m <;> exact .und
  | any v => intro m; cases m <;> exact .any v

def AV.isRef : AV → Bool
  | .ptr _ _ _ => true
  | .row _ _ _ => true
  | .rowf _ => true
  | .mp _ => true
  | .gst _ _ => true
  | _ => false
theorem trav_ref (g : AV → AV) (n : Nat) {a : AV} (h : a.isRef = true) : trav g n a = g a := by
  cases a <;> simp [AV.isRef] at h <;> cases n <;> rfl

theorem Rel.trav {c d : Cx} {g : AV → AV} (hp : ∀ a v, R0 c.w c.ok a v → R0 d.w d.ok a v) (hy : d.yl = c.yl) (hg : ∀ a v, a.isRef = true → Rel c a v → Rel d (g a) v) {a : AV} {v : Value} (h : Rel c a v) : ∀ n, Rel d (trav g n a) v := by
  induction h with
  | pure h => exact fun n => .pure ((hp _ _ h).trav g n)
  | fn f hl _ ih =>
    intro m
    cases m with
    | zero => exact .pure (.any _)
    | succ m => exact .fn f (by simpa using hl) fun i a v ha hv => by obtain ⟨x, hx, rfl⟩ := get_map ha; exact ih i x v hx hv m
  | agg hl _ ih =>
    intro m
    cases m with
    | zero => exact .pure (.any _)
    | succ m => exact .agg (by simpa using hl) fun i a v ha hv => by obtain ⟨x, hx, rfl⟩ := get_map ha; exact ih i x v hx hv m
  | tup hl _ ih =>
    intro m
    cases m with
    | zero => exact .pure (.any _)
    | succ m => exact .tup (by simpa using hl) fun i a v ha hv => by obtain ⟨x, hx, rfl⟩ := get_map ha; exact ih i x v hx hv m
  | yld l h => intro m; cases m <;> exact .yld l (hy.trans h)
  | ptr h hn => intro m; rw [trav_ref _ _ rfl]; exact hg _ _ rfl (.ptr h hn)
  | row cc o h hn ho hc hl => intro m; rw [trav_ref _ _ rfl]; exact hg _ _ rfl (.row cc o h hn ho hc hl)
  | rown h hn => intro m; rw [trav_ref _ _ rfl]; exact hg _ _ rfl (.rown h hn)
  | rowf h => intro m; rw [trav_ref _ _ rfl]; exact hg _ _ rfl (.rowf h)
  | mp h hn => intro m; rw [trav_ref _ _ rfl]; exact hg _ _ rfl (.mp h hn)
  | gst h v => intro m; rw [trav_ref _ _ rfl]; exact hg _ _ rfl (.gst h v)

theorem Rel.mono {c d : Cx} (hp : ∀ a v, R0 c.w c.ok a v → R0 d.w d.ok a v) (hy : d.yl = c.yl) (hμ : ∀ i e, c.μ i = some e → d.μ i = some e) {a : AV} {v : Value} (h : Rel c a v) : Rel d a v := by
  induction h with
  | pure h => exact .pure (hp _ _ h)
  | fn f hl _ ih => exact .fn f hl ih
  | agg hl _ ih => exact .agg hl ih
  | tup hl _ ih => exact .tup hl ih
  | yld l h => exact .yld l (hy.trans h)
  | ptr h hn => exact .ptr (hμ _ _ h) hn
  | row cc o h hn ho hc hl => exact .row cc o (hμ _ _ h) hn ho hc hl
  | rown h hn => exact .rown (hμ _ _ h) hn
  | rowf h => exact .rowf (hμ _ _ h)
  | mp h hn => exact .mp (hμ _ _ h) hn
  | gst h v => exact .gst (hμ _ _ h) v

theorem Fr.r0 {c d : Cx} (h : Fr c d) (hg : ∀ b, c.ok b → b < c.w.heap.size ∧ ¬ c.own b) {a : AV} {v : Value} (hr : R0 c.w c.ok a v) : R0 d.w d.ok a v :=
  hr.mono h.mono fun b hb => h.same b (hg b hb).1 (hg b hb).2

theorem ownsRow_keep {w w' : World} {base : Nat} {e : TypeId} {size : Nat} {v : Value} {n : Nat} {xs : List Value} (h : w.ownsRow base e size v n xs)
    (hw : ∀ g m cap, v = .slice (some ⟨g, 0, none⟩) m cap → w'.heap[g]? = w.heap[g]?) : w'.ownsRow base e size v n xs := by
  refine ⟨h.1, ?_⟩
  rcases h.2 with h | ⟨g, cap, cur, rfl, hb, hh, h1⟩
  · exact .inl h
  · exact .inr ⟨g, cap, cur, rfl, hb, by rw [hw _ _ _ rfl]; exact hh, h1⟩

theorem Ent.val_nil {e : Ent} (h : e.nil = true) : e.val = .slice none 0 0 := by simp [Ent.val, h]
theorem Ent.val_at {e : Ent} (h : e.nil = false) : e.val = .slice (some ⟨e.b, 0, none⟩) e.n e.cap := by simp [Ent.val, h]
theorem Ent.val_block {e : Ent} {g m cap : Nat} (h : e.val = .slice (some ⟨g, 0, none⟩) m cap) : e.nil = false ∧ g = e.b ∧ m = e.n ∧ cap = e.cap := by
  cases hn : e.nil
  · rw [Ent.val_at hn] at h
    simp at h
    exact ⟨rfl, h.1.symm, h.2.1.symm, h.2.2.symm⟩
  · rw [Ent.val_nil hn] at h
    simp at h

theorem BlkRel.keep {c d : Cx} {B : Blk} {e : Ent} (h : BlkRel c B e) (hrel : ∀ a v, Rel c a v → Rel d a v) (hr0 : ∀ a v, R0 c.w c.ok a v → R0 d.w d.ok a v)
    (hh : e.nil = false → d.w.heap[e.b]? = c.w.heap[e.b]?) : BlkRel d B e := by
  cases h with
  | box vs hn h1 h2 => exact .box vs hn (by rw [hh hn]; exact h1) (h2.imp fun a b _ => hrel a b)
  | rows vs h1 h2 hs hn hz h0 h3 =>
    refine .rows vs (ownsRow_keep h1 fun g m cap hv => ?_) (h2.imp fun a b _ => hr0 a b) hs hn hz h0 h3
    obtain ⟨hn', rfl, _, _⟩ := Ent.val_block hv
    exact hh hn'
  | map hn ms clock h1 h2 => exact .map hn ms clock (by rw [hh hn]; exact h1) (h2.imp fun a b _ hab => ⟨hab.1, hr0 _ _ hab.2⟩)
/-- The same, names having been turned. -/
theorem BlkRel.turn {c d : Cx} {B : Blk} {e : Ent} (f : AV → AV) (h : BlkRel c B e) (hrel : ∀ a v, Rel c a v → Rel d (f a) v) (hr0 : ∀ a v, R0 c.w c.ok a v → R0 d.w d.ok a v)
    (hh : e.nil = false → d.w.heap[e.b]? = c.w.heap[e.b]?) : BlkRel d (B.map' f) e := by
  cases h with
  | box vs hn h1 h2 => exact .box vs hn (by rw [hh hn]; exact h1) (h2.map f fun a b _ => hrel a b)
  | rows vs h1 h2 hs hn hz h0 h3 =>
    refine .rows vs (ownsRow_keep h1 fun g m cap hv => ?_) (h2.imp fun a b _ => hr0 a b) hs hn hz h0 h3
    obtain ⟨hn', rfl, _, _⟩ := Ent.val_block hv
    exact hh hn'
  | map hn ms clock h1 h2 => exact .map hn ms clock (by rw [hh hn]; exact h1) (h2.imp fun a b _ hab => ⟨hab.1, hr0 _ _ hab.2⟩)
theorem alive_map' (f : AV → AV) (B : Blk) : (B.map' f).alive = B.alive := by cases B <;> rfl
theorem BlkRel.lt {c : Cx} {B : Blk} {e : Ent} (h : BlkRel c B e) (hn : e.nil = false) : e.b < c.w.heap.size := by
  cases h with
  | box vs _ h1 _ => exact (Array.getElem?_eq_some_iff.1 h1).1
  | rows vs h1 _ _ _ _ _ _ =>
    rcases h1.2 with ⟨hv, _⟩ | ⟨g, cap, cur, hv, _, hh, _⟩
    · rw [Ent.val_at hn] at hv
      simp at hv
    · rw [Ent.val_at hn] at hv
      simp at hv
      rw [hv.1]
      exact (Array.getElem?_eq_some_iff.1 hh).1
  | map _ ms clock h1 _ => exact (Array.getElem?_eq_some_iff.1 h1).1
theorem Good.lt {c : Cx} {L : Nat → Blk} (h : Good c L) {b : Nat} (hb : c.own b) : b < c.w.heap.size := by
  obtain ⟨i, e, hi, hn, rfl⟩ := hb
  obtain ⟨e', he', hr⟩ := h.blk i (h.dom i e hi)
  rw [hi] at he'
  cases he'
  exact hr.lt hn

/-- A step, as what an operation does is told. -/
structure Stp (c : Cx) (L : Nat → Blk) (np : Nat) (e : Eff) (v : Value) (d : Cx) : Prop where
  fr : Fr c d
  good : Good d (apL L e)
  tr : ∀ a u, Rel c a u → Rel d (apA L e a) u
  val : Rel d e.v v
  pin : ∀ i, i < np → (apL L e i).alive = true → d.μ i = c.μ i

theorem Stp.pure {c : Cx} {L : Nat → Blk} {np : Nat} {a : AV} {v : Value} {rd : List Nat} (hg : Good c L) (h : Rel c a v) : Stp c L np { v := a, rd := rd } v c :=
  ⟨Fr.refl c, hg, fun _ _ h => h, h, fun _ _ _ => rfl⟩

/-- A block that is told anew. -/
theorem Good.write {c d : Cx} {L : Nat → Blk} (hg : Good c L) {i : Nat} {e e' : Ent} {B : Blk} (hi : c.μ i = some e) (hn : e.nil = false) (hB : B.alive = true)
    (hμ : d.μ = upd c.μ i (some e')) (hb : e'.b = e.b) (hn' : e'.nil = false) (hok : d.ok = c.ok) (hsz : c.w.heap.size ≤ d.w.heap.size) (hh : ∀ b, b ≠ e.b → d.w.heap[b]? = c.w.heap[b]?) (hrel : ∀ a v, Rel c a v → Rel d a v) (hr0 : ∀ a v, R0 c.w c.ok a v → R0 d.w d.ok a v)
    (hnew : BlkRel d B e') : Good d (upd L i B) := by
  have hown : ∀ b, d.own b ↔ c.own b := fun b => by
    constructor
    · rintro ⟨k, x, hk, hx, rfl⟩
      rw [hμ] at hk
      by_cases hki : k = i
      · subst hki
        rw [upd_same] at hk
        cases hk
        exact ⟨k, e, hi, hn, hb.symm⟩
      · rw [upd_ne _ _ hki] at hk
        exact ⟨k, x, hk, hx, rfl⟩
    · rintro ⟨k, x, hk, hx, rfl⟩
      by_cases hki : k = i
      · subst hki
        rw [hi] at hk
        cases hk
        exact ⟨k, e', by rw [hμ, upd_same], hn', hb⟩
      · exact ⟨k, x, by rw [hμ, upd_ne _ _ hki]; exact hk, hx, rfl⟩
  refine ⟨fun k hk => ?_, fun k x hk => ?_, fun k l x y hk hl hx hy hxy => ?_, fun b hb' => ?_⟩
  · by_cases hki : k = i
    · subst hki
      rw [upd_same]
      exact ⟨e', by rw [hμ, upd_same], hnew⟩
    · rw [upd_ne _ _ hki] at hk ⊢
      obtain ⟨x, hx, hr⟩ := hg.blk k hk
      refine ⟨x, by rw [hμ, upd_ne _ _ hki]; exact hx, hr.keep hrel hr0 fun hxn => hh _ fun he => hki (hg.inj _ _ _ _ hx hi hxn hn he)⟩
  · by_cases hki : k = i
    · subst hki
      rw [upd_same]
      exact hB
    · rw [upd_ne _ _ hki]
      rw [hμ, upd_ne _ _ hki] at hk
      exact hg.dom k x hk
  · have key : ∀ k x, d.μ k = some x → x.nil = false → ∃ x', c.μ k = some x' ∧ x'.nil = false ∧ x'.b = x.b := fun k x hk hx => by
      rw [hμ] at hk
      by_cases hki : k = i
      · subst hki
        rw [upd_same] at hk
        cases hk
        exact ⟨e, hi, hn, hb.symm⟩
      · rw [upd_ne _ _ hki] at hk
        exact ⟨x, hk, hx, rfl⟩
    obtain ⟨x', h1, h2, h3⟩ := key k x hk hx
    obtain ⟨y', h4, h5, h6⟩ := key l y hl hy
    exact hg.inj k l x' y' h1 h4 h2 h5 (by rw [h3, h6]; exact hxy)
  · rw [hok] at hb'
    have := hg.okd b hb'
    exact ⟨Nat.lt_of_lt_of_le this.1 hsz, fun ho => this.2 ((hown b).1 ho)⟩
/-- A block more. -/
theorem Good.alloc {c : Cx} {L : Nat → Blk} (hg : Good c L) (o : Obj) {i : Nat} {e : Ent} {B : Blk} (hi : (L i).alive = false) (hB : B.alive = true) (he : e.b = c.w.heap.size) (hn : e.nil = false)
    (hnew : BlkRel ⟨c.w.alloc o, c.ok, upd c.μ i (some e), c.yl⟩ B e) : Good ⟨c.w.alloc o, c.ok, upd c.μ i (some e), c.yl⟩ (upd L i B) ∧ Fr c ⟨c.w.alloc o, c.ok, upd c.μ i (some e), c.yl⟩ ∧
      ∀ a v, Rel c a v → Rel ⟨c.w.alloc o, c.ok, upd c.μ i (some e), c.yl⟩ a v := by
  have hi' : c.μ i = none := by
    cases h : c.μ i with
    | none => rfl
    | some x => have := hg.dom i x h; rw [hi] at this; cases this
  have hold : ∀ b, b < c.w.heap.size → (c.w.alloc o).heap[b]? = c.w.heap[b]? := fun b hb => Below.heap_alloc _ _ _ hb
  have hr0 : ∀ a v, R0 c.w c.ok a v → R0 (c.w.alloc o) c.ok a v := fun a v h => h.mono (fun _ h => h) fun b hb => hold b (hg.okd b hb).1
  have hμ : ∀ k x, c.μ k = some x → upd c.μ i (some e) k = some x := fun k x hk => by
    rw [upd_ne _ _ (fun hki => by subst hki; rw [hi'] at hk; cases hk)]
    exact hk
  have hrel : ∀ a v, Rel c a v → Rel ⟨c.w.alloc o, c.ok, upd c.μ i (some e), c.yl⟩ a v := fun a v h => Rel.mono (d := ⟨c.w.alloc o, c.ok, upd c.μ i (some e), c.yl⟩) hr0 rfl hμ h
  have hcase : ∀ k x, upd c.μ i (some e) k = some x → (k = i ∧ x = e) ∨ (k ≠ i ∧ c.μ k = some x) := fun k x hk => by
    by_cases hki : k = i
    · subst hki
      rw [upd_same] at hk
      cases hk
      exact .inl ⟨rfl, rfl⟩
    · rw [upd_ne _ _ hki] at hk
      exact .inr ⟨hki, hk⟩
  refine ⟨⟨fun k hk => ?_, fun k x hk => ?_, fun k l x y hk hl hx hy hxy => ?_, fun b hb => ?_⟩, ⟨rfl, rfl, rfl, by simp, fun b hb _ => hold b hb, ?_, fun _ h => .inl h, fun _ h => h, rfl, Nat.le_refl _⟩, hrel⟩
  · by_cases hki : k = i
    · subst hki
      rw [upd_same]
      exact ⟨e, upd_same _ _ _, hnew⟩
    · rw [upd_ne _ _ hki] at hk ⊢
      obtain ⟨x, hx, hr⟩ := hg.blk k hk
      exact ⟨x, hμ _ _ hx, hr.keep hrel hr0 fun hxn => hold _ (hr.lt hxn)⟩
  · rcases hcase k x hk with ⟨rfl, rfl⟩ | ⟨hki, hk⟩
    · rw [upd_same]
      exact hB
    · rw [upd_ne _ _ hki]
      exact hg.dom k x hk
  · rcases hcase k x hk with ⟨rfl, rfl⟩ | ⟨hki, hk'⟩ <;> rcases hcase l y hl with ⟨rfl, rfl⟩ | ⟨hli, hl'⟩
    · rfl
    · exact absurd (hg.lt ⟨l, y, hl', hy, rfl⟩) (by rw [← hxy, he]; omega)
    · exact absurd (hg.lt ⟨k, x, hk', hx, rfl⟩) (by rw [hxy, he]; omega)
    · exact hg.inj k l x y hk' hl' hx hy hxy
  · have := hg.okd b hb
    refine ⟨by simp; omega, ?_⟩
    rintro ⟨k, x, hk, hx, rfl⟩
    rcases hcase k x hk with ⟨rfl, rfl⟩ | ⟨hki, hk⟩
    · omega
    · exact this.2 ⟨k, x, hk, hx, rfl⟩
  · rintro b ⟨k, x, hk, hx, rfl⟩
    rcases hcase k x hk with ⟨rfl, rfl⟩ | ⟨hki, hk⟩
    · exact .inr (by rw [he]; exact Nat.le_refl _)
    · exact .inl ⟨k, x, hk, hx, rfl⟩
end Go.Proofs.Ytcmciimogcfakaa

/- Blocks that are frozen, and names that are let go of. -/
set_option linter.unusedVariables false
set_option linter.unusedSimpArgs false
namespace Go.Proofs.Ytcmciimogcfakaa
open Go Go.RowKit

theorem flatten_len {α : Type} {sz : Nat} {xs : List (List α)} (h : ∀ x ∈ xs, x.length = sz) : xs.flatten.length = xs.length * sz := by
  induction xs with
  | nil => simp
  | cons x xs ih => simp [ih fun y hy => h y (by simp [hy]), h x (by simp), Nat.succ_mul, Nat.add_comm]
theorem flatten_drop {α : Type} {sz : Nat} : ∀ (o : Nat) {xs : List (List α)} (_ : ∀ x ∈ xs, x.length = sz), (xs.drop o).flatten = xs.flatten.drop (o * sz)
  | 0, xs, _ => by simp
  | o + 1, [], _ => by simp
  | o + 1, x :: xs, h => by
    have hx := h x (by simp)
    have e1 : x.drop (o * sz + sz) = [] := List.drop_of_length_le (by omega)
    have e2 : o * sz + sz - x.length = o * sz := by omega
    rw [List.drop_succ_cons, flatten_drop o fun y hy => h y (by simp [hy]), List.flatten_cons, List.drop_append, Nat.succ_mul, e1, e2]
    simp
theorem flatten_take {α : Type} {sz : Nat} : ∀ (m : Nat) {xs : List (List α)} (_ : ∀ x ∈ xs, x.length = sz), (xs.take m).flatten = xs.flatten.take (m * sz)
  | 0, xs, _ => by simp
  | m + 1, [], _ => by simp
  | m + 1, x :: xs, h => by
    have hx := h x (by simp)
    have e1 : x.take (m * sz + sz) = x := List.take_of_length_le (by omega)
    have e2 : m * sz + sz - x.length = m * sz := by omega
    rw [List.take_succ_cons, List.flatten_cons, flatten_take m fun y hy => h y (by simp [hy]), List.flatten_cons, List.take_append, Nat.succ_mul, e1, e2]
theorem flatten_get {α : Type} {sz : Nat} {xs : List (List α)} (h : ∀ x ∈ xs, x.length = sz) {k : Nat} {x : List α} (hk : xs[k]? = some x) {j : Nat} (hj : j < sz) : xs.flatten[k * sz + j]? = x[j]? := by
  have hx : x ∈ xs := List.mem_of_getElem? hk
  have h1 : (xs.drop k).flatten = x ++ (xs.drop (k + 1)).flatten := by
    obtain ⟨hlt, rfl⟩ := List.getElem?_eq_some_iff.1 hk
    rw [List.drop_eq_getElem_cons hlt, List.flatten_cons]
  rw [flatten_drop k h] at h1
  rw [← List.getElem?_drop, h1, List.getElem?_append_left (by rw [h x hx]; exact hj)]

theorem cell_of {w : World} {b : Nat} {cur : Array Value} {ty : TypeId} {fr : Nat × Nat} (h : w.heap[b]? = some (.cells cur ty fr)) (j : Nat) : w.cell? ⟨b, j, none⟩ = cur[j]? := by
  simp [World.cell?, h]

theorem R0.pur {w : World} {ok : Nat → Prop} (L : Nat → Blk) (l : Nat → Bool) {a : AV} {v : Value} (h : R0 w ok a v) : ∀ n, R0 w ok (pur L l n a) v := by
  induction h with
  | int k n => intro m; cases m <;> exact .int k n
  | bool b => intro m; cases m <;> exact .bool b
  | fn f hl _ ih =>
    intro m
    cases m with
    | zero => exact .any _
    | succ m => exact .fn f (by simpa using hl) fun i a v ha hv => by obtain ⟨x, hx, rfl⟩ := get_map ha; exact ih i x v hx hv m
  | vptr b off us hb h1 h2 _ => intro m; cases m <;> exact .vptr b off us hb h1 h2
  | sle A c => intro m; cases m <;> exact .sle A c
  | sl b off sz c us hb hcp hz h1 h2 _ => intro m; cases m <;> exact .sl b off sz c us hb hcp hz h1 h2
  | slce A => intro m; cases m <;> exact .slce A
  | slc b off sz us hb hz h1 h2 _ => intro m; cases m <;> exact .slc b off sz us hb hz h1 h2
  | nilsl => intro m; cases m <;> exact .sle none 0
  | agg hl _ ih =>
    intro m
    cases m with
    | zero => exact .any _
    | succ m => exact .agg (by simpa using hl) fun i a v ha hv => by obtain ⟨x, hx, rfl⟩ := get_map ha; exact ih i x v hx hv m
  | tup hl _ ih =>
    intro m
    cases m with
    | zero => exact .any _
    | succ m => exact .tup (by simpa using hl) fun i a v ha hv => by obtain ⟨x, hx, rfl⟩ := get_map ha; exact ih i x v hx hv m
  | und => intro m; cases m <;> exact .und
  | any v => intro m; cases m <;> exact .any v

/-- What never changes any more, when the blocks of l are frozen. -/
def okF (c : Cx) (l : Nat → Bool) (b : Nat) : Prop := c.ok b ∨ ∃ i e, l i = true ∧ c.μ i = some e ∧ e.nil = false ∧ e.b = b

theorem rows_at {c : Cx} {ty sz : Nat} {xs : List (List AV)} {e : Ent} (h : BlkRel c (.rows ty sz xs) e) (hn : e.nil = false) :
    ∃ cur vs, c.w.heap[e.b]? = some (.cells cur ty (0, 0)) ∧ F2 (R0 c.w c.ok) xs.flatten vs ∧ e.sz = sz ∧ e.n = xs.length ∧ (∀ x ∈ xs, x.length = sz) ∧ 0 < sz ∧ e.n ≤ e.cap ∧ e.cap ≤ maxLen ∧ cur.size = e.cap * sz ∧ cur.toList.take (e.n * sz) = vs ∧ ∀ v ∈ vs, v.oneCell' = true := by
  cases h with
  | rows vs h1 h2 hs hn' hz h0 h3 =>
    rcases h1.2 with ⟨hv, _⟩ | ⟨g, cap, cur, hv, _, hh, hc, hm, hcs, ht⟩
    · rw [Ent.val_at hn] at hv; simp at hv
    · rw [Ent.val_at hn] at hv
      simp at hv
      obtain ⟨rfl, rfl⟩ := hv
      exact ⟨cur, vs, hh, h2, hs, hn', hz, h0, hc, hm, hcs, ht, h3⟩
theorem rows_nil {c : Cx} {ty sz : Nat} {xs : List (List AV)} {e : Ent} (h : BlkRel c (.rows ty sz xs) e) (hn : e.nil = true) : xs = [] := by
  cases h with
  | rows vs h1 h2 hs hn' hz h0 h3 =>
    rcases h1.2 with ⟨_, h0⟩ | ⟨g, cap, cur, hv, _⟩
    · exact List.eq_nil_of_length_eq_zero (by omega)
    · rw [Ent.val_nil hn] at hv; simp at hv
/-- A part of a slice's array, read. -/
theorem rows_sl {c : Cx} {ty sz : Nat} {xs : List (List AV)} {e : Ent} (h : BlkRel c (.rows ty sz xs) e) (hn : e.nil = false) (o m : Nat) (hom : o + m ≤ e.n) (ok : Nat → Prop) (hb : ok e.b) (hk : ∀ b, c.ok b → ok b) (cc : Nat) (hcc : m ≤ cc) :
    R0 c.w ok (.sl ((xs.drop o).take m)) (.slice (some ⟨e.b, o * e.sz, none⟩) m cc) := by
  obtain ⟨cur, vs, hh, h2, hs, hn', hz, h0, hc, hm, hcs, ht, h3⟩ := rows_at h hn
  have hlen : ((xs.drop o).take m).length = m := by rw [List.length_take, List.length_drop]; omega
  have hz' : ∀ x ∈ (xs.drop o).take m, x.length = sz := fun x hx => hz x (List.mem_of_mem_drop (List.mem_of_mem_take hx))
  have hsz : e.n * sz ≤ cur.size := by rw [hcs]; exact Nat.mul_le_mul_right _ hc
  have hle : o * sz + m * sz ≤ e.n * sz := by rw [← Nat.add_mul]; exact Nat.mul_le_mul_right _ hom
  have h := R0.sl (w := c.w) (ok := ok) (xs := (xs.drop o).take m) e.b (o * e.sz) sz cc (fun j => cur.toList.getD (o * sz + j) undef) hb (by rw [hlen]; exact hcc) hz' ?_ ?_
  · rw [hlen] at h
    exact h
  · intro j hj
    rw [hlen] at hj
    rw [cell_of hh, hs, ← Array.getElem?_toList, List.getD_eq_getElem?_getD, List.getElem?_eq_getElem (by simp; omega)]
    rfl
  · intro j a ha
    have hj : j < m * sz := by
      have := (List.getElem?_eq_some_iff.1 ha).1
      rw [flatten_len hz', hlen] at this
      exact this
    rw [flatten_take m (fun x hx => hz x (List.mem_of_mem_drop hx)), flatten_drop o hz, List.getElem?_take, if_pos hj, List.getElem?_drop] at ha
    obtain ⟨v, hv, hr⟩ := h2.get _ ha
    rw [← ht, List.getElem?_take, if_pos (by omega)] at hv
    rw [List.getD_eq_getElem?_getD, hv]
    exact hr.mono hk fun _ _ => rfl

theorem pur_sound {c : Cx} {L : Nat → Blk} (hg : Good c L) (l : Nat → Bool) : ∀ (n : Nat) (a : AV) (v : Value), Rel c a v → R0 c.w (okF c l) (pur L l n a) v := by
  have hk : ∀ b, c.ok b → okF c l b := fun b h => .inl h
  intro n
  induction n with
  | zero =>
    intro a v h
    cases h with
    | pure h => exact (h.mono hk fun _ _ => rfl).pur L l 0
    | fn f hl h => exact .any _
    | agg hl h => exact .any _
    | tup hl h => exact .any _
    | yld _ h => exact .any _
    | ptr h hn => exact .any _
    | mp h hn => exact .any _
    | gst h v => exact .any _
    | rowf h =>
      rename_i i e
      simp only [pur]
      cases hl : l i with
      | false => exact .any _
      | true =>
        obtain ⟨e', he, hr⟩ := hg.blk i (hg.dom i e h)
        rw [h] at he; cases he
        cases hB : L i with
        | rows ty sz xs =>
          rw [hB] at hr
          cases hn : e.nil with
          | true => simp only [cond_true]; rw [rows_nil hr hn, Ent.val_nil hn]; exact .sle none 0
          | false =>
            obtain ⟨cur, vs, _, _, hs, hn', _, _, hcap, _⟩ := rows_at hr hn
            have := rows_sl hr hn 0 e.n (by omega) (okF c l) (.inr ⟨i, e, hl, h, hn, rfl⟩) hk e.cap hcap
            rw [Ent.val_at hn]
            simpa [hn'] using this
        | dead => exact .any _
        | box _ _ => exact .any _
        | map _ _ => exact .any _
    | rown h hn =>
      rename_i i e
      simp only [pur]
      cases hl : l i with
      | false => exact .any _
      | true => cases hB : L i <;> first | exact .any _ | (simp; exact .sle none 0)
    | row cc oo h hn ho hc hl' =>
      rename_i i o m e
      simp only [pur]
      cases hl : l i with
      | false => exact .any _
      | true =>
        obtain ⟨e', he, hr⟩ := hg.blk i (hg.dom i e h)
        rw [h] at he; cases he
        cases hB : L i with
        | rows ty sz xs =>
          rw [hB] at hr
          obtain ⟨_, _, _, _, _, _, _, _, hcap, _⟩ := rows_at hr hn
          rcases ho with rfl | rfl
          · exact rows_sl hr hn o m hl' (okF c l) (.inr ⟨i, e, hl, h, hn, rfl⟩) hk cc (by omega)
          · obtain rfl : m = 0 := by omega
            simp only [cond_true, List.take_zero]
            exact .sle _ 0
        | dead => exact .any _
        | box _ _ => exact .any _
        | map _ _ => exact .any _
  | succ n ih =>
    intro a v h
    cases h with
    | pure h => exact (h.mono hk fun _ _ => rfl).pur L l (n + 1)
    | fn f hl h => exact .fn f (by simpa using hl) fun i a v ha hv => by obtain ⟨x, hx, rfl⟩ := get_map ha; exact ih x v (h i x v hx hv)
    | agg hl h => exact .agg (by simpa using hl) fun i a v ha hv => by obtain ⟨x, hx, rfl⟩ := get_map ha; exact ih x v (h i x v hx hv)
    | tup hl h => exact .tup (by simpa using hl) fun i a v ha hv => by obtain ⟨x, hx, rfl⟩ := get_map ha; exact ih x v (h i x v hx hv)
    | yld _ h => exact .any _
    | mp h hn => exact .any _
    | gst h v => exact .any _
    | ptr h hn =>
      rename_i i k j e
      simp only [pur]
      cases hl : l i with
      | false => exact .any _
      | true =>
        obtain ⟨e', he, hr⟩ := hg.blk i (hg.dom i e h)
        rw [h] at he; cases he
        have hb : okF c l e.b := .inr ⟨i, e, hl, h, hn, rfl⟩
        cases hB : L i with
        | rows ty sz xs =>
          rw [hB] at hr
          simp only [cond_true]
          cases hx : xs[k]? with
          | none => exact .any _
          | some x =>
            obtain ⟨cur, vs, hh, h2, hs, hn', hz, h0, hc, hm, hcs, ht, h3⟩ := rows_at hr hn
            have hxl := hz x (List.mem_of_getElem? hx)
            have hkl : k < xs.length := (List.getElem?_eq_some_iff.1 hx).1
            have hsz : e.n * sz ≤ cur.size := by rw [hcs]; exact Nat.mul_le_mul_right _ hc
            have hks : k * sz + sz ≤ e.n * sz := by rw [← Nat.succ_mul]; exact Nat.mul_le_mul_right _ (by omega)
            refine .vptr e.b (k * e.sz + j) (fun q => cur.toList.getD (k * sz + (j + q)) undef) hb (fun q hq => ?_) fun q a ha => ?_
            · rw [List.length_drop, hxl] at hq
              rw [cell_of hh, hs, ← Array.getElem?_toList, List.getD_eq_getElem?_getD, Nat.add_assoc, List.getElem?_eq_getElem (by simp; omega)]
              rfl
            · have hq : j + q < sz := by
                have := (List.getElem?_eq_some_iff.1 ha).1
                rw [List.length_drop, hxl] at this
                omega
              rw [List.getElem?_drop, ← flatten_get hz hx hq] at ha
              obtain ⟨v, hv, hr'⟩ := h2.get _ ha
              rw [← ht, List.getElem?_take, if_pos (by omega)] at hv
              rw [List.getD_eq_getElem?_getD, hv]
              exact hr'.mono hk fun _ _ => rfl
        | box ty cs =>
          rw [hB] at hr
          simp only [cond_true]
          cases k with
          | succ k => exact .any _
          | zero =>
            cases hr with
            | box vs _ hh h2 =>
              have hlen := h2.length
              refine .vptr e.b (0 * e.sz + j) (fun q => vs.getD (j + q) undef) hb (fun q hq => ?_) fun q a ha => ?_
              · rw [List.length_map, List.length_drop] at hq
                rw [cell_of hh, List.getD_eq_getElem?_getD, Nat.zero_mul, Nat.zero_add, List.getElem?_toArray, List.getElem?_eq_getElem (by omega)]
                rfl
              · obtain ⟨x, hx, rfl⟩ := get_map ha
                rw [List.getElem?_drop] at hx
                obtain ⟨v, hv, hr'⟩ := h2.get _ hx
                rw [List.getD_eq_getElem?_getD, hv]
                exact ih x v hr'
        | dead => exact .any _
        | map _ _ => exact .any _
    | rowf h =>
      rename_i i e
      simp only [pur]
      cases hl : l i with
      | false => exact .any _
      | true =>
        obtain ⟨e', he, hr⟩ := hg.blk i (hg.dom i e h)
        rw [h] at he; cases he
        cases hB : L i with
        | rows ty sz xs =>
          rw [hB] at hr
          cases hn : e.nil with
          | true => simp only [cond_true]; rw [rows_nil hr hn, Ent.val_nil hn]; exact .sle none 0
          | false =>
            obtain ⟨cur, vs, _, _, hs, hn', _, _, hcap, _⟩ := rows_at hr hn
            have := rows_sl hr hn 0 e.n (by omega) (okF c l) (.inr ⟨i, e, hl, h, hn, rfl⟩) hk e.cap hcap
            rw [Ent.val_at hn]
            simpa [hn'] using this
        | dead => exact .any _
        | box _ _ => exact .any _
        | map _ _ => exact .any _
    | rown h hn =>
      rename_i i e
      simp only [pur]
      cases hl : l i with
      | false => exact .any _
      | true => cases hB : L i <;> first | exact .any _ | (simp; exact .sle none 0)
    | row cc oo h hn ho hc hl' =>
      rename_i i o m e
      simp only [pur]
      cases hl : l i with
      | false => exact .any _
      | true =>
        obtain ⟨e', he, hr⟩ := hg.blk i (hg.dom i e h)
        rw [h] at he; cases he
        cases hB : L i with
        | rows ty sz xs =>
          rw [hB] at hr
          obtain ⟨_, _, _, _, _, _, _, _, hcap, _⟩ := rows_at hr hn
          rcases ho with rfl | rfl
          · exact rows_sl hr hn o m hl' (okF c l) (.inr ⟨i, e, hl, h, hn, rfl⟩) hk cc (by omega)
          · obtain rfl : m = 0 := by omega
            simp only [cond_true, List.take_zero]
            exact .sle _ 0
        | dead => exact .any _
        | box _ _ => exact .any _
        | map _ _ => exact .any _

/-- The blocks of l are frozen. -/
def Cx.fz (c : Cx) (l : Nat → Bool) : Cx := ⟨c.w, okF c l, fun i => bif l i then none else c.μ i, c.yl⟩
theorem fz_fr (c : Cx) (l : Nat → Bool) : Fr c (c.fz l) :=
  ⟨rfl, rfl, rfl, Nat.le_refl _, fun _ _ _ => rfl, fun b ⟨i, e, h, hn, hb⟩ => .inl ⟨i, e, by
    cases hl : l i <;> simp [Cx.fz, hl] at h
    exact h, hn, hb⟩, fun b h => h.elim .inl fun ⟨i, e, _, h, hn, hb⟩ => .inr (.inl ⟨i, e, h, hn, hb⟩), fun b h => .inl h, rfl, Nat.le_refl _⟩
theorem fz_rel {c : Cx} {L : Nat → Blk} (hg : Good c L) (l : List Nat) {a : AV} {v : Value} (h : Rel c a v) : Rel (c.fz (memB l)) (trav (gFz L l) 8 a) v := by
  have h0 : ∀ a v, R0 c.w c.ok a v → R0 (c.fz (memB l)).w (c.fz (memB l)).ok a v := fun a v h => R0.mono (ok' := okF c (memB l)) (fun b hb => Or.inl hb) (fun _ _ => rfl) h
  refine Rel.trav (c := c) (d := c.fz (memB l)) h0 rfl (fun a v hr h => ?_) h 8
  have hp := pur_sound hg (memB l) 8 a v h
  have key : ∀ i, (∀ e, c.μ i = some e → memB l i = false → (c.fz (memB l)).μ i = some e) := fun i e he hl => by simp [Cx.fz, hl, he]
  cases h with
  | pure h => cases h <;> simp [AV.isRef] at hr
  | fn => simp [AV.isRef] at hr
  | agg => simp [AV.isRef] at hr
  | tup => simp [AV.isRef] at hr
  | yld => simp [AV.isRef] at hr
  | ptr h hn =>
    rename_i i k j e
    simp only [gFz]
    cases hl : memB l i with
    | true => exact .pure hp
    | false => exact .ptr (key i e h hl) hn
  | row cc oo h hn ho hc hl' =>
    rename_i i o m e
    simp only [gFz]
    cases hl : memB l i with
    | true => exact .pure hp
    | false => exact .row cc oo (key i e h hl) hn ho hc hl'
  | rown h hn =>
    rename_i i e
    simp only [gFz]
    cases hl : memB l i with
    | true => exact .pure hp
    | false => exact .rown (key i e h hl) hn
  | rowf h =>
    rename_i i e
    simp only [gFz]
    cases hl : memB l i with
    | true => exact .pure hp
    | false => exact .rowf (key i e h hl)
  | mp h hn =>
    rename_i i e
    simp only [gFz]
    cases hl : memB l i with
    | true => exact .pure (.any _)
    | false => exact .mp (key i e h hl) hn
  | gst h v =>
    rename_i i e
    simp only [gFz]
    cases hl : memB l i with
    | true => exact .pure (.any _)
    | false => exact .gst (key i e h hl) v
theorem fz_good {c : Cx} {L : Nat → Blk} (hg : Good c L) (l : List Nat) : Good (c.fz (memB l)) (fun i => bif memB l i then .dead else (L i).map' (trav (gFz L l) 8)) := by
  refine ⟨fun i hi => ?_, fun i e hi => ?_, fun i j e e' hi hj hn hn' hb => ?_, fun b hb => ?_⟩
  · cases hl : memB l i with
    | true => simp [hl, Blk.alive] at hi
    | false =>
      simp only [hl, cond_false, alive_map'] at hi ⊢
      obtain ⟨e, he, hr⟩ := hg.blk i hi
      exact ⟨e, by simp [Cx.fz, hl, he], hr.turn (d := c.fz (memB l)) _ (fun a v h => fz_rel hg l h) (fun a v (h : R0 c.w c.ok a v) => (h.mono (ok' := okF c (memB l)) (fun b hb => Or.inl hb) fun _ _ => rfl : R0 c.w (okF c (memB l)) a v)) fun _ => rfl⟩
  · cases hl : memB l i with
    | true => simp [Cx.fz, hl] at hi
    | false =>
      simp [Cx.fz, hl] at hi
      simp only [hl, cond_false, alive_map']
      exact hg.dom i e hi
  · cases hl : memB l i <;> simp [Cx.fz, hl] at hi
    cases hl' : memB l j <;> simp [Cx.fz, hl'] at hj
    exact hg.inj i j e e' hi hj hn hn' hb
  · rcases hb with hb | ⟨i, e, hl, he, hn, rfl⟩
    · refine ⟨(hg.okd b hb).1, fun ⟨i, e, h, hn, hb'⟩ => (hg.okd b hb).2 ⟨i, e, ?_, hn, hb'⟩⟩
      cases hl : memB l i <;> simp [Cx.fz, hl] at h
      exact h
    · refine ⟨hg.lt ⟨i, e, he, hn, rfl⟩, fun ⟨j, e', h, hn', hb'⟩ => ?_⟩
      cases hl' : memB l j <;> simp [Cx.fz, hl'] at h
      have := hg.inj j i e' e h he hn' hn hb'
      subst this
      rw [hl] at hl'
      cases hl'
theorem fz_step {c : Cx} {L : Nat → Blk} (hg : Good c L) (l : List Nat) : ∃ d, d.w = c.w ∧ (∀ b, okF c (memB l) b → d.ok b) ∧ Fr c d ∧ Good d (fzL l L) ∧ (∀ a v, Rel c a v → Rel d (fzA L l a) v) ∧ ∀ i, (fzL l L i).alive = true → d.μ i = c.μ i := by
  cases l with
  | nil => exact ⟨c, rfl, fun b hb => hb.elim (fun h => h) fun ⟨i, e, h, _⟩ => by simp [memB] at h, Fr.refl c, hg, fun _ _ h => h, fun _ _ => rfl⟩
  | cons i l =>
    refine ⟨c.fz (memB (i :: l)), rfl, fun b hb => hb, fz_fr _ _, fz_good hg _, fun a v h => fz_rel hg _ h, fun k hk => ?_⟩
    cases hl : memB (i :: l) k with
    | true => simp [fzL, hl, Blk.alive] at hk
    | false => simp [Cx.fz, hl]
/-- Names of some blocks are let go of; the other ones mean what they did. -/
theorem sc_rel {c d : Cx} (l : List Nat) (hp : ∀ a v, R0 c.w c.ok a v → R0 d.w d.ok a v) (hy : d.yl = c.yl) (hμ : ∀ i e, memB l i = false → c.μ i = some e → d.μ i = some e) {a : AV} {v : Value} (h : Rel c a v) : Rel d (scA l a) v := by
  have hh : Rel d (Ytcmciimogcfakaa.trav (gScr l) 8 a) v := by
    refine Rel.trav (c := c) (d := d) hp hy (fun a v hr h => ?_) h 8
    cases h with
    | pure h => cases h <;> simp [AV.isRef] at hr
    | fn => simp [AV.isRef] at hr
    | agg => simp [AV.isRef] at hr
    | tup => simp [AV.isRef] at hr
    | yld => simp [AV.isRef] at hr
    | ptr h hn =>
      rename_i i k j e
      simp only [gScr]
      cases hl : memB l i with
      | true => exact .pure (.any _)
      | false => exact .ptr (hμ i e hl h) hn
    | row cc oo h hn ho hc hl' =>
      rename_i i o m e
      simp only [gScr]
      cases hl : memB l i with
      | true => exact .pure (.any _)
      | false => exact .row cc oo (hμ i e hl h) hn ho hc hl'
    | rown h hn =>
      rename_i i e
      simp only [gScr]
      cases hl : memB l i with
      | true => exact .pure (.any _)
      | false => exact .rown (hμ i e hl h) hn
    | rowf h =>
      rename_i i e
      simp only [gScr]
      cases hl : memB l i with
      | true => exact .pure (.any _)
      | false => exact .rowf (hμ i e hl h)
    | mp h hn =>
      rename_i i e
      simp only [gScr]
      cases hl : memB l i with
      | true => exact .pure (.any _)
      | false => exact .mp (hμ i e hl h) hn
    | gst h v =>
      rename_i i e
      simp only [gScr]
      cases hl : memB l i with
      | true => exact .pure (.any _)
      | false => exact .gst (hμ i e hl h) v
  cases l with
  | nil => exact h.mono hp hy fun i e he => hμ i e rfl he
  | cons i l => exact hh
end Go.Proofs.Ytcmciimogcfakaa

/- Types; reading and writing memory. -/
set_option linter.unusedVariables false
set_option linter.unusedSimpArgs false
namespace Go.Proofs.Ytcmciimogcfakaa
open Go Go.RowKit

def aggD : TypeDesc → Bool
  | .struct _ => true
  | .array _ _ => true
  | _ => false
def TK.ok (P : Program) : TK → TypeDesc → Prop
  | .int k, d => d = .int k
  | .bool, d => d = .bool
  | .slice e, d => d = .slice e
  | .struct fs, d => ∃ F, d = .struct F ∧ F.toList.map (fun f => (f.offset, (P.info? f.type).map (·.size))) = fs.map (fun p => (p.1, some p.2)) ∧ fs.all (fun p => !Nat.beq p.2 0) = true
  | .arr n e, d => d = .array n e
  | .ptr e, d => d = .pointer e
  | .map k e, d => d = .map k e
  | .other, d => aggD d = false
/-- A struct whose fields are whole numbers: '==' goes cell by cell. -/
def EqF (P : Program) (t n : Nat) : Prop :=
  P.eqGuardType P.depth t = false ∧ P.stoodInHeld t = false ∧ ∃ F, P.underlying t = some (.struct F) ∧ F.size = n ∧
    (F.toList.zipIdx.all fun p => !(p.1.name == "_") && Nat.beq p.1.offset p.2 && (match P.underlying p.1.type with | some (.int _) => true | _ => false)) = true
/-- What the walk is told of a type is so. -/
structure TyF (P : Program) (t : Nat) (i : TI) : Prop where
  und : ∃ d, P.underlying t = some d ∧ i.k.ok P d
  inf : (P.info? t).map (fun q => (q.size, q.bytes, q.zero.map (fun z => z.cells.toList.map ofV), q.zero.map (fun z => (z.cells.toList.all (·.oneCell'), z.oneCell')))) = some (i.sz, i.by_, some i.z, some (true, !i.k.isAgg))
  zsz : i.z.length = i.sz
  eq : i.eq = true → EqF P t i.sz
def TyOk (P : Program) (Γ : Nat → Option TI) : Prop := ∀ t i, Γ t = some i → TyF P t i

section
variable {P : Program} {t : Nat} {i : TI}
theorem TyF.info (h : TyF P t i) : ∃ q z, P.info? t = some q ∧ q.size = i.sz ∧ q.bytes = i.by_ ∧ q.zero = some z ∧ z.cells.toList.map ofV = i.z ∧ ∀ v ∈ z.cells.toList, v.oneCell' = true := by
  have h1 := h.inf
  cases hq : P.info? t with
  | none => rw [hq] at h1; cases h1
  | some q =>
    rw [hq] at h1
    simp only [Option.map_some, Option.some.injEq, Prod.mk.injEq] at h1
    obtain ⟨a, b, c, d⟩ := h1
    cases hz : q.zero with
    | none => rw [hz] at c; cases c
    | some z =>
      rw [hz] at c d
      simp only [Option.map_some, Option.some.injEq, Prod.mk.injEq, List.all_eq_true] at c d
      exact ⟨q, z, rfl, a, b, hz, c, d.1⟩
theorem TyF.one (h : TyF P t i) (ha : i.k.isAgg = false) : ∃ q z, P.info? t = some q ∧ q.zero = some z ∧ z.oneCell' = true ∧ z.cells.toList.map ofV = i.z := by
  have h1 := h.inf
  cases hq : P.info? t with
  | none => rw [hq] at h1; cases h1
  | some q =>
    rw [hq] at h1
    simp only [Option.map_some, Option.some.injEq, Prod.mk.injEq] at h1
    obtain ⟨a, b, c, d⟩ := h1
    cases hz : q.zero with
    | none => rw [hz] at c; cases c
    | some z =>
      rw [hz] at c d
      simp only [Option.map_some, Option.some.injEq, Prod.mk.injEq, ha] at c d
      exact ⟨q, z, rfl, hz, d.2, c⟩
theorem ofV_r0 (w : World) (ok : Nat → Prop) (v : Value) : R0 w ok (ofV v) v := by
  unfold ofV
  split
  · exact .int _ _
  · exact .bool _
  · exact .nilsl
  · exact .any _
theorem ofV_r0s (w : World) (ok : Nat → Prop) : ∀ l : List Value, F2 (R0 w ok) (l.map ofV) l
  | [] => .nil
  | v :: l => .cons (ofV_r0 w ok v) (ofV_r0s w ok l)
theorem nrm_r0 {w : World} {ok : Nat → Prop} {a : AV} {v : Value} (h : R0 w ok a v) : R0 w ok (nrm a) v := by
  cases h with
  | nilsl => exact .sle none 0
  | int k n => exact .int k n
  | bool b => exact .bool b
  | fn f hl h => exact .fn f hl h
  | vptr b off us hb h1 h2 => exact .vptr b off us hb h1 h2
  | sle A c => exact .sle A c
  | sl b off sz c us hb hcp hz h1 h2 => exact .sl b off sz c us hb hcp hz h1 h2
  | slce A => exact .slce A
  | slc b off sz us hb hz h1 h2 => exact .slc b off sz us hb hz h1 h2
  | agg hl h => exact .agg hl h
  | tup hl h => exact .tup hl h
  | und => exact .und
  | any v => exact .any v
theorem agg_ok {k : TK} {d : TypeDesc} (hk : k.ok P d) : aggD d = k.isAgg := by
  cases k <;> simp only [TK.ok] at hk
  case struct fs => obtain ⟨F, rfl, _⟩ := hk; rfl
  case other => exact hk
  all_goals (subst hk; rfl)
theorem run_isAgg_of (h : TyF P t i) (w : World) : (isAgg t).run P w = .ok i.k.isAgg w := by
  obtain ⟨d, hd, hk⟩ := h.und
  rw [← agg_ok hk]
  simp only [isAgg, Sem.run_bind, run_underlying hd, Result.andThen_ok]
  cases d <;> rfl
theorem run_sizeOf_of (h : TyF P t i) (w : World) : (sizeOf t).run P w = .ok i.sz w := by
  obtain ⟨q, z, hq, hs, _⟩ := h.info
  simp [sizeOf, typeInfo, hq, hs]
theorem run_zeroValue_of (h : TyF P t i) : ∃ z : Value, z.cells.toList.map ofV = i.z ∧ (∀ v ∈ z.cells.toList, v.oneCell' = true) ∧ ∀ w, (zeroValue t).run P w = .ok z w := by
  obtain ⟨q, z, hq, _, _, hz, h1, h2⟩ := h.info
  exact ⟨z, h1, h2, fun w => by simp [zeroValue, typeInfo, hq, hz]⟩
end

theorem add_at (b off j : Nat) : (⟨b, off, none⟩ : Addr).add j = ⟨b, off + j, none⟩ := by unfold Addr.add; split <;> simp_all

theorem ldC_sound {P : Program} {t : Nat} {i : TI} (hi : TyF P t i) {c : Cx} {x : List AV} {b off : Nat} {us : Nat → Value} (hc : ∀ j, j < x.length → c.w.cell? ⟨b, off + j, none⟩ = some (us j))
    (hr : ∀ j a, x[j]? = some a → Rel c a (us j)) {k : AV → Prop} (h : ldC i x k) : ∃ a v, k a ∧ (Instr.loadAt t (.pointer (some ⟨b, off, none⟩))).run P c.w = .ok v c.w ∧ Rel c a v := by
  unfold ldC at h
  split at h
  · rename_i hagg
    rw [frcL_eq] at h
    split at h
    · rename_i hlen
      have hlen := Nat.eq_of_beq_eq_true hlen
      rw [List.length_take] at hlen
      refine ⟨_, _, h, ?_, .agg (vs := (List.range i.sz).map us) (by simp; omega) fun j a v ha hv => ?_⟩
      · have hl := run_loadCells (P := P) c.w ⟨b, off, none⟩ i.sz us fun j hj => by rw [add_at]; exact hc j (by omega)
        simp [Instr.loadAt, Instr.sureAddr, loadVar, run_isAgg_of hi, hagg, run_sizeOf_of hi, hl]
      · obtain ⟨q, hq, rfl⟩ := get_map hv
        have hj : j < i.sz := by
          have := (List.getElem?_eq_some_iff.1 hq).1
          simpa using this
        rw [List.getElem?_range hj] at hq
        cases hq
        rw [List.getElem?_take, if_pos hj] at ha
        exact hr j a ha
    · exact h.elim
  · rename_i hagg
    cases x with
    | nil => exact h.elim
    | cons a l =>
      simp only [frc_eq] at h
      refine ⟨_, us 0, h, ?_, hr 0 a rfl⟩
      have := hc 0 (by simp)
      simp [Instr.loadAt, Instr.sureAddr, loadVar, run_isAgg_of hi, hagg, this]
      have h0 : c.w.cell? ⟨b, off, none⟩ = some (us 0) := by simpa using this
      simp [h0]

theorem setCell_put {w : World} {b : Nat} {cur : Array Value} {ty : TypeId} (h : w.heap[b]? = some (.cells cur ty (0, 0))) (o : Nat) (v : Value) :
    w.setCell ⟨b, o, none⟩ v = w.putObj b (.cells (cur.setIfInBounds o v) ty (0, 0)) := by
  unfold World.setCell World.putObj
  congr 1
  apply Array.ext_getElem?
  intro j
  by_cases hj : b = j
  · subst hj
    obtain ⟨hlt, hg⟩ := Array.getElem?_eq_some_iff.1 h
    rw [Array.getElem?_modify, if_pos rfl, h, Array.getElem?_setIfInBounds, if_pos rfl, if_pos hlt]
    simp
  · simp [Array.getElem?_modify, hj, Array.getElem?_setIfInBounds]
theorem putObj_putObj (w : World) (b : Nat) (o o' : Obj) : (w.putObj b o).putObj b o' = w.putObj b o' := by
  unfold World.putObj
  simp
theorem putObj_self {w : World} {b : Nat} {o : Obj} (h : w.heap[b]? = some o) : w.putObj b o = w := by
  unfold World.putObj
  obtain ⟨hlt, hg⟩ := Array.getElem?_eq_some_iff.1 h
  have : w.heap.setIfInBounds b o = w.heap := by
    apply Array.ext_getElem?
    intro j
    by_cases hj : b = j
    · subst hj; simp [Array.getElem?_setIfInBounds, hlt, hg]
    · simp [Array.getElem?_setIfInBounds, hj]
  rw [this]
theorem splice_nil {α : Type} (l : List α) (o : Nat) : splice l o [] = l := by simp [splice]
theorem splice_cons {α : Type} (l : List α) (o : Nat) (v : α) (vs : List α) (h : o < l.length) : splice (l.set o v) (o + 1) vs = splice l o (v :: vs) := by
  unfold splice
  have h1 : (l.set o v).take (o + 1) = l.take o ++ [v] := by
    rw [List.take_succ_eq_append_getElem (by simpa using h), List.take_set, List.set_eq_of_length_le (by rw [List.length_take]; omega)]
    simp
  have h2 : (l.set o v).drop (o + 1 + vs.length) = l.drop (o + (v :: vs).length) := by
    rw [List.drop_set_of_lt (by omega)]
    simp [Nat.add_comm, Nat.add_left_comm]
  rw [h1, h2]
  simp
theorem splice_length {α : Type} (l : List α) (o : Nat) (vs : List α) (h : o + vs.length ≤ l.length) : (splice l o vs).length = l.length := by
  unfold splice
  simp
  omega
/-- Values are stored one behind the other. -/
theorem run_storeCells {P : Program} : ∀ (vs : List Value) (i : Nat) (w : World) (b off : Nat) (cur : Array Value) (ty : TypeId), w.heap[b]? = some (.cells cur ty (0, 0)) → off + i + vs.length ≤ cur.size → (∀ v ∈ vs, v.oneCell' = true) →
    (storeCells ⟨b, off, none⟩ vs i).run P w = .ok () (w.putObj b (.cells (splice cur.toList (off + i) vs).toArray ty (0, 0)))
  | [], i, w, b, off, cur, ty, hh, hl, h1 => by
    rw [splice_nil]
    simp [storeCells, putObj_self hh]
  | v :: vs, i, w, b, off, cur, ty, hh, hl, h1 => by
    have hlt : off + i < cur.size := by simp at hl; omega
    have hc : w.cell? ⟨b, off + i, none⟩ = some cur[off + i] := by rw [cell_of hh, Array.getElem?_eq_getElem hlt]
    have hf : w.frozen? ⟨b, off + i, none⟩ = false := by simp [World.frozen?, hh]
    have hb : b < w.heap.size := (Array.getElem?_eq_some_iff.1 hh).1
    simp only [storeCells, Sem.run_bind, add_at, run_store P w _ v .plain (h1 v (by simp)), hc, hf, Bool.false_eq_true, if_false, Result.andThen_ok, setCell_put hh]
    rw [run_storeCells vs (i + 1) _ b off (cur.setIfInBounds (off + i) v) ty (World.putObj_heap_same hb) (by simp at hl ⊢; omega) fun u hu => h1 u (by simp [hu]), putObj_putObj]
    congr 3
    rw [← splice_cons _ _ _ _ (by simpa using hlt)]
    simp [Nat.add_assoc]
end Go.Proofs.Ytcmciimogcfakaa

/- An operation does what the walk says of it: what makes no blocks. -/
set_option linter.unusedVariables false
set_option linter.unusedSimpArgs false
namespace Go.Proofs.Ytcmciimogcfakaa
open Go Go.RowKit

def off_ok (e : Ent) (o cc m oo : Nat) : Prop := o + cc = e.cap ∧ o + m ≤ e.n ∧ (oo = o * e.sz ∨ cc = 0)
section inv
variable {c : Cx} {v : Value}
theorem Rel.int_inv {k : IntKind} {n : Int} (h : Rel c (.int k n) v) : v = .int k n := by cases h with | pure h => cases h; rfl
theorem Rel.bool_inv {b : Bool} (h : Rel c (.bool b) v) : v = .bool b := by cases h with | pure h => cases h; rfl
theorem Rel.nilsl_inv (h : Rel c .nilsl v) : v = .slice none 0 0 := by cases h with | pure h => cases h; rfl
theorem Rel.und_inv (h : Rel c .und v) : v = undef := by cases h with | pure h => cases h; rfl
theorem Rel.vptr_inv {cs : List AV} (h : Rel c (.vptr cs) v) : ∃ (b off : Nat) (us : Nat → Value), v = .pointer (some ⟨b, off, none⟩) ∧ c.ok b ∧ (∀ j, j < cs.length → c.w.cell? ⟨b, off + j, none⟩ = some (us j)) ∧ ∀ j a, cs[j]? = some a → R0 c.w c.ok a (us j) := by
  cases h with | pure h => cases h with | vptr b off us hb h1 h2 => exact ⟨b, off, us, rfl, hb, h1, h2⟩
theorem Rel.ptr_inv {i k j : Nat} (h : Rel c (.ptr i k j) v) : ∃ e, c.μ i = some e ∧ e.nil = false ∧ v = .pointer (some ⟨e.b, k * e.sz + j, none⟩) := by
  cases h with
  | pure h => cases h
  | ptr h hn => exact ⟨_, h, hn, rfl⟩
theorem Rel.rowf_inv {i : Nat} (h : Rel c (.rowf i) v) : ∃ e, c.μ i = some e ∧ v = e.val := by
  cases h with
  | pure h => cases h
  | rowf h => exact ⟨_, h, rfl⟩
theorem Rel.mp_inv {i : Nat} (h : Rel c (.mp i) v) : ∃ e, c.μ i = some e ∧ e.nil = false ∧ v = .map (some e.b) := by
  cases h with
  | pure h => cases h
  | mp h hn => exact ⟨_, h, hn, rfl⟩
theorem Rel.row_inv {i o m : Nat} (h : Rel c (.row i o m) v) : ∃ e, c.μ i = some e ∧ ((e.nil = false ∧ ∃ cc oo, off_ok e o cc m oo ∧ v = .slice (some ⟨e.b, oo, none⟩) m cc) ∨ (e.nil = true ∧ o = 0 ∧ m = 0 ∧ v = .slice none 0 0)) := by
  cases h with
  | pure h => cases h
  | row cc oo h hn ho hc hl => exact ⟨_, h, .inl ⟨hn, cc, oo, ⟨hc, hl, ho⟩, rfl⟩⟩
  | rown h hn => exact ⟨_, h, .inr ⟨hn, rfl, rfl, rfl⟩⟩
theorem Rel.agg_inv {cs : List AV} (h : Rel c (.agg cs) v) : ∃ vs : List Value, v = .agg vs.toArray ∧ F2 (Rel c) cs vs := by
  cases h with
  | pure h => cases h with | agg hl h => exact ⟨_, rfl, F2.of_get hl fun i a b ha hb => .pure (h i a b ha hb)⟩
  | agg hl h => exact ⟨_, rfl, F2.of_get hl h⟩
theorem Rel.tup_inv {cs : List AV} (h : Rel c (.tup cs) v) : ∃ vs : List Value, v = .tuple vs.toArray ∧ F2 (Rel c) cs vs := by
  cases h with
  | pure h => cases h with | tup hl h => exact ⟨_, rfl, F2.of_get hl fun i a b ha hb => .pure (h i a b ha hb)⟩
  | tup hl h => exact ⟨_, rfl, F2.of_get hl h⟩
theorem Rel.fn_inv {f : FuncId} {cs : List AV} (h : Rel c (.fn f cs) v) : ∃ vs : List Value, v = .func (.func f) #[] vs.toArray ∧ F2 (Rel c) cs vs := by
  cases h with
  | pure h => cases h with | fn f hl h => exact ⟨_, rfl, F2.of_get hl fun i a b ha hb => .pure (h i a b ha hb)⟩
  | fn f hl h => exact ⟨_, rfl, F2.of_get hl h⟩
theorem Rel.yld_inv (h : Rel c .yld v) : ∃ l, c.yl = some l ∧ v = .func (.yield l) #[] #[] := by
  cases h with
  | pure h => cases h
  | yld l h => exact ⟨l, h, rfl⟩
/-- A frozen slice: where it lies. -/
structure SlAt (c : Cx) (xs : List (List AV)) (v : Value) : Prop where
  at_ : ∃ (A : Option Addr) (cc : Nat), v = .slice A xs.length cc ∧ xs.length ≤ cc ∧ (0 < xs.length → ∃ (b off sz : Nat) (us : Nat → Value), A = some ⟨b, off, none⟩ ∧ c.ok b ∧ (∀ x ∈ xs, x.length = sz) ∧ (∀ j, j < xs.length * sz → c.w.cell? ⟨b, off + j, none⟩ = some (us j)) ∧ ∀ j a, xs.flatten[j]? = some a → R0 c.w c.ok a (us j))
theorem Rel.sl_inv {xs : List (List AV)} (h : Rel c (.sl xs) v) : SlAt c xs v := by
  cases h with | pure h => cases h with
    | sle A cc => exact ⟨A, cc, rfl, by simp, fun h => by simp at h⟩
    | sl b off sz cc us hb hcp hz h1 h2 => exact ⟨_, cc, rfl, hcp, fun _ => ⟨b, off, sz, us, rfl, hb, hz, h1, h2⟩⟩
theorem Rel.slc_inv {xs : List (List AV)} (h : Rel c (.slc xs) v) : SlAt c xs v ∧ ∃ A, v = .slice A xs.length xs.length := by
  cases h with | pure h => cases h with
    | slce A => exact ⟨⟨A, 0, rfl, by simp, fun h => by simp at h⟩, A, rfl⟩
    | slc b off sz us hb hz h1 h2 => exact ⟨⟨_, _, rfl, Nat.le_refl _, fun _ => ⟨b, off, sz, us, rfl, hb, hz, h1, h2⟩⟩, _, rfl⟩
/-- An element of a frozen slice, pointed to. -/
theorem SlAt.elem {xs : List (List AV)} (h : SlAt c xs v) {m : Nat} {y : List AV} (hy : xs[m]? = some y) : ∃ b off cc, v = .slice (some ⟨b, off, none⟩) xs.length cc ∧ m < xs.length ∧ Rel c (.vptr y) (.pointer (some ⟨b, off + m * y.length, none⟩)) := by
  obtain ⟨A, cc, rfl, hcc, hat⟩ := h.at_
  have hlt : m < xs.length := (List.getElem?_eq_some_iff.1 hy).1
  obtain ⟨b, off, sz, us, rfl, hb, hz, h1, h2⟩ := hat (by omega)
  have hyl := hz y (List.mem_of_getElem? hy)
  refine ⟨b, off, cc, rfl, hlt, .pure (.vptr b _ (fun j => us (m * sz + j)) hb (fun j hj => ?_) fun j a ha => ?_)⟩
  · rw [hyl] at hj
    rw [hyl, Nat.add_assoc]
    exact h1 _ (by have : m * sz + sz ≤ xs.length * sz := by rw [← Nat.succ_mul]; exact Nat.mul_le_mul_right _ hlt
                   omega)
  · have hj : j < sz := by rw [← hyl]; exact (List.getElem?_eq_some_iff.1 ha).1
    exact h2 _ _ (by rw [flatten_get hz hy hj]; exact ha)
end inv

/-- What a value's cells are. -/
theorem cells_rel {c : Cx} {a : AV} {v : Value} {cs : List AV} (h : Rel c a v) (hc : a.cells = some cs) : F2 (Rel c) cs v.cells.toList := by
  have one : ∀ {v : Value}, Rel c a v → v.cells = #[v] → a.cells = some [a] → F2 (Rel c) cs v.cells.toList := fun hr hv ha => by
    rw [ha] at hc
    cases hc
    rw [hv]
    exact .cons hr .nil
  cases a with
  | agg xs => obtain ⟨vs, rfl, h2⟩ := h.agg_inv; cases hc; simpa [Value.cells] using h2
  | tup => cases hc
  | und => cases hc
  | any => cases hc
  | int k n => obtain rfl := h.int_inv; exact one h rfl rfl
  | bool b => obtain rfl := h.bool_inv; exact one h rfl rfl
  | fn f xs => obtain ⟨vs, rfl, _⟩ := h.fn_inv; exact one h rfl rfl
  | yld => obtain ⟨l, _, rfl⟩ := h.yld_inv; exact one h rfl rfl
  | ptr i k j => obtain ⟨e, _, _, rfl⟩ := h.ptr_inv; exact one h rfl rfl
  | vptr xs => obtain ⟨b, off, us, rfl, _⟩ := h.vptr_inv; exact one h rfl rfl
  | row i o m =>
    obtain ⟨e, _, h' | h'⟩ := h.row_inv
    · obtain ⟨_, cc, oo, _, rfl⟩ := h'; exact one h rfl rfl
    · obtain ⟨_, _, _, rfl⟩ := h'; exact one h rfl rfl
  | rowf i =>
    obtain ⟨e, _, rfl⟩ := h.rowf_inv
    refine one h ?_ rfl
    cases hn : e.nil <;> simp [Ent.val, hn, Value.cells]
  | sl xs => obtain ⟨A, cc, rfl, _⟩ := h.sl_inv.at_; exact one h rfl rfl
  | slc xs => obtain ⟨_, A, rfl⟩ := h.slc_inv; exact one h rfl rfl
  | nilsl => obtain rfl := h.nilsl_inv; exact one h rfl rfl
  | mp i => obtain ⟨e, _, _, rfl⟩ := h.mp_inv; exact one h rfl rfl
  | gst i e => cases hc
theorem one_rel {c : Cx} {a : AV} {v : Value} (h : Rel c a v) (ho : oneC a = true) : v.oneCell' = true := by
  cases a with
  | agg xs => cases ho
  | tup => cases ho
  | und => cases ho
  | any => cases ho
  | int k n => obtain rfl := h.int_inv; rfl
  | bool b => obtain rfl := h.bool_inv; rfl
  | fn f xs => obtain ⟨vs, rfl, _⟩ := h.fn_inv; rfl
  | yld => obtain ⟨l, _, rfl⟩ := h.yld_inv; rfl
  | ptr i k j => obtain ⟨e, _, _, rfl⟩ := h.ptr_inv; rfl
  | vptr xs => obtain ⟨b, off, us, rfl, _⟩ := h.vptr_inv; rfl
  | row i o m =>
    obtain ⟨e, _, h' | h'⟩ := h.row_inv
    · obtain ⟨_, cc, oo, _, rfl⟩ := h'; rfl
    · obtain ⟨_, _, _, rfl⟩ := h'; rfl
  | rowf i =>
    obtain ⟨e, _, rfl⟩ := h.rowf_inv
    cases hn : e.nil <;> simp [Ent.val, hn, Value.oneCell']
  | sl xs => obtain ⟨A, cc, rfl, _⟩ := h.sl_inv.at_; rfl
  | slc xs => obtain ⟨_, A, rfl⟩ := h.slc_inv; rfl
  | nilsl => obtain rfl := h.nilsl_inv; rfl
  | mp i => obtain ⟨e, _, _, rfl⟩ := h.mp_inv; rfl
  | gst => cases ho
theorem ones_rel {c : Cx} {l : List AV} {vs : List Value} (h : F2 (Rel c) l vs) (ho : l.all oneC = true) : ∀ v ∈ vs, v.oneCell' = true := by
  induction h with
  | nil => simp
  | cons hr _ ih =>
    simp only [List.all_cons, Bool.and_eq_true] at ho
    intro v hv
    rcases List.mem_cons.1 hv with rfl | hv
    · exact one_rel hr ho.1
    · exact ih ho.2 v hv
/-- Cells of plain data, however nil is told. -/
theorem pure_rel {c : Cx} {a : AV} {v : Value} (h : Rel c a v) (hp : (nrm a).pureC = true) : R0 c.w c.ok (nrm a) v := by
  cases h with
  | pure h => exact nrm_r0 h
  | fn => cases hp
  | agg => cases hp
  | tup => cases hp
  | yld => cases hp
  | ptr => cases hp
  | row => cases hp
  | rown => cases hp
  | rowf => cases hp
  | mp => cases hp
  | gst => cases hp
theorem pures_rel {c : Cx} {l : List AV} {vs : List Value} (h : F2 (Rel c) l vs) (hp : (l.map nrm).all AV.pureC = true) : F2 (R0 c.w c.ok) (l.map nrm) vs := by
  induction h with
  | nil => exact .nil
  | cons hr _ ih =>
    simp only [List.map_cons, List.all_cons, Bool.and_eq_true] at hp
    exact .cons (pure_rel hr hp.1) (ih hp.2)
theorem pureC_one {a : AV} (h : a.pureC = true) : oneC a = true := by cases a <;> first | rfl | cases h
theorem pureC_all {l : List AV} (h : l.all AV.pureC = true) : l.all oneC = true := by
  rw [List.all_eq_true] at h ⊢
  exact fun a ha => pureC_one (h a ha)
theorem r0_one {w : World} {ok : Nat → Prop} {a : AV} {v : Value} (h : R0 w ok a v) (ho : oneC a = true) : v.oneCell' = true :=
  one_rel (c := ⟨w, ok, fun _ => none, none⟩) (.pure h) ho
theorem r0_ones {w : World} {ok : Nat → Prop} {l : List AV} {vs : List Value} (h : F2 (R0 w ok) l vs) (ho : l.all oneC = true) : ∀ v ∈ vs, v.oneCell' = true :=
  ones_rel (c := ⟨w, ok, fun _ => none, none⟩) (h.imp fun a b _ hab => .pure hab) ho

/-- The wide fence, in a round or not. -/
def Fx (ρ : Option Nat) : Fence := { Fence.wide with round := ρ }
theorem Fx_none : Fx none = Fence.wide := rfl
theorem Fx_fn (ρ : Option Nat) (f : Nat) : (Fx ρ).fn f := trivial
theorem Fx_depth (ρ : Option Nat) : (Fx ρ).depth = none := rfl
theorem CallsIn.fx {P : Program} {f : FuncId} {args : Array Value} {w : World} {R : Ending → World → Prop} (h : CallsIn Fence.wide 0 P f args w R) (ρ : Option Nat) (n : Nat) : CallsIn (Fx ρ) n P f args w R := by
  have h1 : CallsIn Fence.wide n P f args w R := h.more (Nat.zero_le n)
  cases ρ with
  | none => exact h1
  | some l => exact h1.inRound l

/-- The operation, carried out, does e. -/
def Ex (P : Program) (o : Oper) (a : Act) (c : Cx) (L : Nat → Blk) (np : Nat) (e : Eff) : Prop :=
  ∀ (ρ : Option Nat) (n : Nat) (next : Act → World → Prop) (Q : Exit → Act → World → Prop), (∀ v d, Stp c L np e v d → next (a.put o.dst v) d.w) → o.wpIn (Fx ρ) n P a c.w next Q

theorem semAt_exec (ro : Option Nat) (ρ : Operand → Value) (o : Oper) (h : (match o.op with | .defer _ => true | _ => false) = false) : Oper.semAt ro ρ o = execOp ρ o :=
  Oper.semAt_eq ro ρ o fun c hc => by rw [hc] at h; cases h
theorem Ex.value {P : Program} {o : Oper} {a : Act} {c d : Cx} {L : Nat → Blk} {np : Nat} {e : Eff} {v : Value} (ho : (match o.op with | .defer _ => true | _ => false) = false) (hr : (execOp a.eval o).run P c.w = .ok (.value v) d.w) (hs : Stp c L np e v d) : Ex P o a c L np e := by
  intro ρ n next Q h
  refine ⟨fun f _ => Fx_fn ρ f, ?_⟩
  rw [semAt_exec _ _ _ ho, hr]
  exact h v d hs
theorem Ex.skip {P : Program} {o : Oper} {a : Act} {c d : Cx} {L : Nat → Blk} {np : Nat} {e : Eff} (ho : (match o.op with | .defer _ => true | _ => false) = false) (hr : (execOp a.eval o).run P c.w = .ok .skip d.w) (hs : Stp c L np e undef d) : Ex P o a c L np e := by
  intro ρ n next Q h
  refine ⟨fun f _ => Fx_fn ρ f, ?_⟩
  rw [semAt_exec _ _ _ ho, hr]
  exact h undef d hs
theorem Ex.enter {P : Program} {o : Oper} {a : Act} {c : Cx} {L : Nat → Blk} {np : Nat} {e : Eff} {f : FuncId} {args : Array Value} (ho : (match o.op with | .defer _ => true | _ => false) = false) (hr : (execOp a.eval o).run P c.w = .ok (.enter f args) c.w)
    (hc : CallsIn Fence.wide 0 P f args c.w fun x w' => ∃ v d, d.w = w' ∧ x = .returned v ∧ Stp c L np e v d) : Ex P o a c L np e := by
  intro ρ n next Q h
  refine ⟨fun f _ => Fx_fn ρ f, ?_⟩
  rw [semAt_exec _ _ _ ho, hr]
  refine ⟨fun hd => by simp [Fx, Fence.wide] at hd, ((CallsIn.fx hc ρ (n - 1)).mono ?_)⟩
  rintro x w' ⟨v, d, rfl, rfl, hs⟩
  exact h v d hs
end Go.Proofs.Ytcmciimogcfakaa

/- An operation does what the walk says of it: what turns no block. -/
set_option linter.unusedVariables false
set_option linter.unusedSimpArgs false
namespace Go.Proofs.Ytcmciimogcfakaa
open Go Go.RowKit

section
variable {P : Program} {Γ : Nat → Option TI} {o : Oper} {a : Act} {c : Cx} {L : Nat → Blk} {np j : Nat} {ρ : Operand → AV} {k : Eff → Prop}
theorem run_v {s : Sem Value} {w w' : World} {v : Value} (h : s.run P w = .ok v w') : (do pure (Next.value (← s)) : Sem Next).run P w = .ok (.value v) w' := by simp [h]
theorem run_u {s : Sem Unit} {w w' : World} (h : s.run P w = .ok () w') : (do s; pure Next.skip : Sem Next).run P w = .ok .skip w' := by simp [h]
theorem Ex.pureV (hg : Good c L) {x : AV} {v : Value} {rd : List Nat} (ho : (match o.op with | .defer _ => true | _ => false) = false) (hr : (execOp a.eval o).run P c.w = .ok (.value v) c.w) (hv : Rel c x v) : Ex P o a c L np { v := x, rd := rd } :=
  Ex.value ho hr (Stp.pure hg hv)

theorem ex_move {x : Operand} (ho : o.op = .move x) (hg : Good c L) (hρ : ∀ x, Rel c (ρ x) (a.eval x)) (h : vcE P Γ np o ρ L j k) : ∃ e, k e ∧ Ex P o a c L np e := by
  simp only [vcE, ho, frc_eq] at h
  exact ⟨_, h, Ex.pureV hg (by rw [ho]) (by simp [execOp, ho]) (hρ x)⟩
theorem ex_assign {x : Operand} (ho : o.op = .assign x) (hg : Good c L) (hρ : ∀ x, Rel c (ρ x) (a.eval x)) (h : vcE P Γ np o ρ L j k) : ∃ e, k e ∧ Ex P o a c L np e := by
  simp only [vcE, ho, frc_eq] at h
  exact ⟨_, h, Ex.pureV hg (by rw [ho]) (by simp [execOp, ho]) (hρ x)⟩
theorem ex_pick {x y z : Operand} (ho : o.op = .pick x y z) (hg : Good c L) (hρ : ∀ x, Rel c (ρ x) (a.eval x)) (h : vcE P Γ np o ρ L j k) : ∃ e, k e ∧ Ex P o a c L np e := by
  simp only [vcE, ho, frc_eq] at h
  have hx := hρ x
  split at h
  · rename_i t ht
    rw [ht] at hx
    rw [splitB_eq] at h
    have he := hx.bool_inv
    cases t
    · exact ⟨_, h, Ex.pureV hg (by rw [ho]) (v := a.eval z) (by simp [execOp, ho, he, asBool]) (hρ z)⟩
    · exact ⟨_, h, Ex.pureV hg (by rw [ho]) (v := a.eval y) (by simp [execOp, ho, he, asBool]) (hρ y)⟩
  · exact h.elim
theorem ex_load {t : Nat} {x : Operand} (hT : TyOk P Γ) (ho : o.op = .load t x) (hg : Good c L) (hρ : ∀ x, Rel c (ρ x) (a.eval x)) (h : vcE P Γ np o ρ L j k) : ∃ e, k e ∧ Ex P o a c L np e := by
  simp only [vcE, ho, frc_eq] at h
  have hx := hρ x
  split at h
  · rename_i i hi
    have hi := hT _ _ hi
    split at h
    · rename_i cs hp
      rw [hp] at hx
      obtain ⟨b, off, us, he, hb, h1, h2⟩ := hx.vptr_inv
      obtain ⟨av, v, hk, hr, hv⟩ := ldC_sound hi h1 (fun j a ha => .pure (h2 j a ha)) h
      exact ⟨_, hk, Ex.pureV hg (by rw [ho]) (v := v) (by simp only [execOp, ho]; exact run_v (by rw [he]; exact hr)) hv⟩
    · rename_i b kk q hp
      rw [hp] at hx
      obtain ⟨e, hμ, hn, he⟩ := hx.ptr_inv
      obtain ⟨e', hμ', hB⟩ := hg.blk b (hg.dom b e hμ)
      rw [hμ] at hμ'; cases hμ'
      split at h
      · rename_i ty cs hL
        rw [hL] at hB
        cases hB with
        | box vs _ hh h2 =>
          split at h
          · have hlen := h2.length
            obtain ⟨av, v, hk, hr, hv⟩ := ldC_sound (b := e.b) (off := 0 * e.sz + q) (us := fun z => vs.getD (q + z) undef) hi (c := c) (fun z hz => by
              rw [List.length_drop] at hz
              rw [cell_of hh, List.getD_eq_getElem?_getD, Nat.zero_mul, Nat.zero_add, List.getElem?_toArray, List.getElem?_eq_getElem (by omega)]
              rfl) (fun z av hz => by
              rw [List.getElem?_drop] at hz
              obtain ⟨v, hv, hr'⟩ := h2.get _ hz
              rw [List.getD_eq_getElem?_getD, hv]
              exact hr') h
            exact ⟨_, hk, Ex.pureV hg (by rw [ho]) (v := v) (by simp only [execOp, ho]; exact run_v (by rw [he]; exact hr)) hv⟩
          · exact h.elim
      · rename_i ty sz xs hL
        rw [hL] at hB
        obtain ⟨y, hy, h⟩ := h
        obtain ⟨cur, vs, hh, h2, hs, hn', hz, h0, hc, hm, hcs, ht, h3⟩ := rows_at hB hn
        have hxl := hz y (List.mem_of_getElem? hy)
        have hkl : kk < xs.length := (List.getElem?_eq_some_iff.1 hy).1
        have hsz : e.n * sz ≤ cur.size := by rw [hcs]; exact Nat.mul_le_mul_right _ hc
        have hks : kk * sz + sz ≤ e.n * sz := by rw [← Nat.succ_mul]; exact Nat.mul_le_mul_right _ (by omega)
        obtain ⟨av, v, hk, hr, hv⟩ := ldC_sound (b := e.b) (off := kk * e.sz + q) (us := fun z => cur.toList.getD (kk * sz + (q + z)) undef) hi (c := c) (fun z hz' => by
          rw [List.length_drop, hxl] at hz'
          rw [cell_of hh, hs, ← Array.getElem?_toList, List.getD_eq_getElem?_getD, Nat.add_assoc, List.getElem?_eq_getElem (by simp; omega)]
          rfl) (fun z av ha => by
          have hq : q + z < sz := by
            have := (List.getElem?_eq_some_iff.1 ha).1
            rw [List.length_drop, hxl] at this
            omega
          rw [List.getElem?_drop, ← flatten_get hz hy hq] at ha
          obtain ⟨v, hv, hr'⟩ := h2.get _ ha
          rw [← ht, List.getElem?_take, if_pos (by omega)] at hv
          rw [List.getD_eq_getElem?_getD, hv]
          exact .pure hr') h
        exact ⟨_, hk, Ex.pureV hg (by rw [ho]) (v := v) (by simp only [execOp, ho]; exact run_v (by rw [he]; exact hr)) hv⟩
      · exact h.elim
    · exact h.elim
  · exact h.elim
theorem ex_nilCheck {x : Operand} (ho : o.op = .nilCheck x) (hg : Good c L) (hρ : ∀ x, Rel c (ρ x) (a.eval x)) (h : vcE P Γ np o ρ L j k) : ∃ e, k e ∧ Ex P o a c L np e := by
  simp only [vcE, ho, frc_eq] at h
  have hx := hρ x
  split at h
  · rename_i i kk q hp
    rw [hp] at hx
    obtain ⟨e, _, _, he⟩ := hx.ptr_inv
    exact ⟨_, h, Ex.pureV hg (by rw [ho]) (v := a.eval x) (by simp [execOp, ho, he]) hx⟩
  · rename_i cs hp
    rw [hp] at hx
    obtain ⟨b, off, us, he, _⟩ := hx.vptr_inv
    exact ⟨_, h, Ex.pureV hg (by rw [ho]) (v := a.eval x) (by simp [execOp, ho, he]) hx⟩
  · exact h.elim
theorem ex_unOp {op : UnOp} {t : Nat} {x : Operand} (ho : o.op = .unOp op t x) (hg : Good c L) (hρ : ∀ x, Rel c (ρ x) (a.eval x)) (h : vcE P Γ np o ρ L j k) : ∃ e, k e ∧ Ex P o a c L np e := by
  simp only [vcE, ho, frc_eq] at h
  have hx := hρ x
  split at h
  · rename_i b hp
    rw [hp] at hx
    have he := hx.bool_inv
    exact ⟨_, h, Ex.pureV hg (by rw [ho]) (v := .bool !b) (by simp [execOp, ho, he, Op.unary]) (.pure (.bool _))⟩
  · rename_i kk n hp
    rw [hp] at hx
    have he := hx.int_inv
    exact ⟨_, h, Ex.pureV hg (by rw [ho]) (v := .int kk (kk.wrap (0 - n))) (by simp [execOp, ho, he, Op.unary, Op.intArith]) (.pure (.int _ _))⟩
  · exact h.elim
theorem ex_convert {s d : Nat} {x : Operand} (hT : TyOk P Γ) (ho : o.op = .convert s d x) (hg : Good c L) (hρ : ∀ x, Rel c (ρ x) (a.eval x)) (h : vcE P Γ np o ρ L j k) : ∃ e, k e ∧ Ex P o a c L np e := by
  simp only [vcE, ho, frc_eq] at h
  have hx := hρ x
  split at h
  · rename_i i' i hi' hi
    have hi := hT _ _ hi
    obtain ⟨q, hq, hk⟩ := hi.und
    obtain ⟨q', hq', _⟩ := (hT _ _ hi').und
    split at h
    · rename_i kk hik
      rw [hik] at hk
      simp only [TK.ok] at hk
      subst hk
      split at h
      · rename_i k0 n hp
        rw [hp] at hx
        have he := hx.int_inv
        refine ⟨_, h, Ex.pureV hg (by rw [ho]) (v := .int kk (kk.wrap n)) ?_ (.pure (.int _ _))⟩
        simp only [execOp, ho]
        exact run_v (by simp [convert, run_underlying hq, run_underlying hq', he, Conv.intToInt])
      · exact h.elim
    · exact h.elim
  · exact h.elim
theorem F2.of_ops (hρ : ∀ x, Rel c (ρ x) (a.eval x)) : ∀ l : List Operand, F2 (Rel c) (l.map ρ) (l.map a.eval)
  | [] => .nil
  | x :: l => .cons (hρ x) (F2.of_ops hρ l)
theorem ex_makeFunc {f : Fn} {fs cs : Array Operand} (ho : o.op = .makeFunc f fs cs) (hg : Good c L) (hρ : ∀ x, Rel c (ρ x) (a.eval x)) (h : vcE P Γ np o ρ L j k) : ∃ e, k e ∧ Ex P o a c L np e := by
  cases f <;> simp only [vcE, ho, frcL_eq] at h <;> try exact h.elim
  rename_i g
  split at h
  · rename_i hfs
    have hfs : fs = #[] := by cases fs; simp_all
    refine ⟨_, h, Ex.pureV hg (by rw [ho]) (v := .func (.func g) #[] (cs.map a.eval)) (by simp [execOp, ho, Instr.makeFunc, hfs]) ?_⟩
    have h2 := F2.of_ops hρ cs.toList
    have := Rel.fn (c := c) g h2.length fun i x v hx hv => by
      obtain ⟨u, hu, hr⟩ := h2.get i hx
      rw [hu] at hv
      cases hv
      exact hr
    have e : cs.map a.eval = (cs.toList.map a.eval).toArray := by rw [← Array.toList_map, Array.toArray_toList]
    rw [e]
    exact this
  · exact h.elim
theorem ex_extract {x : Operand} {n : Nat} (ho : o.op = .extract x n) (hg : Good c L) (hρ : ∀ x, Rel c (ρ x) (a.eval x)) (h : vcE P Γ np o ρ L j k) : ∃ e, k e ∧ Ex P o a c L np e := by
  simp only [vcE, ho, frc_eq] at h
  have hx := hρ x
  split at h
  · rename_i vs hp
    rw [hp] at hx
    obtain ⟨us, he, h2⟩ := hx.tup_inv
    split at h
    · rename_i av hav
      obtain ⟨v, hv, hr⟩ := h2.get _ hav
      exact ⟨_, h, Ex.pureV hg (by rw [ho]) (v := v) (by simp [execOp, ho, he, Instr.extract, hv]) hr⟩
    · exact h.elim
  · exact h.elim
theorem ex_fieldAddr {t : Nat} {x : Operand} {f : Nat} (hT : TyOk P Γ) (ho : o.op = .fieldAddr t x f) (hg : Good c L) (hρ : ∀ x, Rel c (ρ x) (a.eval x)) (h : vcE P Γ np o ρ L j k) : ∃ e, k e ∧ Ex P o a c L np e := by
  simp only [vcE, ho, frc_eq, frcL_eq] at h
  have hx := hρ x
  split at h
  · rename_i i hi
    have hi := hT _ _ hi
    obtain ⟨q, hq, hk⟩ := hi.und
    split at h
    · rename_i fs hik
      rw [hik] at hk
      obtain ⟨F, rfl, hF, hF0⟩ := hk
      split at h
      · rename_i off sz hf
        obtain ⟨fd, hfd, hoff⟩ : ∃ fd, F[f]? = some fd ∧ fd.offset = off ∧ (P.info? fd.type).map (·.size) = some sz := by
          have : (F.toList.map fun f => (f.offset, (P.info? f.type).map (·.size)))[f]? = some (off, some sz) := by
            rw [hF, List.getElem?_map, hf]
            rfl
          obtain ⟨fd, hfd, he⟩ := get_map this
          simp only [Prod.mk.injEq] at he
          exact ⟨fd, by simpa using hfd, he.1.symm, he.2.symm⟩
        have hsz : sz ≠ 0 := by
          have := List.all_eq_true.1 hF0 _ (List.mem_of_getElem? hf)
          intro h0
          subst h0
          simp at this
        have hrun : ∀ A : Addr, (Instr.fieldAt t (.pointer (some A)) f).run P c.w = .ok (.pointer (some (A.add off))) c.w := fun A => by
          obtain ⟨hoff, hty⟩ := hoff
          obtain ⟨ti, hti, hts⟩ := Option.map_eq_some_iff.1 hty
          simp [Instr.fieldAt, run_underlying hq, hfd, Instr.sureAddr, fieldPlace, sizeOf, typeInfo, hti, hts, hsz, hoff]
        split at h
        · rename_i cs hp
          rw [hp] at hx
          obtain ⟨b, o', us, he, hb, h1, h2⟩ := hx.vptr_inv
          refine ⟨_, h, Ex.pureV hg (by rw [ho]) (v := .pointer (some ⟨b, o' + off, none⟩)) (by simp only [execOp, ho]; exact run_v (by rw [he, hrun, add_at])) ?_⟩
          exact .pure (.vptr b _ (fun z => us (off + z)) hb (fun z hz => by rw [Nat.add_assoc]; exact h1 _ (by rw [List.length_drop] at hz; omega)) fun z av hz => h2 _ _ (by rw [List.getElem?_drop] at hz; exact hz))
        · rename_i b kk q' hp
          rw [hp] at hx
          obtain ⟨e, hμ, hn, he⟩ := hx.ptr_inv
          exact ⟨_, h, Ex.pureV hg (by rw [ho]) (v := .pointer (some ⟨e.b, kk * e.sz + q' + off, none⟩)) (by simp only [execOp, ho]; exact run_v (by rw [he, hrun, add_at])) (by rw [Nat.add_assoc]; exact .ptr hμ hn)⟩
        · exact h.elim
      · exact h.elim
    · exact h.elim
  · exact h.elim
end
end Go.Proofs.Ytcmciimogcfakaa

/- An operation does what the walk says of it: numbers, places, parts of slices, maps that are read. -/
set_option linter.unusedVariables false
set_option linter.unusedSimpArgs false
namespace Go.Proofs.Ytcmciimogcfakaa
open Go Go.RowKit

section
variable {P : Program} {Γ : Nat → Option TI} {o : Oper} {a : Act} {c : Cx} {L : Nat → Blk} {np j : Nat} {ρ : Operand → AV} {k : Eff → Prop}

theorem eqFields_ok {P : Program} {w : World} {c : Cx} (d : Nat) (xs ys : Array Value) : ∀ (fs : List Field) (i : Nat) (as bs : List AV) (t : Bool),
    ((fs.zipIdx i).all fun p => !(p.1.name == "_") && Nat.beq p.1.offset p.2 && (match P.underlying p.1.type with | some (.int _) => true | _ => false)) = true → eqCs as bs = some t → fs.length = as.length →
    (∀ j x, as[j]? = some x → ∃ v, xs[i + j]? = some v ∧ Rel c x v) → (∀ j x, bs[j]? = some x → ∃ v, ys[i + j]? = some v ∧ Rel c x v) → (Op.eqFields (d + 1) xs ys fs).run P w = .ok t w
  | [], i, [], bs, t, _, he, _, _, _ => by
    cases bs with
    | nil => simp [eqCs] at he; subst he; rfl
    | cons b bs => simp [eqCs] at he
  | [], i, x :: as, bs, t, _, _, hl, _, _ => by simp at hl
  | f :: fs, i, [], bs, t, _, _, hl, _, _ => by simp at hl
  | f :: fs, i, x :: as, bs, t, hf, he, hl, hx, hy => by
    cases bs with
    | nil => cases x <;> simp [eqCs] at he
    | cons y bs =>
      simp only [List.zipIdx_cons, List.all_cons, Bool.and_eq_true] at hf
      obtain ⟨⟨⟨h1, h2⟩, h3⟩, hf⟩ := hf
      have h1 : f.name ≠ "_" := by simpa using h1
      have h2 := Nat.eq_of_beq_eq_true h2
      obtain ⟨vx, hvx, hrx⟩ := hx 0 x rfl
      obtain ⟨vy, hvy, hry⟩ := hy 0 y rfl
      rw [Nat.add_zero] at hvx hvy
      obtain ⟨ki, hu⟩ : ∃ ki, P.underlying f.type = some (.int ki) := by
        cases hu : P.underlying f.type with
        | none => rw [hu] at h3; cases h3
        | some dd => rw [hu] at h3; cases dd <;> first | exact ⟨_, rfl⟩ | cases h3
      have hag : (isAgg f.type).run P w = .ok false w := by simp [isAgg, run_underlying hu]
      have hpx : (part f.type xs f.offset).run P w = .ok vx w := by simp [part, hag, h2, hvx]
      have hpy : (part f.type ys f.offset).run P w = .ok vy w := by simp [part, hag, h2, hvy]
      cases x <;> try (simp [eqCs] at he; done)
      cases y <;> try (simp [eqCs] at he; done)
      rename_i kx nx ky ny
      simp only [eqCs] at he
      obtain rfl := hrx.int_inv
      obtain rfl := hry.int_inv
      split at he
      · rename_i t' hk ht'
        have hk : kx = ky := of_decide_eq_true hk
        subst hk
        cases he
        have ih := eqFields_ok (w := w) (c := c) d xs ys fs (i + 1) as bs t' hf ht' (by simpa using hl) (fun q z hz => by obtain ⟨v, hv, hr⟩ := hx (q + 1) z (by simpa using hz); exact ⟨v, by rw [← hv]; congr 1; omega, hr⟩)
          (fun q z hz => by obtain ⟨v, hv, hr⟩ := hy (q + 1) z (by simpa using hz); exact ⟨v, by rw [← hv]; congr 1; omega, hr⟩)
        have hb := run_equalIn_int (P := P) w d f.type kx ki nx ny hu
        simp only [Op.eqFields, if_pos h1, Sem.run_bind, hpx, hpy, hb, Result.andThen_ok]
        cases hb' : (nx == ny)
        · simp
        · simpa using ih
      · cases he
theorem eqAgg_ok {t n : Nat} {w : World} (he : EqF P t n) {as bs : List AV} {us vs : List Value} (ha : F2 (Rel c) as us) (hb : F2 (Rel c) bs vs) {q : Bool} (hq : eqCs as bs = some q) (hn : as.length = n) (x y : Operand) (op : BinOp) :
    (eqGuard op t x y (.agg us.toArray) (.agg vs.toArray)).run P w = .ok () w ∧ (Op.equal t (.agg us.toArray) (.agg vs.toArray)).run P w = .ok q w := by
  obtain ⟨h1, h2, F, hF, hFn, hall⟩ := he
  refine ⟨run_eqGuard_agg (w := w) op t x y _ _ h1, ?_⟩
  have hf : P.fieldsOf t = F := by simp [Program.fieldsOf, hF]
  have := run_equalIn_struct (P := P) w 9999 t us.toArray vs.toArray (by rw [hf]; exact hF) h2
  unfold Op.equal Op.maxDepth
  rw [this, hf]
  exact eqFields_ok (c := c) 9998 _ _ F.toList 0 as bs q hall hq (by simp [hFn, hn]) (fun j x hx => by simpa using ha.get j hx) (fun j x hx => by simpa using hb.get j hx)

theorem bin_int {op : BinOp} {kk : IntKind} {x y : Int} {t : Nat} {K : AV → Prop} (h : intOp op kk x y K) : ∃ v u, K v ∧ Rel c v u ∧ (binOp op t (.int kk x) (.int kk y)).run P c.w = .ok u c.w := by
  cases op <;> simp only [intOp] at h
  case quo => exact ⟨_, _, h.2, .pure (.int _ _), by simp [binOp, Op.intDiv, h.1]⟩
  case rem => exact ⟨_, _, h.2, .pure (.int _ _), by simp [binOp, Op.intDiv, h.1]⟩
  case add => exact ⟨_, _, h, .pure (.int _ _), by simp [binOp, Op.intArith]⟩
  case sub => exact ⟨_, _, h, .pure (.int _ _), by simp [binOp, Op.intArith]⟩
  case mul => exact ⟨_, _, h, .pure (.int _ _), by simp [binOp, Op.intArith]⟩
  case or => exact ⟨_, _, h, .pure (.int _ _), by simp [binOp, Op.intBits]⟩
  case and => exact ⟨_, _, h, .pure (.int _ _), by simp [binOp, Op.intBits]⟩
  all_goals exact ⟨_, _, h, .pure (.bool _), by simp [binOp, Op.intCmp]⟩
theorem ex_binOp {op : BinOp} {t : Nat} {x y : Operand} {t' : Nat} (hT : TyOk P Γ) (ho : o.op = .binOp op t x y t') (hg : Good c L) (hρ : ∀ x, Rel c (ρ x) (a.eval x)) (h : vcE P Γ np o ρ L j k) : ∃ e, k e ∧ Ex P o a c L np e := by
  simp only [vcE, ho, frc_eq] at h
  have hx := hρ x
  have hy := hρ y
  unfold vcBin at h
  split at h
  · rename_i ka p kb q hp hq
    rw [hp] at hx
    rw [hq] at hy
    have ex := hx.int_inv
    have ey := hy.int_inv
    split at h
    · obtain ⟨h0, h⟩ := h
      exact ⟨_, h, Ex.pureV hg (by rw [ho]) (by simp only [execOp, ho]; exact run_v (by rw [ex, ey]; simp [eqGuard_at_int, binOp, Op.shift, show ¬ q < 0 by omega])) (.pure (.int _ _))⟩
    · obtain ⟨h0, h⟩ := h
      exact ⟨_, h, Ex.pureV hg (by rw [ho]) (by simp only [execOp, ho]; exact run_v (by rw [ex, ey]; simp [eqGuard_at_int, binOp, Op.shift, show ¬ q < 0 by omega])) (.pure (.int _ _))⟩
    · split at h
      · rename_i hk
        have hk : ka = kb := of_decide_eq_true hk
        subst hk
        obtain ⟨v, u, hk, hr, hrun⟩ := bin_int (P := P) (c := c) (t := t) h
        exact ⟨_, hk, Ex.pureV hg (by rw [ho]) (by simp only [execOp, ho]; exact run_v (by rw [ex, ey]; simp [eqGuard_at_int, hrun])) hr⟩
      · exact h.elim
  · rename_i p q hp hq
    rw [hp] at hx
    rw [hq] at hy
    have ex := hx.bool_inv
    have ey := hy.bool_inv
    split at h
    · rename_i i hi
      obtain ⟨d, hd, hk⟩ := (hT _ _ hi).und
      split at h
      · rename_i hik
        rw [hik] at hk
        simp only [TK.ok] at hk
        subst hk
        have hb := run_equalIn_bool' (P := P) c.w 9999 t p q hd
        split at h
        · exact ⟨_, h, Ex.pureV hg (by rw [ho]) (v := .bool (p == q)) (by simp only [execOp, ho]; exact run_v (by rw [ex, ey]; simp [eqGuard_at_bool, binOp, Op.equal, Op.maxDepth, hb])) (.pure (.bool _))⟩
        · exact ⟨_, h, Ex.pureV hg (by rw [ho]) (v := .bool (!(p == q))) (by simp only [execOp, ho]; exact run_v (by rw [ex, ey]; simp [eqGuard_at_bool, binOp, Op.equal, Op.maxDepth, hb])) (.pure (.bool _))⟩
        · exact h.elim
      · exact h.elim
    · exact h.elim
  · rename_i p q hp hq
    rw [hp] at hx
    rw [hq] at hy
    obtain ⟨us, ex, hu⟩ := hx.agg_inv
    obtain ⟨vs, ey, hv⟩ := hy.agg_inv
    split at h
    · rename_i i hi
      have hi := hT _ _ hi
      split at h
      · rename_i hieq
        simp only [Bool.and_eq_true] at hieq
        obtain ⟨hieq, hlen⟩ := hieq
        have hlen := Nat.eq_of_beq_eq_true hlen
        split at h
        · rename_i t0 ht0
          obtain ⟨hgd, heq⟩ := eqAgg_ok (P := P) (c := c) (w := c.w) (hi.eq hieq) hu hv ht0 hlen x y op
          split at h
          · exact ⟨_, h, Ex.pureV hg (by rw [ho]) (v := .bool t0) (by simp only [execOp, ho]; exact run_v (by rw [ex, ey]; simp [hgd, binOp, heq])) (.pure (.bool _))⟩
          · exact ⟨_, h, Ex.pureV hg (by rw [ho]) (v := .bool !t0) (by simp only [execOp, ho]; exact run_v (by rw [ex, ey]; simp [hgd, binOp, heq])) (.pure (.bool _))⟩
          · exact h.elim
        · exact h.elim
      · exact h.elim
    · exact h.elim
  · rename_i xs hp hq
    rw [hp] at hx
    rw [hq] at hy
    have ey := hy.nilsl_inv
    obtain ⟨A, cc, ex, _, hat⟩ := hx.sl_inv.at_
    have hA : xs ≠ [] → A.isNone = false := fun h0 => by
      have : 0 < xs.length := List.length_pos_iff.2 h0
      obtain ⟨b, off, sz, us, rfl, _⟩ := hat this
      rfl
    split at h
    · rename_i i hi
      obtain ⟨d, hd, hk⟩ := (hT _ _ hi).und
      split at h
      · rename_i e hik
        rw [hik] at hk
        simp only [TK.ok] at hk
        subst hk
        have hb := Lib.run_equalIn_slice_nil (P := P) c.w 9999 t e A xs.length cc 0 0 hd
        split at h
        · exact ⟨_, h A.isNone hA, Ex.pureV hg (by rw [ho]) (v := .bool A.isNone) (by simp only [execOp, ho]; exact run_v (by rw [ex, ey]; simp [eqGuard, binOp, Op.equal, Op.maxDepth, hb])) (.pure (.bool _))⟩
        · exact ⟨_, h (!A.isNone) (fun h0 => by rw [hA h0]; rfl), Ex.pureV hg (by rw [ho]) (v := .bool !A.isNone) (by simp only [execOp, ho]; exact run_v (by rw [ex, ey]; simp [eqGuard, binOp, Op.equal, Op.maxDepth, hb])) (.pure (.bool _))⟩
        · exact h.elim
      · exact h.elim
    · exact h.elim
  · exact h.elim
theorem run_indexAt {t e : Nat} {w : World} {q : TI} (ht : P.underlying t = some (.slice e)) (he : TyF P e q) {kk : IntKind} {m : Nat} {n : Nat} (hm : m < n) (b off cc : Nat) :
    (Instr.indexAt t (.slice (some ⟨b, off, none⟩) n cc) (.int kk (m : Int))).run P w = .ok (.pointer (some ⟨b, off + m * q.sz, none⟩)) w := by
  simp [Instr.indexAt, asIntOf, run_underlying ht, run_sizeOf_of he, hm, add_at]
theorem ex_indexAddr {t : Nat} {x y : Operand} (hT : TyOk P Γ) (ho : o.op = .indexAddr t x y) (hg : Good c L) (hρ : ∀ x, Rel c (ρ x) (a.eval x)) (h : vcE P Γ np o ρ L j k) : ∃ e, k e ∧ Ex P o a c L np e := by
  simp only [vcE, ho, frc_eq] at h
  have hx := hρ x
  have hy := hρ y
  split at h
  · rename_i i hi
    obtain ⟨d, hd, hk⟩ := (hT _ _ hi).und
    split at h
    · rename_i e hik
      rw [hik] at hk
      simp only [TK.ok] at hk
      subst hk
      split at h
      · rename_i q hq
        have hq := hT _ _ hq
        split at h
        · rename_i kk n hn
          rw [hn] at hy
          have ey := hy.int_inv
          unfold vcIdx at h
          simp only [frcL_eq] at h
          split at h
          · rename_i xs hp
            rw [hp] at hx
            obtain ⟨m, z, rfl, hz, h⟩ := h
            split at h
            · rename_i hlen
              have hlen := Nat.eq_of_beq_eq_true hlen
              obtain ⟨b, off, cc, ex, hlt, hr⟩ := hx.sl_inv.elem hz
              exact ⟨_, h, Ex.pureV hg (by rw [ho]) (by simp only [execOp, ho]; exact run_v (by rw [ex, ey]; exact run_indexAt hd hq hlt b off cc)) (by rw [← hlen]; exact hr)⟩
            · exact h.elim
          · rename_i xs hp
            rw [hp] at hx
            obtain ⟨m, z, rfl, hz, h⟩ := h
            split at h
            · rename_i hlen
              have hlen := Nat.eq_of_beq_eq_true hlen
              obtain ⟨b, off, cc, ex, hlt, hr⟩ := hx.slc_inv.1.elem hz
              exact ⟨_, h, Ex.pureV hg (by rw [ho]) (by simp only [execOp, ho]; exact run_v (by rw [ex, ey]; exact run_indexAt hd hq hlt b off cc)) (by rw [← hlen]; exact hr)⟩
            · exact h.elim
          · rename_i b hp
            rw [hp] at hx
            obtain ⟨en, hμ, ex⟩ := hx.rowf_inv
            obtain ⟨en', hμ', hB⟩ := hg.blk b (hg.dom b en hμ)
            rw [hμ] at hμ'; cases hμ'
            split at h
            · rename_i ty s xs hL
              rw [hL] at hB
              split at h
              · rename_i hs
                have hs := Nat.eq_of_beq_eq_true hs
                obtain ⟨m, rfl, hlt, h⟩ := h
                have hnn : en.nil = false := by
                  cases hn : en.nil with
                  | false => rfl
                  | true => rw [rows_nil hB hn] at hlt; simp at hlt
                obtain ⟨cur, vs, hh, h2, hsz, hn', _⟩ := rows_at hB hnn
                rw [Ent.val_at hnn] at ex
                exact ⟨_, h, Ex.pureV hg (by rw [ho]) (v := .pointer (some ⟨en.b, m * en.sz + 0, none⟩)) (by simp only [execOp, ho]; exact run_v (by rw [ex, ey, run_indexAt hd hq (by omega), hsz, hs]; simp)) (.ptr hμ hnn)⟩
              · exact h.elim
            · exact h.elim
          · rename_i b off len hp
            rw [hp] at hx
            obtain ⟨en, hμ, hcase⟩ := hx.row_inv
            obtain ⟨en', hμ', hB⟩ := hg.blk b (hg.dom b en hμ)
            rw [hμ] at hμ'; cases hμ'
            split at h
            · rename_i ty s xs hL
              rw [hL] at hB
              split at h
              · rename_i hs
                have hs := Nat.eq_of_beq_eq_true hs
                obtain ⟨m, rfl, hlt, h⟩ := h
                rcases hcase with ⟨hnn, cc, oo, ⟨hoc, hol, hoo⟩, ex⟩ | ⟨_, _, hl0, _⟩
                · obtain ⟨cur, vs, hh, h2, hsz, hn', _, _, hcap, _⟩ := rows_at hB hnn
                  obtain rfl : oo = off * en.sz := by rcases hoo with h | h <;> first | exact h | omega
                  exact ⟨_, h, Ex.pureV hg (by rw [ho]) (v := .pointer (some ⟨en.b, (off + m) * en.sz + 0, none⟩)) (by simp only [execOp, ho]; exact run_v (by rw [ex, ey, run_indexAt hd hq hlt, hsz, hs, Nat.add_mul]; simp)) (.ptr hμ hnn)⟩
                · omega
              · exact h.elim
            · exact h.elim
          · exact h.elim
        · exact h.elim
      · exact h.elim
    · exact h.elim
  · exact h.elim
theorem ex_index {t : Nat} {x y : Operand} (hT : TyOk P Γ) (ho : o.op = .index t x y) (hg : Good c L) (hρ : ∀ x, Rel c (ρ x) (a.eval x)) (h : vcE P Γ np o ρ L j k) : ∃ e, k e ∧ Ex P o a c L np e := by
  simp only [vcE, ho, frc_eq] at h
  have hx := hρ x
  have hy := hρ y
  split at h
  · rename_i i hi
    have hi := hT _ _ hi
    obtain ⟨d, hd, hk⟩ := hi.und
    split at h
    · rename_i n e hik
      rw [hik] at hk
      simp only [TK.ok] at hk
      subst hk
      split at h
      · rename_i q hq
        have hq := hT _ _ hq
        split at h
        · rename_i cs kk nn hp hn
          rw [hp] at hx
          rw [hn] at hy
          have ey := hy.int_inv
          obtain ⟨vs, ex, h2⟩ := hx.agg_inv
          split at h
          · rename_i hs
            simp only [Bool.and_eq_true, Bool.not_eq_true'] at hs
            obtain ⟨hs, hag⟩ := hs
            have hs := Nat.eq_of_beq_eq_true hs
            obtain ⟨m, v, rfl, hv, hm, h⟩ := h
            obtain ⟨u, hu, hr⟩ := h2.get _ hv
            refine ⟨_, h, Ex.pureV hg (by rw [ho]) (v := u) ?_ hr⟩
            simp only [execOp, ho]
            refine run_v ?_
            rw [ex, ey]
            simp [Instr.index, asIntOf, run_underlying hd, run_sizeOf_of hq, hs, hm, part, run_isAgg_of hq, hag, hu]
          · exact h.elim
        · exact h.elim
      · exact h.elim
    · exact h.elim
  · exact h.elim
end
end Go.Proofs.Ytcmciimogcfakaa

/- An operation does what the walk says of it: parts of slices, structs and arrays that are built, lengths. -/
set_option linter.unusedVariables false
set_option linter.unusedSimpArgs false
namespace Go.Proofs.Ytcmciimogcfakaa
open Go Go.RowKit

section
variable {P : Program} {Γ : Nat → Option TI} {o : Oper} {a : Act} {c : Cx} {L : Nat → Blk} {np j : Nat} {ρ : Operand → AV} {k : Eff → Prop}

theorem run_bound {kk : IntKind} {m y : Nat} (h : m ≤ y) (code : BoundsCode) (w : World) : (Instr.sliceBound (.int kk (m : Int)) y code).run P w = .ok m w := by
  simp [Instr.sliceBound, asIntOf, h]
theorem cut_run {lo hi : Option Operand} {l cap : Nat} {K : Nat → Nat → Prop} (hρ : ∀ x, Rel c (ρ x) (a.eval x)) (hlc : l ≤ cap) (h : cut (lo.map ρ) (hi.map ρ) l K) :
    ∃ x y, x ≤ y ∧ y ≤ l ∧ K x y ∧ (∀ w, (Instr.sliceBounds true l cap (lo.map a.eval) (hi.map a.eval) none).run P w = .ok (x, y, cap) w) ∧
      ∀ (u : Value) (kk : IntKind) (n : Int), (∃ k', hi.map ρ = some (.int k' n)) → u = .int kk n → ∀ w, (Instr.sliceBounds true l cap (lo.map a.eval) (hi.map a.eval) (some u)).run P w = .ok (x, y, y) w := by
  unfold cut at h
  have key : ∀ (z : Option Operand) {k' : IntKind} {n : Int}, z.map ρ = some (.int k' n) → z.map a.eval = some (.int k' n) := fun z k' n hz => by
    obtain ⟨x, rfl, hx⟩ := Option.map_eq_some_iff.1 hz
    have := hρ x
    rw [hx] at this
    simp [this.int_inv]
  have none' : ∀ (z : Option Operand), z.map ρ = none → z.map a.eval = none := fun z hz => by
    cases z with
    | none => rfl
    | some _ => simp at hz
  split at h
  · rename_i h1 h2
    refine ⟨0, l, by omega, by omega, h, fun w => ?_, fun u kk n hn => by obtain ⟨k', hk⟩ := hn; rw [h2] at hk; cases hk⟩
    simp [Instr.sliceBounds, none' _ h1, none' _ h2]
  · rename_i kk hh h1 h2
    obtain ⟨b, rfl, hb, h⟩ := h
    refine ⟨0, b, by omega, hb, h, fun w => ?_, fun u k2 n hn hu w => ?_⟩
    · simp [Instr.sliceBounds, none' _ h1, key _ h2, run_bound (show b ≤ cap by omega)]
    · obtain ⟨k', hk⟩ := hn
      rw [h2] at hk
      cases hk
      subst hu
      simp [Instr.sliceBounds, none' _ h1, key _ h2, run_bound (show b ≤ cap by omega), run_bound (show b ≤ b by omega)]
  · rename_i kk aa h1 h2
    obtain ⟨m, rfl, hm, h⟩ := h
    refine ⟨m, l, hm, by omega, h, fun w => ?_, fun u kk n hn => by obtain ⟨k', hk⟩ := hn; rw [h2] at hk; cases hk⟩
    simp [Instr.sliceBounds, none' _ h2, key _ h1, run_bound hm]
  · rename_i kk aa kk2 hh h1 h2
    obtain ⟨m, b, rfl, rfl, hmb, hb, h⟩ := h
    refine ⟨m, b, hmb, hb, h, fun w => ?_, fun u k2 n hn hu w => ?_⟩
    · simp [Instr.sliceBounds, key _ h1, key _ h2, run_bound (show b ≤ cap by omega), run_bound hmb]
    · obtain ⟨k', hk⟩ := hn
      rw [h2] at hk
      cases hk
      subst hu
      simp [Instr.sliceBounds, key _ h1, key _ h2, run_bound (show b ≤ cap by omega), run_bound (show b ≤ b by omega), run_bound hmb]
  · exact h.elim

theorem SlAt.sub {v : Value} {xs : List (List AV)} {A : Option Addr} {cc : Nat} (h : SlAt c xs v) (hv : v = .slice A xs.length cc) {sz : Nat} (hz : ∀ x ∈ xs, x.length = sz) {x y m : Nat} (hxy : x ≤ y) (hy : y ≤ xs.length) (hym : y ≤ m) :
    R0 c.w c.ok (.sl ((xs.take y).drop x)) (.slice (if m = x then A else A.map (·.add (x * sz))) (y - x) (m - x)) ∧ (m = y → R0 c.w c.ok (.slc ((xs.take y).drop x)) (.slice (if m = x then A else A.map (·.add (x * sz))) (y - x) (m - x))) := by
  have hlen : ((xs.take y).drop x).length = y - x := by rw [List.length_drop, List.length_take]; omega
  by_cases he : y = x
  · subst he
    have : (xs.take y).drop y = [] := by apply List.eq_nil_of_length_eq_zero; omega
    rw [this, Nat.sub_self]
    refine ⟨.sle _ _, fun h => ?_⟩
    subst h
    rw [Nat.sub_self]
    exact .slce _
  · have hm : m ≠ x := by omega
    rw [if_neg hm]
    obtain ⟨A', cc', rfl, hcc, hat⟩ := h.at_
    cases hv
    obtain ⟨b, off, sz', us, rfl, hb, hz', h1, h2⟩ := hat (by omega)
    have hs : sz' = sz := by
      have : 0 < xs.length := by omega
      obtain ⟨z, hz0⟩ := List.exists_mem_of_length_pos this
      rw [← hz' z hz0, hz z hz0]
    subst hs
    have hz'' : ∀ z ∈ (xs.take y).drop x, z.length = sz' := fun z hz0 => hz z (List.mem_of_mem_take (List.mem_of_mem_drop hz0))
    have hfl : ∀ (q : Nat) (av : AV), ((xs.take y).drop x).flatten[q]? = some av → xs.flatten[x * sz' + q]? = some av := fun q av hq => by
      rw [flatten_drop x (fun z hz0 => hz z (List.mem_of_mem_take hz0)), List.getElem?_drop, flatten_take y hz, List.getElem?_take] at hq
      split at hq
      · exact hq
      · cases hq
    have hle : x * sz' + (y - x) * sz' ≤ xs.length * sz' := by rw [← Nat.add_mul]; exact Nat.mul_le_mul_right _ (by omega)
    have hc : ∀ q, q < ((xs.take y).drop x).length * sz' → c.w.cell? ⟨b, off + x * sz' + q, none⟩ = some (us (x * sz' + q)) := fun q hq => by
      rw [hlen] at hq
      rw [Nat.add_assoc]
      exact h1 _ (by omega)
    have hr : ∀ (q : Nat) (av : AV), ((xs.take y).drop x).flatten[q]? = some av → R0 c.w c.ok av (us (x * sz' + q)) := fun q av hq => h2 _ _ (hfl q av hq)
    simp only [Option.map_some, add_at]
    constructor
    · have := R0.sl (w := c.w) (ok := c.ok) b (off + x * sz') sz' (m - x) (fun q => us (x * sz' + q)) hb (by omega) hz'' hc hr
      rw [hlen] at this
      exact this
    · intro hmy
      have := R0.slc (w := c.w) (ok := c.ok) b (off + x * sz') sz' (fun q => us (x * sz' + q)) hb hz'' hc hr
      rw [hlen] at this
      rw [hmy]
      exact this

theorem ex_slice {t : Nat} {x : Operand} {lo hi mx : Option Operand} (hT : TyOk P Γ) (ho : o.op = .slice t x lo hi mx) (hg : Good c L) (hρ : ∀ x, Rel c (ρ x) (a.eval x)) (h : vcE P Γ np o ρ L j k) : ∃ e, k e ∧ Ex P o a c L np e := by
  simp only [vcE, ho, frc_eq] at h
  have hx := hρ x
  split at h
  · rename_i i hi'
    obtain ⟨d, hd, hk⟩ := (hT _ _ hi').und
    split at h
    · rename_i e hik
      rw [hik] at hk
      simp only [TK.ok] at hk
      subst hk
      split at h
      · rename_i q hq
        have hq := hT _ _ hq
        split at h
        · rename_i xs hp
          rw [hp] at hx
          obtain ⟨hz, h⟩ := h
          have hsl := hx.sl_inv
          obtain ⟨A, cc, ex, hcc, _⟩ := hsl.at_
          obtain ⟨x0, y0, hxy, hy, hK, hr, hr3⟩ := cut_run (P := P) (a := a) hρ hcc h
          split at hK
          · exact ⟨_, hK, Ex.pureV hg (by rw [ho]) (by simp only [execOp, ho]; exact run_v (by rw [ex]; simp [Instr.sliceAt, run_underlying hd, Instr.slice, hr, run_sizeOf_of hq])) (.pure ((hsl.sub (m := cc) ex hz hxy hy (by omega)).1))⟩
          · rename_i m
            split at hK
            · rename_i k1 h1 k2 n2 hhi hm
              obtain ⟨rfl, hK⟩ := hK
              have hmv := hρ m
              rw [hm] at hmv
              exact ⟨_, hK, Ex.pureV hg (by rw [ho]) (by simp only [execOp, ho]; exact run_v (by rw [ex]; simp [Instr.sliceAt, run_underlying hd, Instr.slice, hr3 _ _ _ ⟨_, hhi⟩ hmv.int_inv, run_sizeOf_of hq])) (.pure ((hsl.sub (m := y0) ex hz hxy hy (Nat.le_refl _)).2 rfl))⟩
            · exact hK.elim
        · rename_i b hp
          rw [hp] at hx
          obtain ⟨e', hμ, ex⟩ := hx.rowf_inv
          obtain ⟨e'', hμ', hB⟩ := hg.blk b (hg.dom b e' hμ)
          rw [hμ] at hμ'; cases hμ'
          split at h
          · rename_i ty s xs hL
            rw [hL] at hB
            split at h
            · rename_i hs
              have hs := Nat.eq_of_beq_eq_true hs
              cases hnn : e'.nil with
              | true =>
                rw [Ent.val_nil hnn] at ex
                have hx0 := rows_nil hB hnn
                subst hx0
                obtain ⟨x0, y0, hxy, hy, hK, hr, _⟩ := cut_run (P := P) (a := a) (cap := 0) hρ (Nat.le_refl _) h
                simp only [List.length_nil, Nat.le_zero_eq] at hy
                subst hy
                obtain rfl : x0 = 0 := by omega
                exact ⟨_, hK, Ex.pureV hg (by rw [ho]) (v := .slice none 0 0) (by simp only [execOp, ho]; exact run_v (by rw [ex]; simp [Instr.sliceAt, run_underlying hd, Instr.slice, hr, run_sizeOf_of hq])) (.rown hμ hnn)⟩
              | false =>
                obtain ⟨cur, vs, hh, h2, hsz, hn', _, _, hcap, _⟩ := rows_at hB hnn
                rw [Ent.val_at hnn, hn'] at ex
                obtain ⟨x0, y0, hxy, hy, hK, hr, _⟩ := cut_run (P := P) (a := a) (cap := e'.cap) hρ (by omega) h
                refine ⟨_, hK, Ex.pureV hg (by rw [ho]) (v := .slice (some ⟨e'.b, if e'.cap = x0 then 0 else x0 * e'.sz, none⟩) (y0 - x0) (e'.cap - x0)) (by
                  simp only [execOp, ho]
                  refine run_v ?_
                  rw [ex]
                  have : (if e'.cap = x0 then some (⟨e'.b, 0, none⟩ : Addr) else some ((⟨e'.b, 0, none⟩ : Addr).add (x0 * q.sz))) = some ⟨e'.b, if e'.cap = x0 then 0 else x0 * e'.sz, none⟩ := by
                    rw [add_at, hsz, hs]
                    split <;> simp
                  simp [Instr.sliceAt, run_underlying hd, Instr.slice, hr, run_sizeOf_of hq, this]) (.row _ _ hμ hnn ?_ (by omega) (by omega))⟩
                split
                · exact .inr (by omega)
                · exact .inl rfl
            · exact h.elim
          · exact h.elim
        · exact h.elim
      · exact h.elim
    · exact h.elim
  · exact h.elim
end
end Go.Proofs.Ytcmciimogcfakaa

/- An operation does what the walk says of it: structs and arrays that are built, lengths, the lesser and the greater. -/
set_option linter.unusedVariables false
set_option linter.unusedSimpArgs false
namespace Go.Proofs.Ytcmciimogcfakaa
open Go Go.RowKit

section
variable {P : Program} {Γ : Nat → Option TI} {o : Oper} {a : Act} {c : Cx} {L : Nat → Blk} {np j : Nat} {ρ : Operand → AV} {k : Eff → Prop}

theorem F2.splice {α β : Type} {R : α → β → Prop} {l l' : List α} {m m' : List β} (h : F2 R l m) (h' : F2 R l' m') (n : Nat) : F2 R (splice l n l') (splice m n m') := by
  unfold Go.Proofs.Ytcmciimogcfakaa.splice
  rw [h'.length]
  exact ((h.take n).append h').append (h.drop _)
theorem fill_one {place : Nat → Option (Nat × Nat)} {cells : Array Value} {i : Nat} {v : Value} {rest : List (Nat × Value)} {off size : Nat} (hp : place i = some (off, size)) (hs : v.cells.size = size) (hle : off + size ≤ cells.size) :
    Instr.fill place cells ((i, v) :: rest) = Instr.fill place (splice cells.toList off v.cells.toList).toArray rest := by
  conv => lhs; unfold Instr.fill
  simp only [hp]
  rw [if_neg (by simp; omega)]
  congr 1
  rw [← Array.foldl_toList, Array.toList_zipIdx]
  obtain ⟨g1, g2⟩ := Great.foldl_set off v.cells.toList 0 cells
  apply Array.ext_getElem?
  intro q
  rw [g2 q]
  have hl : v.cells.toList.length = size := by simpa using hs
  unfold splice
  simp only [Nat.add_zero, List.getElem?_toArray]
  by_cases h1 : off ≤ q ∧ q < off + v.cells.toList.length ∧ q < cells.size
  · rw [if_pos h1, List.getElem?_append_left (by simp; omega), List.getElem?_append_right (by simp; omega)]
    congr 1
    simp
    omega
  · rw [if_neg h1]
    by_cases h2 : q < off
    · rw [List.getElem?_append_left (by simp; omega), List.getElem?_append_left (by simp; omega), List.getElem?_take, if_pos h2]
      simp
    · rw [List.getElem?_append_right (by simp; omega), List.getElem?_drop]
      simp only [Array.getElem?_toList]
      congr 1
      simp
      omega
theorem cells_ne {av : AV} {v : Value} (h : Rel c av v) {cs : List AV} (hc : av.cells = some cs) : F2 (Rel c) cs v.cells.toList ∧ v.cells.size = cs.length := by
  have := cells_rel h hc
  exact ⟨this, by rw [this.length]; simp⟩
theorem bldL_sound {fs : List (Nat × Nat)} {place : Nat → Option (Nat × Nat)} (hp : ∀ (f : Nat) (p : Nat × Nat), fs[f]? = some p → place f = some p) (hρ : ∀ x, Rel c (ρ x) (a.eval x)) : ∀ (ps : List (Nat × Operand)) (cs : List AV) (cells : Array Value) {k : List AV → Prop},
    F2 (Rel c) cs cells.toList → bldL fs ρ ps cs k → ∃ (cs' : List AV) (cells' : Array Value), k cs' ∧ F2 (Rel c) cs' cells'.toList ∧ Instr.fill place cells (ps.map fun p => (p.1, a.eval p.2)) = some cells'
  | [], cs, cells, k, h2, h => ⟨cs, cells, h, h2, rfl⟩
  | (f, x) :: ps, cs, cells, k, h2, h => by
    simp only [bldL, frc_eq, frcL_eq] at h
    split at h
    · rename_i off sz hf
      split at h
      · rename_i ys hy
        split at h
        · rename_i hb
          simp only [Bool.and_eq_true] at hb
          have h3 := Nat.eq_of_beq_eq_true hb.1
          have h4 := Nat.le_of_ble_eq_true hb.2
          obtain ⟨g1, g2⟩ := cells_ne (hρ x) hy
          have hlen : cells.size = cs.length := by rw [h2.length]; simp
          simp only [List.map_cons]
          rw [fill_one (hp f _ hf) (by rw [g2, h3]) (by omega)]
          exact bldL_sound hp hρ ps _ (Go.Proofs.Ytcmciimogcfakaa.splice cells.toList off (a.eval x).cells.toList).toArray (by simpa using h2.splice g1 off) h
        · exact h.elim
      · exact h.elim
    · exact h.elim
theorem parts_list (ps : Array (Nat × Operand)) (f : Operand → Value) : (ps.map fun (i, x) => (i, f x)).toList = ps.toList.map fun p => (p.1, f p.2) := by
  rw [Array.toList_map]
theorem z_rel {P : Program} {t : Nat} {i : TI} (h : TyF P t i) : ∃ q z, P.info? t = some q ∧ q.size = i.sz ∧ q.bytes = i.by_ ∧ q.zero = some z ∧ F2 (R0 c.w c.ok) i.z z.cells.toList ∧ (∀ v ∈ z.cells.toList, v.oneCell' = true) := by
  obtain ⟨q, z, h1, h2, h3, h4, h5, h6⟩ := h.info
  exact ⟨q, z, h1, h2, h3, h4, by rw [← h5]; exact ofV_r0s _ _ _, h6⟩
theorem places_of {P : Program} : ∀ (F : List Field) (fs : List (Nat × Nat)), F.map (fun f => (f.offset, (P.info? f.type).map (·.size))) = fs.map (fun p => (p.1, some p.2)) → F.mapM (fun f => (P.info? f.type).map fun i => (f.offset, i.size)) = some fs
  | [], [], _ => rfl
  | [], _ :: _, h => by simp at h
  | _ :: _, [], h => by simp at h
  | f :: F, p :: fs, h => by
    simp only [List.map_cons, List.cons.injEq, Prod.mk.injEq] at h
    obtain ⟨⟨h1, h2⟩, h⟩ := h
    obtain ⟨q, hq, hs⟩ := Option.map_eq_some_iff.1 h2
    have ih := places_of F fs h
    simp [List.mapM_cons, hq, ih, h1, hs]
theorem ex_build {t : Nat} {ps : Array (Nat × Operand)} (hT : TyOk P Γ) (ho : o.op = .build t ps) (hg : Good c L) (hρ : ∀ x, Rel c (ρ x) (a.eval x)) (h : vcE P Γ np o ρ L j k) : ∃ e, k e ∧ Ex P o a c L np e := by
  simp only [vcE, ho, frc_eq] at h
  split at h
  · rename_i i hi
    have hi := hT _ _ hi
    obtain ⟨q, z, hq, _, _, hz, hz2, _⟩ := z_rel (c := c) hi
    obtain ⟨d, hd, hk⟩ := hi.und
    split at h
    · rename_i fs hik
      rw [hik] at hk
      obtain ⟨F, rfl, hF, _⟩ := hk
      obtain ⟨cs, cells, hk, h2, hf⟩ := bldL_sound (place := (fs.toArray[·]?)) (a := a) (c := c) (fun f p hfp => by simpa using hfp) hρ ps.toList i.z z.cells (hz2.imp fun _ _ _ h => .pure h) h
      refine ⟨_, hk, Ex.pureV hg (by rw [ho]) (v := .agg cells) (by
        simp only [execOp, ho]
        refine run_v (run_build c.w t _ cells ?_)
        unfold Program.built
        rw [parts_list]
        simp only [hq, hd, hz, places_of _ _ hF]
        exact hf) ?_⟩
      have := Rel.agg (c := c) h2.length fun i x v hx hv => by
        obtain ⟨u, hu, hr⟩ := h2.get i hx
        rw [hu] at hv; cases hv
        exact hr
      simpa using this
    · rename_i n e hik
      rw [hik] at hk
      simp only [TK.ok] at hk
      subst hk
      split at h
      · rename_i q' hq'
        obtain ⟨qe, ze, hqe, hqs, _⟩ := (hT _ _ hq').info
        obtain ⟨cs, cells, hk, h2, hf⟩ := bldL_sound (place := fun i => some (i * qe.size, qe.size)) (a := a) (c := c) (fun f p hfp => by
          obtain ⟨x, hx, rfl⟩ := get_map hfp
          have : x = f := by
            have h1 := (List.getElem?_eq_some_iff.1 hx)
            obtain ⟨h1, h2⟩ := h1
            simpa using h2.symm
          subst this
          rw [hqs]) hρ ps.toList i.z z.cells (hz2.imp fun _ _ _ h => .pure h) h
        refine ⟨_, hk, Ex.pureV hg (by rw [ho]) (v := .agg cells) (by
          simp only [execOp, ho]
          refine run_v (run_build c.w t _ cells ?_)
          unfold Program.built
          rw [parts_list]
          simp only [hq, hd, hz, hqe]
          exact hf) ?_⟩
        have := Rel.agg (c := c) h2.length fun i x v hx hv => by
          obtain ⟨u, hu, hr⟩ := h2.get i hx
          rw [hu] at hv; cases hv
          exact hr
        simpa using this
      · exact h.elim
    · exact h.elim
  · exact h.elim

theorem two {α : Type} {x : Array α} {p q : α} (h : x.toList = [p, q]) : x = #[p, q] := by cases x; simp_all
theorem one_ {α : Type} {x : Array α} {p : α} (h : x.toList = [p]) : x = #[p] := by cases x; simp_all
theorem run_bi {cl : Call} {b : Builtin} (hc : cl.callee = .builtin b) (ho : o.op = .call cl) (w : World) (f : Operand → Value) : ∃ cs, (execOp f o).run P w = (builtin b cl.argTypes o.type cs (cl.args.map f)).run P w := by
  refine ⟨cl.args.map fun | .const _ => true | _ => false, ?_⟩
  simp only [execOp, ho, resolve, hc, invoke, Sem.run_bind, Sem.run_pure, Result.andThen_ok]
  rfl
theorem ex_len {cl : Call} (hT : TyOk P Γ) (ho : o.op = .call cl) (hcl : cl.callee = .builtin .len) (hg : Good c L) (hρ : ∀ x, Rel c (ρ x) (a.eval x)) (h : vcE P Γ np o ρ L j k) : ∃ e, k e ∧ Ex P o a c L np e := by
  simp only [vcE, ho, hcl, frc_eq] at h
  have hnd : (match o.op with | .defer _ => true | _ => false) = false := by rw [ho]
  split at h
  · rename_i x hx0
    split at h
    · rename_i t ht0
      split at h
      · rename_i i hi
        have hx := hρ x
        obtain ⟨d, hd, hk⟩ := (hT _ _ hi).und
        have key : ∀ (n : Nat) (A : Option Addr) (cc : Nat) (rd : List Nat), (∃ e, P.underlying t = some (.slice e)) → a.eval x = .slice A n cc → k { v := .int .i64 n, rd := rd } → ∃ e, k e ∧ Ex P o a c L np e := fun n A cc rd hs ex h => by
          obtain ⟨e, hs⟩ := hs
          exact ⟨_, h, Ex.pureV hg hnd (v := .int .i64 n) (by obtain ⟨cs, hb⟩ := run_bi (P := P) hcl ho c.w a.eval; rw [hb, one_ hx0, one_ ht0]; simp [ex, builtin, Builtin.len_, run_underlying hs, goInt]) (.pure (.int _ _))⟩
        split at h
        · rename_i e hik
          rw [hik] at hk
          simp only [TK.ok] at hk
          subst hk
          split at h
          · rename_i xs hp
            rw [hp] at hx
            obtain ⟨A, cc, ex, _⟩ := hx.sl_inv.at_
            exact key _ _ _ _ ⟨_, hd⟩ ex h
          · rename_i xs hp
            rw [hp] at hx
            obtain ⟨_, A, ex⟩ := hx.slc_inv
            exact key _ _ _ _ ⟨_, hd⟩ ex h
          · rename_i hp
            rw [hp] at hx
            exact key 0 _ _ _ ⟨_, hd⟩ hx.nilsl_inv h
          · rename_i b off n hp
            rw [hp] at hx
            obtain ⟨e', hμ, ⟨_, cc, oo, _, ex⟩ | ⟨_, _, rfl, ex⟩⟩ := hx.row_inv
            · exact key _ _ _ _ ⟨_, hd⟩ ex h
            · exact key _ _ _ _ ⟨_, hd⟩ ex h
          · rename_i b hp
            rw [hp] at hx
            obtain ⟨e', hμ, ex⟩ := hx.rowf_inv
            obtain ⟨e'', hμ', hB⟩ := hg.blk b (hg.dom b e' hμ)
            rw [hμ] at hμ'; cases hμ'
            split at h
            · rename_i ty s xs hL
              rw [hL] at hB
              cases hnn : e'.nil with
              | true =>
                rw [Ent.val_nil hnn] at ex
                rw [rows_nil hB hnn] at h
                exact key 0 _ _ _ ⟨_, hd⟩ ex h
              | false =>
                obtain ⟨cur, vs, hh, h2, hsz, hn', _⟩ := rows_at hB hnn
                rw [Ent.val_at hnn, hn'] at ex
                exact key _ _ _ _ ⟨_, hd⟩ ex h
            · exact h.elim
          · exact h.elim
        · rename_i kt et hik
          rw [hik] at hk
          simp only [TK.ok] at hk
          subst hk
          split at h
          · rename_i b hp
            rw [hp] at hx
            obtain ⟨e', hμ, hn', ex⟩ := hx.mp_inv
            obtain ⟨e'', hμ', hB⟩ := hg.blk b (hg.dom b e' hμ)
            rw [hμ] at hμ'; cases hμ'
            split at h
            · rename_i kk es hL
              rw [hL] at hB
              cases hB with
              | map _ ms clock hh h2 =>
                have hl := h2.length
                simp only [Array.length_toList] at hl
                exact ⟨_, h, Ex.pureV hg hnd (v := .int .i64 es.length) (by obtain ⟨cs, hb⟩ := run_bi (P := P) hcl ho c.w a.eval; rw [hb, one_ hx0, one_ ht0]; simp [ex, builtin, Builtin.len_, run_underlying hd, MapKept.run_getObj_map hh, goInt, hl]) (.pure (.int _ _))⟩
            · exact h.elim
          · exact h.elim
        · exact h.elim
      · exact h.elim
    · exact h.elim
  · exact h.elim
theorem ex_min {cl : Call} (hT : TyOk P Γ) (ho : o.op = .call cl) (hcl : cl.callee = .builtin .min) (hg : Good c L) (hρ : ∀ x, Rel c (ρ x) (a.eval x)) (h : vcE P Γ np o ρ L j k) : ∃ e, k e ∧ Ex P o a c L np e := by
  simp only [vcE, ho, hcl, frc_eq] at h
  have hnd : (match o.op with | .defer _ => true | _ => false) = false := by rw [ho]
  split at h
  · rename_i x y hx0
    split at h
    · rename_i kx p ky q hp hq
      have hx := hρ x
      have hy := hρ y
      rw [hp] at hx
      rw [hq] at hy
      have ex := hx.int_inv
      have ey := hy.int_inv
      exact ⟨_, h, Ex.pureV hg hnd (v := .int kx (if q < p then q else p)) (by obtain ⟨cs, hb⟩ := run_bi (P := P) hcl ho c.w a.eval; rw [hb, two hx0]; simp [builtin, Builtin.min_, Builtin.min2, ex, ey]) (.pure (.int _ _))⟩
    · exact h.elim
  · exact h.elim
theorem ex_max {cl : Call} (hT : TyOk P Γ) (ho : o.op = .call cl) (hcl : cl.callee = .builtin .max) (hg : Good c L) (hρ : ∀ x, Rel c (ρ x) (a.eval x)) (h : vcE P Γ np o ρ L j k) : ∃ e, k e ∧ Ex P o a c L np e := by
  simp only [vcE, ho, hcl, frc_eq] at h
  have hnd : (match o.op with | .defer _ => true | _ => false) = false := by rw [ho]
  split at h
  · rename_i x y hx0
    split at h
    · rename_i kx p ky q hp hq
      have hx := hρ x
      have hy := hρ y
      rw [hp] at hx
      rw [hq] at hy
      have ex := hx.int_inv
      have ey := hy.int_inv
      exact ⟨_, h, Ex.pureV hg hnd (v := .int kx (if q > p then q else p)) (by obtain ⟨cs, hb⟩ := run_bi (P := P) hcl ho c.w a.eval; rw [hb, two hx0]; simp [builtin, Builtin.max_, Builtin.max2, ex, ey]) (.pure (.int _ _))⟩
    · exact h.elim
  · exact h.elim
end
end Go.Proofs.Ytcmciimogcfakaa

/- An operation does what the walk says of it: variables, boxes, what is stored; maps. -/
set_option linter.unusedVariables false
set_option linter.unusedSimpArgs false
namespace Go.Proofs.Ytcmciimogcfakaa
open Go Go.RowKit

section
variable {P : Program} {Γ : Nat → Option TI} {o : Oper} {a : Act} {c : Cx} {L : Nat → Blk} {np j : Nat} {ρ : Operand → AV} {k : Eff → Prop}

theorem exc_bind {ε α β : Type} {x : Except ε α} {f : α → Except ε β} {r : β} (h : (x >>= f) = .ok r) : ∃ a, f a = .ok r := by
  cases x with
  | error e => cases h
  | ok a => exact ⟨a, h⟩
theorem exc_throw {α : Type} {e : String} {a : α} {C : Prop} (h : (MonadExcept.throw e : Except String α) = .ok a) : C := by cases (show (Except.error e : Except String α) = .ok a from h)
theorem viewStore_drawn {p : Program} {w w' : World} {at_ : Addr} {u : TypeId} {k : Addr} {v : Value} {b : Bool} {l : List Addr} (h : w.viewStore p at_ u k v b = .ok (w', l)) : w'.drawn = w.drawn := by
  unfold World.viewStore at h
  repeat (first | (cases h; done) | exact exc_throw h | (obtain ⟨_, h⟩ := exc_bind h) | (split at h) | (cases h; rfl) | (dsimp only at h))
theorem farStore_drawn {p : Program} {w w' : World} {a : Addr} {v : Value} {b : Bool} {l : List Addr} (h : w.farStore p a v b = .ok (w', l)) : w'.drawn = w.drawn := by
  unfold World.farStore at h
  split at h
  · split at h
    · rename_i r hr
      cases h
      exact viewStore_drawn hr
    · cases h
  · cases h
theorem ask_drawn {α : Type} : ∀ (k : Ask α) (w : World), w.drawn ≤ (w.ask k).2.drawn := by
  intro k
  induction k with
  | done a => intro w; exact Nat.le_refl _
  | ask what range k ih =>
    intro w
    unfold World.ask
    simp only
    split
    · exact ih _ _
    · refine Nat.le_trans ?_ (ih _ _)
      exact Nat.le_succ _
theorem sys_drawn (w : World) (c : Sys) : w.drawn ≤ (w.sys c).2.drawn := by
  have := ask_drawn (Kernel.perform c w.os) w
  unfold World.sys
  split
  · exact Nat.le_refl _
  · rename_i _ _ _ _ h
    rw [h] at this
    exact this
/-- Nothing that is carried out takes back a draw. -/
theorem run_drawn {α : Type} {P : Program} : ∀ (s : Sem α) (w w' : World) (v : α), s.run P w = .ok v w' → w.drawn ≤ w'.drawn := by
  intro s
  induction s with
  | pure a => intro w w' v h; cases h; exact Nat.le_refl _
  | load m a k ih =>
    intro w w' v h
    unfold Sem.run at h
    split at h
    · exact ih _ _ _ _ h
    · split at h
      · exact ih _ _ _ _ h
      · cases h
  | store m a v0 k ih =>
    intro w w' v h
    have key : (match w.cell? a with
      | some _ => if w.frozen? a then Result.halt (.unsupported (.unsafePointer "a write to bytes that a string shares")) w else k.run P (w.setCell a v0)
      | none => match w.farStore P a v0 (m == Mode.atomic) with
        | .ok (w, _) => k.run P w
        | .error h => .halt h w) = .ok v w' → w.drawn ≤ w'.drawn := fun h => by
      split at h
      · split at h
        · cases h
        · have := ih _ _ _ h
          exact this
      · split at h
        · rename_i w1 _ hf
          have := ih _ _ _ h
          rw [farStore_drawn hf] at this
          exact this
        · cases h
    cases v0 <;> simp only [Sem.run] at h <;> first | (cases h; done) | exact key h
  | new o k ih => intro w w' v h; unfold Sem.run at h; have := ih _ _ _ _ h; exact this
  | shape r k ih => intro w w' v h; unfold Sem.run at h; exact ih _ _ _ _ h
  | freeze a n k ih =>
    intro w w' v h
    unfold Sem.run at h
    have := ih _ _ _ h
    unfold World.freeze at this
    split at this <;> exact this
  | frozen a k ih => intro w w' v h; unfold Sem.run at h; exact ih _ _ _ _ h
  | getObj r k ih =>
    intro w w' v h
    unfold Sem.run at h
    split at h
    · cases h
    · exact ih _ _ _ _ h
    · cases h
  | setObj r o k ih =>
    intro w w' v h
    unfold Sem.run at h
    split at h
    · cases h
    · have := ih _ _ _ h; exact this
    · cases h
  | choose q k ih =>
    intro w w' v h
    unfold Sem.run at h
    split at h
    · exact ih _ _ _ _ h
    · refine Nat.le_trans ?_ (ih _ _ _ _ h)
      exact Nat.le_succ _
  | sys c k ih =>
    intro w w' v h
    unfold Sem.run at h
    exact Nat.le_trans (sys_drawn w c) (ih _ _ _ _ h)
  | program k ih => intro w w' v h; unfold Sem.run at h; exact ih _ _ _ _ h
  | mark m k ih => intro w w' v h; unfold Sem.run at h; exact ih _ _ _ h
  | halt h0 => intro w w' v h; unfold Sem.run at h; cases h
theorem upd_self {α : Type} {f : Nat → α} {i : Nat} {v : α} (h : f i = v) : upd f i v = f := by
  funext q
  by_cases hq : q = i
  · subst hq; rw [upd_same, h]
  · rw [upd_ne _ _ hq]
theorem apL_plain (L : Nat → Blk) (v : AV) (wr : List (Nat × Blk)) (rd : List Nat) (al : Nat) : apL L { v := v, wr := wr, rd := rd, al := al } = wrL L wr := rfl
theorem apA_plain (L : Nat → Blk) (v : AV) (wr : List (Nat × Blk)) (rd : List Nat) (al : Nat) (x : AV) : apA L { v := v, wr := wr, rd := rd, al := al } x = x := rfl

theorem Stp.write (hg : Good c L) {i : Nat} {e : Ent} {B : Blk} (ob : Obj) (hi : c.μ i = some e) (hn : e.nil = false) (hB : B.alive = true) {x : AV} {v : Value} {rd : List Nat}
    (hnew : ∀ d : Cx, d.w = c.w.putObj e.b ob → d.ok = c.ok → (∀ a v, Rel c a v → Rel d a v) → (∀ a v, R0 c.w c.ok a v → R0 d.w d.ok a v) → BlkRel d B e) (hv : ∀ w ok, R0 w ok x v) :
    ∃ d, d.w = c.w.putObj e.b ob ∧ Stp c L np { v := x, wr := [(i, B)], rd := rd } v d := by
  have hlt : e.b < c.w.heap.size := hg.lt ⟨i, e, hi, hn, rfl⟩
  have hsz : (c.w.putObj e.b ob).heap.size = c.w.heap.size := by simp [World.putObj]
  have hh : ∀ b, b ≠ e.b → (c.w.putObj e.b ob).heap[b]? = c.w.heap[b]? := fun b hb => by
    simp only [World.putObj, Array.getElem?_setIfInBounds]
    rw [if_neg (fun h => hb h.symm)]
  have hr0 : ∀ a v, R0 c.w c.ok a v → R0 (c.w.putObj e.b ob) c.ok a v := fun a v h => h.mono (fun _ h => h) fun b hb => hh b fun he => (hg.okd b hb).2 ⟨i, e, hi, hn, he.symm⟩
  have hrel : ∀ a v, Rel c a v → Rel ⟨c.w.putObj e.b ob, c.ok, c.μ, c.yl⟩ a v := fun a v h => Rel.mono (d := ⟨c.w.putObj e.b ob, c.ok, c.μ, c.yl⟩) hr0 rfl (fun _ _ h => h) h
  have hn' := hnew ⟨c.w.putObj e.b ob, c.ok, c.μ, c.yl⟩ rfl rfl hrel hr0
  refine ⟨⟨c.w.putObj e.b ob, c.ok, c.μ, c.yl⟩, rfl, ⟨rfl, rfl, rfl, by rw [hsz]; exact Nat.le_refl _, fun b hb hno => hh b fun he => hno ⟨i, e, hi, hn, he.symm⟩, fun b hb => .inl hb, fun b hb => .inl hb, fun b hb => hb, rfl, Nat.le_refl _⟩, ?_, hrel, .pure (hv _ _), fun _ _ _ => rfl⟩
  exact hg.write hi hn hB (upd_self hi).symm rfl hn rfl (by rw [hsz]; exact Nat.le_refl _) hh hrel hr0 hn'
theorem Stp.alloc (hg : Good c L) (hnp : np ≤ j) (hj : (L j).alive = false) (ob : Obj) {e : Ent} {B : Blk} (he : e.b = c.w.heap.size) (hn : e.nil = false) (hB : B.alive = true) {x : AV} {v : Value} {rd : List Nat}
    (hnew : ∀ d : Cx, d = ⟨c.w.alloc ob, c.ok, upd c.μ j (some e), c.yl⟩ → (∀ a v, Rel c a v → Rel d a v) → (∀ a v, R0 c.w c.ok a v → R0 d.w d.ok a v) → BlkRel d B e) (hv : ∀ d : Cx, d.μ j = some e → Rel d x v) :
    ∃ d, d.w = c.w.alloc ob ∧ Stp c L np { v := x, wr := [(j, B)], rd := rd, al := 1 } v d := by
  have hj' : c.μ j = none := by
    cases h : c.μ j with
    | none => rfl
    | some x => have := hg.dom j x h; rw [hj] at this; cases this
  have hr0 : ∀ a v, R0 c.w c.ok a v → R0 (c.w.alloc ob) c.ok a v := fun a v h => h.mono (fun _ h => h) fun b hb => Below.heap_alloc _ _ _ (hg.okd b hb).1
  have hrel : ∀ a v, Rel c a v → Rel ⟨c.w.alloc ob, c.ok, upd c.μ j (some e), c.yl⟩ a v := fun a v h => Rel.mono (d := ⟨c.w.alloc ob, c.ok, upd c.μ j (some e), c.yl⟩) hr0 rfl (fun q x hq => by
    show upd c.μ j (some e) q = some x
    rw [upd_ne _ _ (fun hqj => by subst hqj; rw [hj'] at hq; cases hq)]
    exact hq) h
  obtain ⟨h1, h2, h3⟩ := hg.alloc ob hj hB he hn (hnew _ rfl hrel hr0)
  refine ⟨_, rfl, h2, h1, h3, hv _ (upd_same _ _ _), fun i hi _ => ?_⟩
  exact upd_ne _ _ (by omega)
/-- A block told anew, it may be at another place: what pointed into it is let go of. -/
theorem Stp.put {d : Cx} (hg : Good c L) {i : Nat} (hnp : np ≤ i) {e' : Ent} {B : Blk} (hB : B.alive = true) (hμ : d.μ = upd c.μ i (some e')) (hb : e'.nil = false → c.w.heap.size ≤ e'.b ∨ ∃ e, c.μ i = some e ∧ e.nil = false ∧ e.b = e'.b)
    (hok : d.ok = c.ok) (hy : d.yl = c.yl) (hos : d.w.os = c.w.os) (hta : d.w.tape = c.w.tape) (hou : d.w.output = c.w.output) (hsz : c.w.heap.size ≤ d.w.heap.size)
    (hh : ∀ b, b < c.w.heap.size → (∀ e, c.μ i = some e → e.nil = false → b ≠ e.b) → d.w.heap[b]? = c.w.heap[b]?) {x : AV} {v : Value} {rd : List Nat} (hnew : (∀ a v, R0 c.w c.ok a v → R0 d.w d.ok a v) → BlkRel d B e') (hv : Rel d x v) (hdr : c.w.drawn ≤ d.w.drawn := by first | exact Nat.le_refl _ | assumption | simp) :
    Stp c L np { v := x, wr := [(i, B)], scr := [i], rd := rd } v d := by
  have hr0 : ∀ a v, R0 c.w c.ok a v → R0 d.w d.ok a v := fun a v h => h.mono (fun b hb => by rw [hok]; exact hb) fun b hb => hh b (hg.okd b hb).1 fun e he hn hbe => (hg.okd b hb).2 ⟨i, e, he, hn, hbe.symm⟩
  have hsc : ∀ a v, Rel c a v → Rel d (scA [i] a) v := fun a v h => sc_rel [i] hr0 hy (fun q e hq hqe => by
    rw [hμ, upd_ne]
    · exact hqe
    · intro hqi
      subst hqi
      simp [memB] at hq) h
  have hnew := hnew hr0
  have hcase : ∀ q x, d.μ q = some x → (q = i ∧ x = e') ∨ (q ≠ i ∧ c.μ q = some x) := fun q x hq => by
    rw [hμ] at hq
    by_cases hqi : q = i
    · subst hqi
      rw [upd_same] at hq
      cases hq
      exact .inl ⟨rfl, rfl⟩
    · rw [upd_ne _ _ hqi] at hq
      exact .inr ⟨hqi, hq⟩
  have hL : ∀ q, q ≠ i → apL L { v := x, wr := [(i, B)], scr := [i], rd := rd } q = (L q).map' (trav (gScr [i]) 8) := fun q hq => upd_ne _ _ hq
  have hLi : apL L { v := x, wr := [(i, B)], scr := [i], rd := rd } i = B := upd_same _ _ _
  have hown : ∀ b, d.own b → c.own b ∨ c.w.heap.size ≤ b := by
    rintro b ⟨q, x, hq, hx, rfl⟩
    rcases hcase q x hq with ⟨rfl, rfl⟩ | ⟨_, hq⟩
    · rcases hb hx with h | ⟨e, he, hn, hbe⟩
      · exact .inr h
      · exact .inl ⟨_, e, he, hn, hbe⟩
    · exact .inl ⟨q, x, hq, hx, rfl⟩
  refine ⟨⟨hos, hta, hou, hsz, fun b hb hno => hh b hb fun e he hn hbe => hno ⟨i, e, he, hn, hbe.symm⟩, hown, fun b hb => .inl (by rw [← hok]; exact hb), fun b hb => by rw [hok]; exact hb, hy, hdr⟩, ⟨fun q hq => ?_, fun q x hq => ?_, fun q l x y hq hl hx hy' hxy => ?_, fun b hb' => ?_⟩, ?_, hv, fun q hq _ => ?_⟩
  · by_cases hqi : q = i
    · subst hqi
      rw [hLi]
      exact ⟨e', by rw [hμ, upd_same], hnew⟩
    · rw [hL q hqi] at hq ⊢
      rw [alive_map'] at hq
      obtain ⟨x, hx, hr⟩ := hg.blk q hq
      refine ⟨x, by rw [hμ, upd_ne _ _ hqi]; exact hx, hr.turn _ hsc hr0 fun hxn => hh _ (hr.lt hxn) fun e he hn hbe => hqi (hg.inj _ _ _ _ hx he hxn hn hbe)⟩
  · rcases hcase q x hq with ⟨rfl, rfl⟩ | ⟨hqi, hq⟩
    · rw [hLi]; exact hB
    · rw [hL q hqi, alive_map']
      exact hg.dom q x hq
  · rcases hcase q x hq with ⟨rfl, rfl⟩ | ⟨hqi, hq'⟩ <;> rcases hcase l y hl with ⟨rfl, rfl⟩ | ⟨hli, hl'⟩
    · rfl
    · rcases hb hx with h | ⟨e, he, hn, hbe⟩
      · exact absurd (hg.lt ⟨l, y, hl', hy', rfl⟩) (by rw [← hxy]; omega)
      · exact hg.inj _ _ _ _ he hl' hn hy' (by rw [hbe, hxy])
    · rcases hb hy' with h | ⟨e, he, hn, hbe⟩
      · exact absurd (hg.lt ⟨q, x, hq', hx, rfl⟩) (by rw [hxy]; omega)
      · exact hg.inj _ _ _ _ hq' he hx hn (by rw [hbe, hxy])
    · exact hg.inj q l x y hq' hl' hx hy' hxy
  · rw [hok] at hb'
    have := hg.okd b hb'
    exact ⟨by omega, fun ho => (hown b ho).elim this.2 fun h => by omega⟩
  · exact hsc
  · rw [hμ, upd_ne]
    omega
/-- The world's own counters turn; memory does not. -/
theorem Good.drew (hg : Good c L) : Good ⟨c.w.drew, c.ok, c.μ, c.yl⟩ L ∧ Fr c ⟨c.w.drew, c.ok, c.μ, c.yl⟩ ∧ (∀ a v, Rel c a v → Rel ⟨c.w.drew, c.ok, c.μ, c.yl⟩ a v) := by
  have hr0 : ∀ a v, R0 c.w c.ok a v → R0 c.w.drew c.ok a v := fun a v h => R0.mono (w := c.w) (w' := c.w.drew) (fun _ h => h) (fun _ _ => rfl) h
  have hrel : ∀ a v, Rel c a v → Rel ⟨c.w.drew, c.ok, c.μ, c.yl⟩ a v := fun a v h => Rel.mono (d := ⟨c.w.drew, c.ok, c.μ, c.yl⟩) hr0 rfl (fun _ _ h => h) h
  refine ⟨⟨fun i hi => ?_, hg.dom, hg.inj, hg.okd⟩, ⟨rfl, rfl, rfl, Nat.le_refl _, fun _ _ _ => rfl, fun _ h => .inl h, fun _ h => .inl h, fun _ h => h, rfl, Nat.le_succ _⟩, hrel⟩
  obtain ⟨e, he, hr⟩ := hg.blk i hi
  exact ⟨e, he, hr.keep hrel hr0 fun _ => rfl⟩

theorem ex_alloc {t : Nat} (hT : TyOk P Γ) (hnp : np ≤ j) (ho : o.op = .alloc t) (hg : Good c L) (hρ : ∀ x, Rel c (ρ x) (a.eval x)) (h : vcE P Γ np o ρ L j k) : ∃ e, k e ∧ Ex P o a c L np e := by
  simp only [vcE, ho, frc_eq] at h
  split at h
  · rename_i i hi
    have hi := hT _ _ hi
    split at h
    · rename_i hj
      obtain ⟨q, z, hq, _, _, hz, hz2, _⟩ := z_rel (c := c) hi
      obtain ⟨d, hd, hs⟩ := Stp.alloc (np := np) (rd := [j]) (x := .ptr j 0 0) (v := .pointer (some ⟨c.w.heap.size, 0, none⟩)) hg hnp hj (.cells z.cells t (0, 0)) (e := ⟨c.w.heap.size, 1, 0, 0, false⟩) (B := .box t i.z) rfl rfl rfl
        (fun d hd hrel hr0 => by subst hd; exact .box z.cells.toList rfl (heap_alloc_new _ _) (hz2.imp fun _ _ _ h => .pure (hr0 _ _ h))) (fun d hd => by have := Rel.ptr (c := d) (k := 0) (j := 0) hd rfl; simpa using this)
      refine ⟨_, h, Ex.value (by rw [ho]) (v := .pointer (some ⟨c.w.heap.size, 0, none⟩)) ?_ hs⟩
      simp only [execOp, ho]
      refine run_v ?_
      rw [hd]
      simp [Instr.alloc, zeroValue, typeInfo, hq, hz, newVar, newRow]
    · exact h.elim
  · exact h.elim
theorem ex_box {t : Nat} {x : Operand} (hnp : np ≤ j) (ho : o.op = .box t x) (hg : Good c L) (hρ : ∀ x, Rel c (ρ x) (a.eval x)) (h : vcE P Γ np o ρ L j k) : ∃ e, k e ∧ Ex P o a c L np e := by
  simp only [vcE, ho, frc_eq, frcL_eq] at h
  split at h
  · rename_i cs hcs
    split at h
    · rename_i hj
      have h2 := cells_rel (hρ x) hcs
      obtain ⟨d, hd, hs⟩ := Stp.alloc (np := np) (rd := [j]) (x := .ptr j 0 0) (v := .pointer (some ⟨c.w.heap.size, 0, none⟩)) hg hnp hj (.cells (a.eval x).cells t (0, 0)) (e := ⟨c.w.heap.size, 1, 0, 0, false⟩) (B := .box t cs) rfl rfl rfl
        (fun d hd hrel hr0 => by subst hd; exact .box (a.eval x).cells.toList rfl (heap_alloc_new _ _) (h2.imp fun _ _ _ h => hrel _ _ h)) (fun d hd => by have := Rel.ptr (c := d) (k := 0) (j := 0) hd rfl; simpa using this)
      refine ⟨_, h, Ex.value (by rw [ho]) (v := .pointer (some ⟨c.w.heap.size, 0, none⟩)) ?_ hs⟩
      simp only [execOp, ho]
      refine run_v ?_
      rw [hd]
      simp [Instr.box, newVar, newRow]
    · exact h.elim
  · exact h.elim
theorem ex_makeMap {t : Nat} {r : Option Operand} (hT : TyOk P Γ) (hnp : np ≤ j) (ho : o.op = .makeMap t r) (hg : Good c L) (hρ : ∀ x, Rel c (ρ x) (a.eval x)) (h : vcE P Γ np o ρ L j k) : ∃ e, k e ∧ Ex P o a c L np e := by
  cases r with
  | some r => simp only [vcE, ho] at h
  | none =>
  simp only [vcE, ho] at h
  split at h
  · split at h
    · split at h
      · split at h
        · rename_i kk _
          split at h
          · rename_i hj
            obtain ⟨d, hd, hs⟩ := Stp.alloc (np := np) (rd := [j]) (x := .mp j) (v := .map (some c.w.heap.size)) hg hnp hj (.map #[] 0) (e := ⟨c.w.heap.size, 1, 0, 0, false⟩) (B := .map kk []) rfl rfl rfl
              (fun d hd hrel hr0 => by subst hd; exact .map rfl #[] 0 (heap_alloc_new _ _) .nil) (fun d hd => .mp hd rfl)
            refine ⟨_, h, Ex.value (by rw [ho]) (v := .map (some c.w.heap.size)) ?_ hs⟩
            simp only [execOp, ho]
            refine run_v ?_
            rw [hd]
            simp [Instr.makeMap]
          · exact h.elim
        · exact h.elim
      · exact h.elim
    · exact h.elim
  · exact h.elim
end
end Go.Proofs.Ytcmciimogcfakaa

/- An operation does what the walk says of it: stores, slices that are made. -/
set_option linter.unusedVariables false
set_option linter.unusedSimpArgs false
namespace Go.Proofs.Ytcmciimogcfakaa
open Go Go.RowKit

section
variable {P : Program} {Γ : Nat → Option TI} {o : Oper} {a : Act} {c : Cx} {L : Nat → Blk} {np j : Nat} {ρ : Operand → AV} {k : Eff → Prop}

theorem splice_get {α : Type} (l : List α) (o : Nat) (z : List α) (i : Nat) (h : o + z.length ≤ l.length) : (splice l o z)[i]? = if i < o then l[i]? else if i < o + z.length then z[i - o]? else l[i]? := by
  unfold splice
  by_cases h1 : i < o
  · rw [if_pos h1, List.append_assoc, List.getElem?_append_left (by rw [List.length_take]; omega), List.getElem?_take, if_pos h1]
  · rw [if_neg h1]
    by_cases h2 : i < o + z.length
    · rw [if_pos h2, List.append_assoc, List.getElem?_append_right (by rw [List.length_take]; omega), List.getElem?_append_left (by rw [List.length_take]; omega), List.length_take]
      congr 1
      omega
    · rw [if_neg h2, List.getElem?_append_right (by rw [List.length_append, List.length_take]; omega), List.getElem?_drop, List.length_append, List.length_take]
      congr 1
      omega
theorem splice_take {α : Type} (l : List α) (o m : Nat) (z : List α) (h : o + z.length ≤ m) (hm : m ≤ l.length) : (splice l o z).take m = splice (l.take m) o z := by
  apply List.ext_getElem?
  intro i
  rw [List.getElem?_take, splice_get _ _ _ _ (by omega), splice_get _ _ _ _ (by rw [List.length_take]; omega)]
  by_cases h1 : i < m
  · simp [h1, List.getElem?_take]
  · rw [if_neg h1, if_neg (by omega), if_neg (by omega), List.getElem?_take, if_neg h1]
theorem flatten_set {α : Type} {sz : Nat} {xs : List (List α)} (h : ∀ x ∈ xs, x.length = sz) {k : Nat} {y : List α} (hk : xs[k]? = some y) (q : Nat) (z : List α) (hq : q + z.length ≤ y.length) :
    (xs.set k (splice y q z)).flatten = splice xs.flatten (k * sz + q) z := by
  have hy := h y (List.mem_of_getElem? hk)
  have hkl : k < xs.length := (List.getElem?_eq_some_iff.1 hk).1
  have hfl := flatten_len h
  have hkk : k * sz + sz ≤ xs.length * sz := by rw [← Nat.succ_mul]; exact Nat.mul_le_mul_right _ hkl
  have h' : ∀ x ∈ xs.set k (splice y q z), x.length = sz := fun x hx => by
    rcases List.mem_or_eq_of_mem_set hx with hx | rfl
    · exact h x hx
    · rw [splice_length _ _ _ hq, hy]
  have hfl' := flatten_len h'
  rw [List.length_set] at hfl'
  have hsp : (splice xs.flatten (k * sz + q) z).length = xs.length * sz := by rw [splice_length _ _ _ (by rw [hfl]; omega), hfl]
  rcases Nat.eq_zero_or_pos sz with h0 | h0
  · subst h0
    rw [List.eq_nil_of_length_eq_zero (by rw [hfl']; simp : (xs.set k (splice y q z)).flatten.length = 0), List.eq_nil_of_length_eq_zero (by rw [hsp]; simp : (splice xs.flatten (k * 0 + q) z).length = 0)]
  apply List.ext_getElem?
  intro i
  by_cases hi : i < xs.length * sz
  · have hd := Nat.div_add_mod i sz
    have hm := Nat.mod_lt i h0
    rw [Nat.mul_comm] at hd
    have hil : i / sz < xs.length := (Nat.div_lt_iff_lt_mul h0).2 hi
    have hx : xs[i / sz]? = some xs[i / sz] := List.getElem?_eq_getElem hil
    rw [splice_get _ _ _ _ (by rw [hfl]; omega)]
    by_cases hik : i / sz = k
    · rw [hik] at hd
      have e1 : (xs.set k (splice y q z))[k]? = some (splice y q z) := by simp [hkl]
      have g1 := flatten_get h' e1 hm
      have g2 := flatten_get h hk hm
      rw [hd] at g1 g2
      rw [g1, g2, splice_get _ _ _ _ hq]
      generalize i % sz = r at *
      generalize k * sz = ks at *
      by_cases c1 : r < q
      · have d1 : i < ks + q := by omega
        rw [if_pos c1, if_pos d1]
      · have d1 : ¬ i < ks + q := by omega
        rw [if_neg c1, if_neg d1]
        by_cases c2 : r < q + z.length
        · have d2 : i < ks + q + z.length := by omega
          rw [if_pos c2, if_pos d2]
          congr 1
          omega
        · have d2 : ¬ i < ks + q + z.length := by omega
          rw [if_neg c2, if_neg d2]
    · have e1 : (xs.set k (splice y q z))[i / sz]? = some xs[i / sz] := by rw [List.getElem?_set_ne (by omega)]; exact hx
      have g1 := flatten_get h' e1 hm
      have g2 := flatten_get h hx hm
      rw [hd] at g1 g2
      rw [g1, g2]
      by_cases c1 : i / sz < k
      · have : i / sz * sz + sz ≤ k * sz := by rw [← Nat.succ_mul]; exact Nat.mul_le_mul_right _ c1
        rw [if_pos (by omega)]
      · have : k * sz + sz ≤ i / sz * sz := by rw [← Nat.succ_mul]; exact Nat.mul_le_mul_right _ (by omega)
        rw [if_neg (by omega), if_neg (by omega)]
  · rw [List.getElem?_eq_none (by omega), List.getElem?_eq_none (by omega)]

theorem ex_store {t : Nat} {x y : Operand} (hT : TyOk P Γ) (ho : o.op = .store t x y) (hg : Good c L) (hρ : ∀ x, Rel c (ρ x) (a.eval x)) (h : vcE P Γ np o ρ L j k) : ∃ e, k e ∧ Ex P o a c L np e := by
  simp only [vcE, ho, frc_eq, frcL_eq] at h
  have hx := hρ x
  split at h
  · rename_i i hi
    have hi := hT _ _ hi
    split at h
    · rename_i cs hcs
      obtain ⟨h2, hsz⟩ := cells_ne (hρ y) hcs
      split at h
      · rename_i hb
        simp only [Bool.and_eq_true] at hb
        obtain ⟨hlen, hone⟩ := hb
        have hlen := Nat.eq_of_beq_eq_true hlen
        have h1 := ones_rel h2 hone
        have hcl : (a.eval y).cells.toList.length = cs.length := by simpa using hsz
        have hrun : ∀ {b off : Nat} {cur : Array Value} {ty : TypeId}, a.eval x = .pointer (some ⟨b, off, none⟩) → c.w.heap[b]? = some (.cells cur ty (0, 0)) → off + cs.length ≤ cur.size →
            (execOp a.eval o).run P c.w = .ok .skip (c.w.putObj b (.cells (splice cur.toList off (a.eval y).cells.toList).toArray ty (0, 0))) := fun {b off cur ty} ex hh hle => by
          have hst := run_storeCells (P := P) (a.eval y).cells.toList 0 c.w b off cur ty hh (by rw [hcl]; omega) h1
          simp only [execOp, ho]
          refine run_u ?_
          rw [ex]
          simp only [Nat.add_zero] at hst
          simp [Instr.storeAt, Instr.sureAddr, storeVar, run_sizeOf_of hi, hsz, hlen, hst]
        split at h
        · rename_i b kk q hp
          rw [hp] at hx
          obtain ⟨e, hμ, hn, ex⟩ := hx.ptr_inv
          obtain ⟨e', hμ', hB⟩ := hg.blk b (hg.dom b e hμ)
          rw [hμ] at hμ'; cases hμ'
          split at h
          · rename_i ty ys hL
            rw [hL] at hB
            split at h
            · rename_i hle
              have hle := Nat.le_of_ble_eq_true hle
              cases hB with
              | box vs _ hh h3 =>
                have hl3 := h3.length
                obtain ⟨d, hd, hs⟩ := Stp.write (np := np) (rd := [b]) (x := .und) (v := undef) hg (.cells (splice vs q (a.eval y).cells.toList).toArray ty (0, 0)) hμ hn (B := .box ty (splice ys q cs)) rfl
                  (fun d hd hok hrel hr0 => by
                    refine .box (splice vs q (a.eval y).cells.toList) hn (by rw [hd]; exact World.putObj_heap_same (hg.lt ⟨b, e, hμ, hn, rfl⟩)) ?_
                    exact (h3.imp fun _ _ _ h => hrel _ _ h).splice (h2.imp fun _ _ _ h => hrel _ _ h) q) (fun _ _ => .und)
                refine ⟨_, h, Ex.skip (by rw [ho]) ?_ hs⟩
                rw [hd]
                have := hrun (off := q) (by rw [ex]; simp) hh (by simp; omega)
                simpa using this
            · exact h.elim
          · rename_i ty sz xs hL
            rw [hL] at hB
            obtain ⟨y0, hy0, h⟩ := h
            split at h
            · rename_i hpc
              simp only [Bool.and_eq_true] at hpc
              have hle := Nat.le_of_ble_eq_true hpc.2
              have hp2 := pures_rel h2 hpc.1
              obtain ⟨cur, vs, hh, h3, hs, hn', hz, h0, hc, hm, hcs', ht, h4⟩ := rows_at hB hn
              have hyl := hz y0 (List.mem_of_getElem? hy0)
              have hkl : kk < xs.length := (List.getElem?_eq_some_iff.1 hy0).1
              have hks : kk * sz + sz ≤ e.n * sz := by rw [← Nat.succ_mul]; exact Nat.mul_le_mul_right _ (by omega)
              have hns : e.n * sz ≤ e.cap * sz := Nat.mul_le_mul_right _ hc
              have hfl := flatten_set hz hy0 q (cs.map nrm) (by simpa using hle)
              have hvl : vs.length = xs.length * sz := by rw [← h3.length, flatten_len hz]
              obtain ⟨d, hd, hs'⟩ := Stp.write (np := np) (rd := [b]) (x := .und) (v := undef) hg (.cells (splice cur.toList (kk * sz + q) (a.eval y).cells.toList).toArray ty (0, 0)) hμ hn (B := .rows ty sz (xs.set kk (splice y0 q (cs.map nrm)))) rfl
                (fun d hd hok hrel hr0 => by
                  refine .rows (splice vs (kk * sz + q) (a.eval y).cells.toList) ⟨?_, .inr ⟨e.b, e.cap, _, Ent.val_at hn, Nat.zero_le _, by rw [hd]; exact World.putObj_heap_same (hg.lt ⟨b, e, hμ, hn, rfl⟩), hc, hm, ?_, ?_⟩⟩ ?_ hs (by simpa using hn') (fun x hx => ?_) h0 (fun v hv => ?_)
                  · rw [splice_length _ _ _ (by rw [hvl, hcl]; rw [hn'] at hks; omega), hvl, hn']
                  · rw [← hcs', List.size_toArray, splice_length _ _ _ (by simp; omega)]
                    simp
                  · rw [List.toList_toArray, splice_take _ _ _ _ (by omega) (by simp; omega), ht]
                  · rw [hfl]
                    exact (h3.imp fun _ _ _ h => hr0 _ _ h).splice (hp2.imp fun _ _ _ h => hr0 _ _ h) _
                  · rcases List.mem_or_eq_of_mem_set hx with hx | rfl
                    · exact hz x hx
                    · rw [splice_length _ _ _ (by simpa using hle), hyl]
                  · unfold splice at hv
                    rcases List.mem_append.1 hv with hv | hv
                    · rcases List.mem_append.1 hv with hv | hv
                      · exact h4 v (List.mem_of_mem_take hv)
                      · exact h1 v hv
                    · exact h4 v (List.mem_of_mem_drop hv)) (fun _ _ => .und)
              refine ⟨_, h, Ex.skip (by rw [ho]) ?_ hs'⟩
              rw [hd]
              exact hrun (off := kk * sz + q) (by rw [ex, hs]) hh (by omega)
            · exact h.elim
          · exact h.elim
        · exact h.elim
      · exact h.elim
    · exact h.elim
  · exact h.elim

theorem madeCells_list (z : Array Value) (m sz : Nat) (hz : z.size = sz) (h0 : 0 < sz) : (madeCells z (m * sz)).toList = (List.replicate m z.toList).flatten := by
  have hz' : ∀ x ∈ List.replicate m z.toList, x.length = sz := fun x hx => by rw [List.eq_of_mem_replicate hx]; simpa using hz
  have hl : (List.replicate m z.toList).flatten.length = m * sz := by rw [flatten_len hz']; simp
  apply List.ext_getElem?
  intro i
  by_cases hi : i < m * sz
  · have hd := Nat.div_add_mod i sz
    have hm := Nat.mod_lt i h0
    rw [Nat.mul_comm] at hd
    have hil : i / sz < m := (Nat.div_lt_iff_lt_mul h0).2 hi
    have e1 : (List.replicate m z.toList)[i / sz]? = some z.toList := by simp [List.getElem?_replicate, hil]
    have := flatten_get hz' e1 hm
    rw [hd] at this
    rw [this]
    simp [madeCells, hi, hz]
    rw [Array.getElem?_eq_getElem (by omega)]
    exact (getElem!_pos z (i % sz) (by omega)).symm ▸ rfl
  · rw [List.getElem?_eq_none (by simp [madeCells]; omega), List.getElem?_eq_none (by omega)]
theorem F2.flatten {α β : Type} {R : α → β → Prop} {l : List α} {m : List β} (h : F2 R l m) : ∀ n : Nat, F2 R (List.replicate n l).flatten (List.replicate n m).flatten
  | 0 => .nil
  | n + 1 => by
    simp only [List.replicate_succ, List.flatten_cons]
    exact h.append (F2.flatten h n)
theorem nrm_r0s {w : World} {ok : Nat → Prop} {l : List AV} {vs : List Value} (h : F2 (R0 w ok) l vs) : F2 (R0 w ok) (l.map nrm) vs := by
  induction h with
  | nil => exact .nil
  | cons hr _ ih => exact .cons (nrm_r0 hr) ih
/-- A row that lies in a block of its own, as many cells as it has. -/
theorem rows_new {d : Cx} {w : World} {ty sz : Nat} {xs : List (List AV)} {cur : Array Value} {e : Ent} (hd : d.w = w.alloc (.cells cur ty (0, 0))) (he : e = ⟨w.heap.size, sz, xs.length, xs.length, false⟩) (h2 : F2 (R0 d.w d.ok) xs.flatten cur.toList) (hz : ∀ x ∈ xs, x.length = sz) (h0 : 0 < sz) (hm : xs.length ≤ maxLen)
    (h1 : ∀ v ∈ cur.toList, v.oneCell' = true) : BlkRel d (.rows ty sz xs) e := by
  subst he
  have hl : cur.toList.length = xs.length * sz := by rw [← h2.length, flatten_len hz]
  refine .rows cur.toList ⟨hl, .inr ⟨w.heap.size, xs.length, cur, rfl, Nat.zero_le _, by rw [hd]; exact heap_alloc_new _ _, Nat.le_refl _, hm, by simpa using hl, ?_⟩⟩ h2 rfl rfl hz h0 h1
  rw [← hl]
  exact List.take_length
theorem ex_makeSlice {t : Nat} {x y : Operand} (hT : TyOk P Γ) (hnp : np ≤ j) (ho : o.op = .makeSlice t x y) (hg : Good c L) (hρ : ∀ x, Rel c (ρ x) (a.eval x)) (h : vcE P Γ np o ρ L j k) : ∃ e, k e ∧ Ex P o a c L np e := by
  simp only [vcE, ho, frc_eq, frcL_eq] at h
  have hx := hρ x
  have hy := hρ y
  split at h
  · rename_i i hi
    obtain ⟨d, hd, hk⟩ := (hT _ _ hi).und
    split at h
    · rename_i e hik
      rw [hik] at hk
      simp only [TK.ok] at hk
      subst hk
      split at h
      · rename_i q hq
        have hq := hT _ _ hq
        split at h
        · rename_i n n' hp hp'
          rw [hp] at hx
          rw [hp'] at hy
          have ex := hx.int_inv
          have ey := hy.int_inv
          obtain ⟨rfl, m, rfl, ⟨hb0, hbm⟩, h⟩ := h
          split at h
          · rename_i hj hpc hsz
            have hsz : 0 < q.sz := by simpa [Nat.blt_eq] using hsz
            obtain ⟨it, z, hit, hs1, hs2, hz, hz2, hz1⟩ := z_rel (c := c) hq
            have hm : m ≤ maxLen := by
              have : m * 1 ≤ m * q.by_ := Nat.mul_le_mul_left _ hb0
              simp only [maxLen]
              omega
            have hzl : z.cells.size = q.sz := by rw [← hq.zsz, hz2.length]; simp
            have hb48 : ((q.by_ * m : Nat) : Int) ≤ 281474976710656 := by rw [Nat.mul_comm]; omega
            rw [Int.natCast_mul] at hb48
            have hrun := run_make (P := P) c.w t e it z hd hit hz .i64 .i64 m m (by omega) (Int.le_refl _) (by rw [hs2]; exact hb48) (by simp only [maxLen] at hm; omega)
            simp only [Int.toNat_natCast] at hrun
            have hmade : (madeCells z.cells (m * it.size)).toList = (List.replicate m z.cells.toList).flatten := madeCells_list _ _ _ (by rw [hs1, hzl]) (by omega)
            obtain ⟨d', hd', hs⟩ := Stp.alloc (np := np) (rd := [j]) (x := .rowf j) (v := .slice (some ⟨c.w.heap.size, 0, none⟩) m m) hg hnp hj (.cells (madeCells z.cells (m * it.size)) e (0, 0)) (e := ⟨c.w.heap.size, q.sz, m, m, false⟩) (B := .rows e q.sz (List.replicate m (q.z.map nrm))) rfl rfl rfl
              (fun d hd hrel hr0 => by
                refine rows_new (w := c.w) (by rw [hd]) (by simp) ?_ (fun x hx => by rw [List.eq_of_mem_replicate hx, List.length_map]; exact hq.zsz) hsz (by simpa using hm) (fun v hv => ?_)
                · rw [hmade]
                  exact (nrm_r0s (hz2.imp fun _ _ _ h => hr0 _ _ h)).flatten m
                · rw [hmade] at hv
                  obtain ⟨l, hl, hv⟩ := List.mem_flatten.1 hv
                  rw [List.eq_of_mem_replicate hl] at hv
                  exact hz1 v hv) (fun d hd => .rowf hd)
            refine ⟨_, h, Ex.value (by rw [ho]) (v := .slice (some ⟨c.w.heap.size, 0, none⟩) m m) ?_ hs⟩
            simp only [execOp, ho]
            refine run_v ?_
            rw [ex, ey, hd']
            exact hrun
          · exact h.elim
        · exact h.elim
      · exact h.elim
    · exact h.elim
  · exact h.elim
end
end Go.Proofs.Ytcmciimogcfakaa

/- An operation does what the walk says of it: slice literals, append. -/
set_option linter.unusedVariables false
set_option linter.unusedSimpArgs false
namespace Go.Proofs.Ytcmciimogcfakaa
open Go Go.RowKit

section
variable {P : Program} {Γ : Nat → Option TI} {o : Oper} {a : Act} {c : Cx} {L : Nat → Blk} {np j : Nat} {ρ : Operand → AV} {k : Eff → Prop}

theorem splice_all {α : Type} {y z : List α} (h : z.length = y.length) : splice y 0 z = z := by
  unfold splice
  simp [h]
theorem bldS_sound {z : List AV} {sz : Nat} (hzl : z.length = sz) (hρ : ∀ x, Rel c (ρ x) (a.eval x)) : ∀ (ps : List (Nat × Operand)) (xs : List (List AV)) (cells : Array Value) {k : List (List AV) → Prop},
    (∀ x ∈ xs, x.length = sz) → F2 (R0 c.w c.ok) xs.flatten cells.toList → (∀ v ∈ cells.toList, v.oneCell' = true) → bldS z ρ ps xs k →
    ∃ (xs' : List (List AV)) (cells' : Array Value), k xs' ∧ (∀ x ∈ xs', x.length = sz) ∧ xs'.length = xs.length ∧ F2 (R0 c.w c.ok) xs'.flatten cells'.toList ∧ (∀ v ∈ cells'.toList, v.oneCell' = true) ∧
      Instr.fill (fun i => some (i * sz, sz)) cells (ps.map fun p => (p.1, a.eval p.2)) = some cells'
  | [], xs, cells, k, hl, h2, h1, h => ⟨xs, cells, h, hl, rfl, h2, h1, rfl⟩
  | (f, x) :: ps, xs, cells, k, hl, h2, h1, h => by
    simp only [bldS, frc_eq, frcL_eq] at h
    split at h
    · rename_i ys hy
      split at h
      · rename_i hb
        simp only [Bool.and_eq_true] at hb
        obtain ⟨⟨hb1, hb2⟩, hb3⟩ := hb
        have hb1 := Nat.eq_of_beq_eq_true hb1
        rw [List.length_map] at hb1
        have hb3 : f < xs.length := by simpa [Nat.blt_eq] using hb3
        obtain ⟨g1, g2⟩ := cells_ne (hρ x) hy
        have hp := pures_rel g1 hb2
        have hlen : cells.toList.length = xs.length * sz := by rw [← h2.length, flatten_len hl]
        have hle : f * sz + sz ≤ xs.length * sz := by rw [← Nat.succ_mul]; exact Nat.mul_le_mul_right _ hb3
        have hfx : xs[f]? = some xs[f] := List.getElem?_eq_getElem hb3
        have hfl := hl _ (List.mem_of_getElem? hfx)
        have hset := flatten_set hl hfx 0 (ys.map nrm) (by simp [hb1, hzl, hfl])
        rw [splice_all (by simp [hb1, hzl, hfl]), Nat.add_zero] at hset
        have ih := bldS_sound hzl hρ ps (xs.set f (ys.map nrm)) (splice cells.toList (f * sz) (a.eval x).cells.toList).toArray (k := k) (fun x hx => by
          rcases List.mem_or_eq_of_mem_set hx with hx | rfl
          · exact hl x hx
          · simp [hb1, hzl]) (by rw [hset]; simpa using h2.splice hp _) (fun v hv => by
          simp only [splice] at hv
          rcases List.mem_append.1 hv with hv | hv
          · rcases List.mem_append.1 hv with hv | hv
            · exact h1 v (List.mem_of_mem_take hv)
            · exact r0_ones hp (pureC_all hb2) v hv
          · exact h1 v (List.mem_of_mem_drop hv)) h
        simp only [List.length_set] at ih
        simp only [List.map_cons]
        rw [fill_one (off := f * sz) (size := sz) rfl (by rw [g2, hb1, hzl]) (by simp at hlen; omega)]
        exact ih
      · exact h.elim
    · exact h.elim
theorem run_bs {w : World} {t e n : Nat} {parts : Array (Nat × Value)} {cells : Array Value} {ie : TypeInfo} {z : Value} (hu : P.underlying t = some (.slice e)) (hie : P.info? e = some ie) (hz : ie.zero = some z) (hsmall : n * ie.size ≤ 16777216)
    (h : Instr.fill (fun i => some (i * ie.size, ie.size)) (madeCells z.cells (n * ie.size)) parts.toList = some cells) : (Instr.buildSlice t n parts).run P w = .ok (.slice (some ⟨w.heap.size, 0, none⟩) n n) (w.alloc (.cells cells e)) := by
  have hs : ¬ n * ie.size > 2 ^ 24 := by simp only [show (2 : Nat) ^ 24 = 16777216 from rfl]; omega
  by_cases h0 : n * ie.size = 0
  · rw [h0] at h
    have hr0 : Array.range 0 = #[] := rfl
    have h' : Instr.fill (fun i => some (i * ie.size, ie.size)) #[] parts.toList = some cells := by
      rw [← h]
      simp [madeCells, hr0]
    simp [Instr.buildSlice, run_underlying hu, sizeOf, typeInfo, zeroValue, hie, hz, h0, hr0, h', newRow]
  · simp only [madeCells] at h
    simp [Instr.buildSlice, run_underlying hu, sizeOf, typeInfo, zeroValue, hie, hz, hs, h0, h, newRow]
theorem ex_buildSlice {t n : Nat} {ps : Array (Nat × Operand)} (hT : TyOk P Γ) (hnp : np ≤ j) (ho : o.op = .buildSlice t n ps) (hg : Good c L) (hρ : ∀ x, Rel c (ρ x) (a.eval x)) (h : vcE P Γ np o ρ L j k) : ∃ e, k e ∧ Ex P o a c L np e := by
  simp only [vcE, ho, frc_eq, frcL_eq] at h
  split at h
  · rename_i i hi
    obtain ⟨d, hd, hk⟩ := (hT _ _ hi).und
    split at h
    · rename_i e hik
      rw [hik] at hk
      simp only [TK.ok] at hk
      subst hk
      split at h
      · rename_i q hq
        have hq := hT _ _ hq
        obtain ⟨it, z, hit, hs1, hs2, hz, hz2, hz1⟩ := z_rel (c := c) hq
        have hzl : z.cells.size = q.sz := by rw [← hq.zsz, hz2.length]; simp
        by_cases hsz : 0 < q.sz
        · have hmade : (madeCells z.cells (n * it.size)).toList = (List.replicate n z.cells.toList).flatten := madeCells_list _ _ _ (by rw [hs1, hzl]) (by omega)
          obtain ⟨xs', cells', hk, hl', hlen, h2, h1, hf⟩ := bldS_sound (a := a) (c := c) (sz := q.sz) hq.zsz hρ ps.toList (List.replicate n (q.z.map nrm)) (madeCells z.cells (n * it.size)) (fun x hx => by rw [List.eq_of_mem_replicate hx, List.length_map]; exact hq.zsz)
            (by rw [hmade]; exact (nrm_r0s hz2).flatten n) (fun v hv => by
              rw [hmade] at hv
              obtain ⟨l, hl, hv⟩ := List.mem_flatten.1 hv
              rw [List.eq_of_mem_replicate hl] at hv
              exact hz1 v hv) h
          simp only [List.length_replicate] at hlen
          split at hk
          · rename_i hj hpc _ hsm
            have hsm := Nat.le_of_ble_eq_true hsm
            have hn : n ≤ maxLen := by
              have : n * 1 ≤ n * q.sz := Nat.mul_le_mul_left _ hsz
              simp only [maxLen]
              omega
            rw [← hs1] at hf
            have hrun := run_bs (P := P) (w := c.w) (parts := ps.map fun (i, x) => (i, a.eval x)) hd hit hz (by rw [hs1]; exact hsm) (by rw [parts_list]; exact hf)
            obtain ⟨d', hd', hs⟩ := Stp.alloc (np := np) (rd := [j]) (x := .rowf j) (v := .slice (some ⟨c.w.heap.size, 0, none⟩) n n) hg hnp hj (.cells cells' e (0, 0)) (e := ⟨c.w.heap.size, q.sz, n, n, false⟩) (B := .rows e q.sz xs') rfl rfl rfl
              (fun d hd hrel hr0 => rows_new (w := c.w) (by rw [hd]) (by rw [hlen]) (h2.imp fun _ _ _ h => hr0 _ _ h) hl' hsz (by rw [hlen]; exact hn) h1) (fun d hd => .rowf hd)
            refine ⟨_, hk, Ex.value (by rw [ho]) (v := .slice (some ⟨c.w.heap.size, 0, none⟩) n n) ?_ hs⟩
            simp only [execOp, ho]
            refine run_v ?_
            rw [hd']
            exact hrun
          · exact hk.elim
        · exfalso
          have hno : Nat.blt 0 q.sz = false := by
            cases hb : Nat.blt 0 q.sz with
            | false => rfl
            | true => exact absurd (by simpa [Nat.blt_eq] using hb) hsz
          have key : ∀ (ps : List (Nat × Operand)) (xs : List (List AV)), ¬ bldS q.z ρ ps xs fun xs => match (L j).alive, (q.z.map nrm).all AV.pureC, Nat.blt 0 q.sz, Nat.ble (n * q.sz) 16777216 with
              | false, true, true, true => k { v := .rowf j, wr := [(j, .rows e q.sz xs)], rd := [j], al := 1 }
              | _, _, _, _ => False := by
            intro ps
            induction ps with
            | nil =>
              intro xs h
              simp only [bldS, hno] at h
              split at h <;> simp_all
            | cons p ps ih =>
              intro xs h
              obtain ⟨f, x⟩ := p
              simp only [bldS, frc_eq, frcL_eq] at h
              split at h
              · split at h
                · exact ih _ h
                · exact h
              · exact h
          exact key _ _ h
      · exact h.elim
    · exact h.elim
  · exact h.elim

/-- The elements that are appended. -/
theorem elems_sound (hg : Good c L) {x : AV} {v : Value} (hx : Rel c x v) {K : List (List AV) → List Nat → Prop} (h : elems L x K) : ∃ (ys : List (List AV)) (rd : List Nat), K ys rd ∧ ∃ A cc, v = .slice A ys.length cc ∧
    ∀ sz, (∀ y ∈ ys, y.length = sz) → ∃ news : List Value, F2 (R0 c.w c.ok) ys.flatten news ∧ (ys = [] ∨ ∃ ad, A = some ad ∧ ∀ j u, news[j]? = some u → c.w.cell? (ad.add j) = some u) := by
  have sl : ∀ {xs : List (List AV)}, SlAt c xs v → ∃ A cc, v = .slice A xs.length cc ∧
      ∀ sz, (∀ y ∈ xs, y.length = sz) → ∃ news : List Value, F2 (R0 c.w c.ok) xs.flatten news ∧ (xs = [] ∨ ∃ ad, A = some ad ∧ ∀ j u, news[j]? = some u → c.w.cell? (ad.add j) = some u) := fun {xs} hs => by
    obtain ⟨A, cc, hv, hcc, hat⟩ := hs.at_
    refine ⟨A, cc, hv, fun sz hz => ?_⟩
    rcases Nat.eq_zero_or_pos xs.length with h0 | h0
    · have := List.eq_nil_of_length_eq_zero h0
      subst this
      exact ⟨[], .nil, .inl rfl⟩
    · obtain ⟨b, off, sz', us, rfl, hb, hz', h1, h2⟩ := hat h0
      have hl := flatten_len hz'
      refine ⟨(List.range (xs.length * sz')).map us, F2.of_get (by rw [hl]; simp) fun i av u ha hu => ?_, .inr ⟨_, rfl, fun q u hu => ?_⟩⟩
      · obtain ⟨q, hq, rfl⟩ := get_map hu
        obtain ⟨hlt, he⟩ := List.getElem?_eq_some_iff.1 hq
        simp at he
        subst he
        exact h2 _ _ ha
      · obtain ⟨q', hq, rfl⟩ := get_map hu
        obtain ⟨hlt, he⟩ := List.getElem?_eq_some_iff.1 hq
        simp at he hlt
        subst he
        rw [add_at]
        exact h1 _ hlt
  unfold elems at h
  split at h
  · refine ⟨[], [], h, none, 0, hx.nilsl_inv, fun sz _ => ⟨[], .nil, .inl rfl⟩⟩
  · exact ⟨_, _, h, sl hx.sl_inv⟩
  · exact ⟨_, _, h, sl hx.slc_inv.1⟩
  · rename_i b
    obtain ⟨e, hμ, rfl⟩ := hx.rowf_inv
    obtain ⟨e', hμ', hB⟩ := hg.blk b (hg.dom b e hμ)
    rw [hμ] at hμ'; cases hμ'
    split at h
    · rename_i ty s xs hL
      rw [hL] at hB
      refine ⟨_, _, h, ?_⟩
      cases hn : e.nil with
      | true =>
        have := rows_nil hB hn
        subst this
        exact ⟨none, 0, Ent.val_nil hn, fun sz _ => ⟨[], .nil, .inl rfl⟩⟩
      | false =>
        obtain ⟨cur, vs, hh, h2, hs, hn', hz, h0, hc, hm, hcs', ht, h4⟩ := rows_at hB hn
        refine ⟨some ⟨e.b, 0, none⟩, e.cap, by rw [Ent.val_at hn, hn'], fun sz _ => ⟨vs, h2, .inr ⟨_, rfl, fun q u hu => ?_⟩⟩⟩
        rw [add_at, Nat.zero_add, cell_of hh]
        rw [← ht, List.getElem?_take] at hu
        split at hu
        · simpa using hu
        · cases hu
    · exact h.elim
  · exact h.elim
theorem two_ {α : Type} {x : Array α} {p q : α} (h : x.toList = [p, q]) : x = #[p, q] := by cases x; simp_all
end
end Go.Proofs.Ytcmciimogcfakaa

/- An operation does what the walk says of it: append. -/
set_option linter.unusedVariables false
set_option linter.unusedSimpArgs false
namespace Go.Proofs.Ytcmciimogcfakaa
open Go Go.RowKit

section
variable {P : Program} {Γ : Nat → Option TI} {o : Oper} {a : Act} {c : Cx} {L : Nat → Blk} {np j : Nat} {ρ : Operand → AV} {k : Eff → Prop}

theorem Stp.drew {e : Eff} {v : Value} {d : Cx} (hg : Good c L) (h : Stp ⟨c.w.drew, c.ok, c.μ, c.yl⟩ L np e v d) : Stp c L np e v d := by
  obtain ⟨_, h2, h3⟩ := hg.drew
  exact ⟨h2.trans h.fr, h.good, fun a v hr => h.tr a v (h3 a v hr), h.val, h.pin⟩
theorem run_append_none {w : World} {t ty e : Nat} {q : TI} (ht : P.underlying t = some (.slice e)) (hq : TyF P e q) (A B : Option Addr) (n cap cc : Nat) (hn : n ≤ cap) :
    (Builtin.append_ #[t, t] ty #[.slice A n cap, .slice B 0 cc]).run P w = .ok (.slice A n cap) w := by
  cases A <;> cases B <;> simp [Builtin.append_, run_underlying ht, run_sizeOf_of hq, Builtin.lenOf, hn, Builtin.firstCells, loadCells, loadCellsFrom, storeCells]
theorem run_grow {w : World} {t ty e : Nat} {it : TypeInfo} {z : Value} (ht : P.underlying t = some (.slice e)) (hi : P.info? e = some it) (hz : it.zero = some z) (A : Option Addr) (n : Nat) (olds : List Value) (hlo : olds.length = n * it.size)
    (holds : n = 0 ∨ ∃ b, A = some b ∧ ∀ j v, olds[j]? = some v → w.cell? (b.add j) = some v) (ad : Addr) (m cc : Nat) (news : List Value) (hl : news.length = m * it.size) (hnews : ∀ j v, news[j]? = some v → w.cell? (ad.add j) = some v)
    (hm : 0 < m) (hb : (n + m) * it.bytes ≤ 140737488355328) (hmax : n + m ≤ maxLen) :
    ∃ cap, n + m ≤ cap ∧ cap ≤ maxLen ∧ (Builtin.append_ #[t, t] ty #[.slice A n n, .slice (some ad) m cc]).run P w = .ok (.slice (some ⟨w.heap.size, 0, none⟩) (n + m) cap)
      (w.drew.alloc (.cells (olds.toArray ++ news.toArray ++ Builtin.zeroCells z.cells (cap - (n + m))) e)) := by
  have hmx := hmax
  simp only [maxLen] at hmx
  refine ⟨grownCap w (n + m) n e, grownCap_ge w _ _ e, grownCap_le_maxLen w _ _ e hmax, ?_⟩
  cases A with
  | some b =>
    have holds' : ∀ j v, olds[j]? = some v → w.cell? (b.add j) = some v := by
      rcases holds with rfl | ⟨b', hb', h⟩
      · intro j v hj
        rw [Nat.zero_mul] at hlo
        rw [List.eq_nil_of_length_eq_zero hlo] at hj
        simp at hj
      · cases hb'; exact h
    exact run_append_grow (P := P) w t ty e it z ht hi hz b n n olds hlo holds' ad m cc news hl hnews (by omega) (by omega) (growslice_fits (by omega) hb)
  | none =>
    obtain rfl : n = 0 := by rcases holds with h | ⟨b, hb, _⟩ <;> first | exact h | cases hb
    rw [Nat.zero_mul] at hlo
    obtain rfl := List.eq_nil_of_length_eq_zero hlo
    have := run_append_nil (P := P) w t ty e it z ht hi hz ad m cc news hl hnews hm (by omega) (by rw [Nat.zero_add] at hb; omega)
    simpa using this
/-- A new row, grown: its elements, and spare cells behind them. -/
theorem grow_stp {e : Nat} {q : TI} {z : Value} (hg : Good c L) (hnp : np ≤ j) (hj : (L j).alive = false) (hz : z.cells.size = q.sz) (h0 : 0 < q.sz) {n cap : Nat} {vs : List Value} {xs : List (List AV)} (h2 : F2 (R0 c.w c.ok) xs.flatten vs) (hxl : ∀ x ∈ xs, x.length = q.sz) (hn : n = xs.length) (hcap : n ≤ cap) (hmx : cap ≤ maxLen)
    (h1 : ∀ v ∈ vs, v.oneCell' = true) {cur : Array Value} (hcur : cur = vs.toArray ++ Builtin.zeroCells z.cells (cap - n)) (rd : List Nat) :
    ∃ d, d.w = c.w.drew.alloc (.cells cur e) ∧ Stp c L np { v := .rowf j, wr := [(j, .rows e q.sz xs)], rd := rd, al := 1 } (.slice (some ⟨c.w.heap.size, 0, none⟩) n cap) d := by
  have hvl : vs.length = n * q.sz := by rw [← h2.length, flatten_len hxl, hn]
  have hcs : cur.size = cap * q.sz := by
    rw [hcur, Array.size_append, size_zeroCells, hz, List.size_toArray, hvl, ← Nat.add_mul]
    congr 1
    omega
  obtain ⟨g1, _, _⟩ := hg.drew
  obtain ⟨d, hd, hs⟩ := Stp.alloc (np := np) (c := ⟨c.w.drew, c.ok, c.μ, c.yl⟩) (rd := rd) (x := .rowf j) (v := .slice (some ⟨c.w.heap.size, 0, none⟩) n cap) g1 hnp hj (.cells cur e (0, 0)) (e := ⟨c.w.heap.size, q.sz, cap, n, false⟩) (B := .rows e q.sz xs) rfl rfl rfl
    (fun d hd hrel hr0 => by
      refine .rows vs ⟨hvl, .inr ⟨c.w.heap.size, cap, cur, rfl, Nat.zero_le _, by rw [hd]; exact heap_alloc_new c.w.drew _, hcap, hmx, hcs, ?_⟩⟩ (h2.imp fun _ _ _ h => hr0 _ _ (R0.mono (w := c.w) (w' := c.w.drew) (fun _ h => h) (fun _ _ => rfl) h)) rfl hn hxl h0 h1
      rw [hcur, ← hvl]
      simp) (fun d hd => .rowf hd)
  exact ⟨d, hd, hs.drew hg⟩

theorem ex_append {cl : Call} (hT : TyOk P Γ) (hnp : np ≤ j) (ho : o.op = .call cl) (hcl : cl.callee = .builtin .append) (hg : Good c L) (hρ : ∀ x, Rel c (ρ x) (a.eval x)) (h : vcE P Γ np o ρ L j k) : ∃ e, k e ∧ Ex P o a c L np e := by
  simp only [vcE, ho, hcl, frc_eq] at h
  have hnd : (match o.op with | .defer _ => true | _ => false) = false := by rw [ho]
  split at h
  · rename_i s x t t' hx0 ht0
    split at h
    · rename_i i hi htt
      have htt : t = t' := of_decide_eq_true htt
      subst htt
      obtain ⟨d, hd, hk⟩ := (hT _ _ hi).und
      split at h
      · rename_i e hik
        rw [hik] at hk
        simp only [TK.ok] at hk
        subst hk
        split at h
        · rename_i q hq
          have hq := hT _ _ hq
          obtain ⟨it, z, hit, hs1, hs2, hz, hz2, hz1⟩ := z_rel (c := c) hq
          have hzl : z.cells.size = q.sz := by rw [← hq.zsz, hz2.length]; simp
          obtain ⟨ys, rd, h, A, cc, ex, hel⟩ := elems_sound hg (hρ x) h
          have hs := hρ s
          have hrunE : ∀ {v : Value} {w' : World}, (Builtin.append_ #[t, t] o.type #[a.eval s, a.eval x]).run P c.w = .ok v w' → (execOp a.eval o).run P c.w = .ok (.value v) w' := fun {v w'} hr => by
            obtain ⟨cs, hb⟩ := run_bi (P := P) hcl ho c.w a.eval
            rw [hb, two hx0, two ht0]
            simp only [builtin, List.map_toArray, List.map_cons, List.map_nil]
            exact run_v hr
          split at h
          · rename_i b hp
            rw [hp] at hs
            obtain ⟨e0, hμ, es⟩ := hs.rowf_inv
            obtain ⟨e0', hμ', hB⟩ := hg.blk b (hg.dom b e0 hμ)
            rw [hμ] at hμ'; cases hμ'
            split at h
            · rename_i ty sz xs hL
              rw [hL] at hB
              split at h
              · rename_i hcond
                simp only [Bool.and_eq_true] at hcond
                obtain ⟨⟨⟨hnb, hty⟩, _⟩, hsz⟩ := hcond
                have hnb := Nat.le_of_ble_eq_true hnb
                have hty := Nat.eq_of_beq_eq_true hty
                have hsz := Nat.eq_of_beq_eq_true hsz
                subst hty
                subst hsz
                obtain ⟨hys, ⟨hb0, hbm⟩, h⟩ := h
                have hB' := hB
                cases hB' with
                | rows vs hown h2 hesz hn hxl h0 h1 =>
                obtain ⟨news, hnw, hat⟩ := hel q.sz fun y hy => (hys y hy).1
                have hvl : vs.length = xs.length * q.sz := by rw [← h2.length, flatten_len hxl]
                have hnl : news.length = ys.length * q.sz := by rw [← hnw.length, flatten_len fun y hy => (hys y hy).1]
                have hone : ∀ u ∈ news, u.oneCell' = true := r0_ones hnw (by
                  rw [List.all_eq_true]
                  intro u hu
                  obtain ⟨y, hy, hu⟩ := List.mem_flatten.1 hu
                  exact List.all_eq_true.1 (hys y hy).2 u hu)
                have hmax : xs.length + ys.length ≤ maxLen := by
                  have : (xs.length + ys.length) * 1 ≤ (xs.length + ys.length) * q.by_ := Nat.mul_le_mul_left _ hb0
                  simp only [maxLen]
                  omega
                rcases hat with rfl | ⟨ad, rfl, hat⟩
                · have hrun : (Builtin.append_ #[t, t] o.type #[a.eval s, a.eval x]).run P c.w = .ok e0.val c.w := by
                    rw [es, ex]
                    cases hnn : e0.nil with
                    | true => rw [Ent.val_nil hnn]; exact run_append_none hd hq _ _ _ _ _ (Nat.le_refl _)
                    | false =>
                      obtain ⟨cur, vs', _, _, _, _, _, _, hc, _⟩ := rows_at hB hnn
                      rw [Ent.val_at hnn]
                      exact run_append_none hd hq _ _ _ _ _ hc
                  rw [List.append_nil] at h
                  refine ⟨_, h, Ex.value hnd (d := c) (v := e0.val) (hrunE hrun) ?_⟩
                  exact Stp.put hg hnb rfl (upd_self hμ).symm (fun hn' => .inr ⟨e0, hμ, hn', rfl⟩) rfl rfl rfl rfl rfl (Nat.le_refl _) (fun _ _ _ => rfl) (fun _ => hB) (.rowf hμ)
                · rcases Nat.eq_zero_or_pos ys.length with hy0 | hy0
                  · obtain rfl := List.eq_nil_of_length_eq_zero hy0
                    have hrun : (Builtin.append_ #[t, t] o.type #[a.eval s, a.eval x]).run P c.w = .ok e0.val c.w := by
                      rw [es, ex]
                      cases hnn : e0.nil with
                      | true => rw [Ent.val_nil hnn]; exact run_append_none hd hq _ _ _ _ _ (Nat.le_refl _)
                      | false =>
                        obtain ⟨cur, vs', _, _, _, _, _, _, hc, _⟩ := rows_at hB hnn
                        rw [Ent.val_at hnn]
                        exact run_append_none hd hq _ _ _ _ _ hc
                    rw [List.append_nil] at h
                    refine ⟨_, h, Ex.value hnd (d := c) (v := e0.val) (hrunE hrun) ?_⟩
                    exact Stp.put hg hnb rfl (upd_self hμ).symm (fun hn' => .inr ⟨e0, hμ, hn', rfl⟩) rfl rfl rfl rfl rfl (Nat.le_refl _) (fun _ _ _ => rfl) (fun _ => hB) (.rowf hμ)
                  · rw [hn] at hown
                    obtain ⟨v', w', hr, hown', hgr, hnil, hob⟩ := run_append_own_at (P := P) c.w 0 t o.type ty it z q.sz q.by_ hd hit hz hs1 hs2 hzl h0 e0.val xs.length vs hown ad ys.length cc news hnl hat hone hmax hbm (Nat.zero_le _)
                    have hne : v' ≠ .slice none 0 0 := fun hv' => by have := (hnil.1 hv').2; omega
                    have hown2 := hown'
                    obtain ⟨hcl', hown'⟩ := hown'
                    rcases hown' with ⟨hv', _⟩ | ⟨g, cap, cur, rfl, _, hh, hcap, hmx, hcs, htk⟩
                    · exact absurd hv' hne
                    · refine ⟨_, h, Ex.value hnd (d := ⟨w', c.ok, upd c.μ b (some ⟨g, q.sz, cap, xs.length + ys.length, false⟩), c.yl⟩) (v := .slice (some ⟨g, 0, none⟩) (xs.length + ys.length) cap) (hrunE (by rw [es, ex]; exact hr)) ?_⟩
                      have hblk : ∀ b', b' < c.w.heap.size → (∀ e, c.μ b = some e → e.nil = false → b' ≠ e.b) → w'.heap[b']? = c.w.heap[b']? := fun b' hb' hne' => by
                        refine hgr.block b' hb' ?_
                        cases hnn : e0.nil with
                        | true => rw [Ent.val_nil hnn]; simp [Value.ownBlock]
                        | false => rw [Ent.val_at hnn]; simp only [Value.ownBlock, ne_eq, Option.some.injEq]; exact hne' e0 hμ hnn
                      refine Stp.put (d := ⟨w', c.ok, upd c.μ b (some ⟨g, q.sz, cap, xs.length + ys.length, false⟩), c.yl⟩) hg hnb rfl rfl (fun _ => ?_) rfl rfl hgr.os hgr.tape hgr.output hgr.size hblk (fun hr0 => ?_) ?_ (run_drawn _ _ _ _ hr)
                      · rcases hob with hob | hob
                        · cases hnn : e0.nil with
                          | true => rw [Ent.val_nil hnn] at hob; simp [Value.ownBlock] at hob
                          | false =>
                            rw [Ent.val_at hnn] at hob
                            simp only [Value.ownBlock, Option.some.injEq] at hob
                            exact .inr ⟨e0, hμ, hnn, hob.symm⟩
                        · simp only [Value.ownBlock, Option.some.injEq] at hob
                          exact .inl (by rw [hob]; exact Nat.le_refl _)
                      · refine .rows (vs ++ news) hown2 ?_ rfl (by simp) (fun x hx => ?_) h0 (fun v hv => ?_)
                        · rw [List.flatten_append]
                          exact (h2.imp fun _ _ _ h => hr0 _ _ h).append (hnw.imp fun _ _ _ h => hr0 _ _ h)
                        · rcases List.mem_append.1 hx with hx | hx
                          · exact hxl x hx
                          · exact (hys x hx).1
                        · rcases List.mem_append.1 hv with hv | hv
                          · exact h1 v hv
                          · exact hone v hv
                      · exact .rowf (e := ⟨g, q.sz, cap, xs.length + ys.length, false⟩) (upd_same _ _ _)
              · exact h.elim
            · exact h.elim
          · rename_i hp
            rw [hp] at hs
            split at h
            · rename_i y ys
              split at h
              · rename_i hj hsz
                have h0 : 0 < q.sz := by simpa [Nat.blt_eq] using hsz
                obtain ⟨hys, ⟨hb0, hbm⟩, h⟩ := h
                obtain ⟨news, hnw, hat⟩ := hel q.sz fun y hy => (hys y hy).1
                have hnl : news.length = (y :: ys).length * q.sz := by rw [← hnw.length, flatten_len fun y hy => (hys y hy).1]
                have hone : ∀ u ∈ news, u.oneCell' = true := r0_ones hnw (by
                  rw [List.all_eq_true]
                  intro u hu
                  obtain ⟨y, hy, hu⟩ := List.mem_flatten.1 hu
                  exact List.all_eq_true.1 (hys y hy).2 u hu)
                have hmax : 0 + (y :: ys).length ≤ maxLen := by
                  have : (ys.length + 1) * 1 ≤ (ys.length + 1) * q.by_ := Nat.mul_le_mul_left _ hb0
                  simp only [maxLen, List.length_cons]
                  omega
                rcases hat with hat | ⟨ad, rfl, hat⟩
                · cases hat
                · obtain ⟨cap, hcap, hmx, hr⟩ := run_grow (P := P) (w := c.w) (ty := o.type) hd hit hz none 0 [] (by simp) (.inl rfl) ad (y :: ys).length cc news (by rw [hs1]; exact hnl) hat (by simp) (by rw [hs2, Nat.zero_add]; exact hbm) hmax
                  obtain ⟨d, hd', hst⟩ := grow_stp (e := e) (z := z) hg hnp hj hzl h0 (n := 0 + (y :: ys).length) (cap := cap) hnw (fun y hy => (hys y hy).1) (by simp) hcap hmx hone (cur := ([] : List Value).toArray ++ news.toArray ++ Builtin.zeroCells z.cells (cap - (0 + (y :: ys).length))) (by simp) (j :: rd)
                  refine ⟨_, h, Ex.value hnd (hrunE ?_) hst⟩
                  rw [hs.nilsl_inv, ex, hd']
                  exact hr
              · exact h.elim
            · exact h.elim
          · rename_i xs hp
            rw [hp] at hs
            split at h
            · rename_i y ys
              split at h
              · rename_i hj hsz
                have h0 : 0 < q.sz := by simpa [Nat.blt_eq] using hsz
                obtain ⟨hys, ⟨hb0, hbm⟩, h⟩ := h
                have hys' : ∀ z ∈ y :: ys, z.length = q.sz ∧ z.all oneC = true := fun z hz => hys z (List.mem_append.2 (.inr hz))
                have hxs' : ∀ z ∈ xs, z.length = q.sz ∧ z.all oneC = true := fun z hz => hys z (List.mem_append.2 (.inl hz))
                obtain ⟨news, hnw, hat⟩ := hel q.sz fun y hy => (hys' y hy).1
                have hnl : news.length = (y :: ys).length * q.sz := by rw [← hnw.length, flatten_len fun y hy => (hys' y hy).1]
                have hmax : xs.length + (y :: ys).length ≤ maxLen := by
                  have : (xs.length + (ys.length + 1)) * 1 ≤ (xs.length + (ys.length + 1)) * q.by_ := Nat.mul_le_mul_left _ hb0
                  simp only [maxLen, List.length_cons]
                  omega
                obtain ⟨hsl, A', es⟩ := hs.slc_inv
                obtain ⟨olds, how, hold⟩ : ∃ olds : List Value, F2 (R0 c.w c.ok) xs.flatten olds ∧ (xs.length = 0 ∨ ∃ b, A' = some b ∧ ∀ j v, olds[j]? = some v → c.w.cell? (b.add j) = some v) := by
                  obtain ⟨ys2, rd2, hK, A2, cc2, e2, hel2⟩ := elems_sound (K := fun ys rd => ys = xs) hg hs (by simp [elems])
                  subst hK
                  rw [es] at e2
                  cases e2
                  obtain ⟨olds, ho1, ho2⟩ := hel2 q.sz fun z hz => (hxs' z hz).1
                  exact ⟨olds, ho1, ho2.imp (fun h => by rw [h]; rfl) fun h => h⟩
                have hol : olds.length = xs.length * q.sz := by rw [← how.length, flatten_len fun y hy => (hxs' y hy).1]
                have hone : ∀ u ∈ olds ++ news, u.oneCell' = true := r0_ones (how.append hnw) (by
                  rw [← List.flatten_append, List.all_eq_true]
                  intro u hu
                  obtain ⟨y, hy, hu⟩ := List.mem_flatten.1 hu
                  exact List.all_eq_true.1 (hys y hy).2 u hu)
                rcases hat with hat | ⟨ad, rfl, hat⟩
                · cases hat
                · obtain ⟨cap, hcap, hmx, hr⟩ := run_grow (P := P) (w := c.w) (ty := o.type) hd hit hz A' xs.length olds (by rw [hs1]; exact hol) hold ad (y :: ys).length cc news (by rw [hs1]; exact hnl) hat (by simp) (by rw [hs2]; exact hbm) hmax
                  obtain ⟨d, hd', hst⟩ := grow_stp (e := e) (z := z) hg hnp hj hzl h0 (n := xs.length + (y :: ys).length) (cap := cap) (xs := xs ++ y :: ys) (vs := olds ++ news) (by rw [List.flatten_append]; exact how.append hnw) (fun y hy => (hys y hy).1) (by simp) hcap hmx hone (cur := olds.toArray ++ news.toArray ++ Builtin.zeroCells z.cells (cap - (xs.length + (y :: ys).length))) (by simp) (j :: rd)
                  refine ⟨_, h, Ex.value hnd (hrunE ?_) hst⟩
                  rw [es, ex, hd']
                  exact hr
              · exact h.elim
            · exact h.elim
          · exact h.elim
        · exact h.elim
      · exact h.elim
    · exact h.elim
  · exact h.elim
end
end Go.Proofs.Ytcmciimogcfakaa

/- An operation does what the walk says of it: maps of whole numbers. -/
set_option linter.unusedVariables false
set_option linter.unusedSimpArgs false
namespace Go.Proofs.Ytcmciimogcfakaa
open Go Go.RowKit

section
variable {P : Program} {Γ : Nat → Option TI} {o : Oper} {a : Act} {c : Cx} {L : Nat → Blk} {np j : Nat} {ρ : Operand → AV} {k : Eff → Prop}

/-- What is found under a number. -/
theorem find_map {R : AV → Value → Prop} (kt : IntKind) (n : Int) : ∀ {es : List (Int × AV)} {l : List MapEntry} (_ : F2 (fun (p : Int × AV) (m : MapEntry) => m.key = .int kt p.1 ∧ R p.2 m.val) es l) (i : Nat),
    (mapGet es n = none ∧ (∀ v, mapSet es n v = es ++ [(n, v)]) ∧ mapDel es n = es ∧ Instr.findNow (.int kt) (.int kt n) l i = some none) ∨
    ∃ (q : Nat) (v : AV) (m : MapEntry), mapGet es n = some v ∧ l[q]? = some m ∧ m.key = .int kt n ∧ R v m.val ∧ (∀ v, mapSet es n v = es.set q (n, v)) ∧ mapDel es n = es.eraseIdx q ∧ q < es.length ∧ Instr.findNow (.int kt) (.int kt n) l i = some (some (i + q, m.val)) := by
  intro es l h
  induction h with
  | nil => exact fun i => .inl ⟨rfl, fun _ => rfl, rfl, rfl⟩
  | @cons p m es l hr ht ih =>
    intro i
    obtain ⟨hk, hv⟩ := hr
    by_cases hp : p.1 = n
    · refine .inr ⟨0, p.2, m, by simp [mapGet, List.find?_cons, hp], rfl, by rw [hk, hp], hv, fun v => by simp [mapSet, hp], by simp [mapDel, hp], by simp, by simp [Instr.findNow, Instr.sameNow, hk, hp]⟩
    · have hg : mapGet (p :: es) n = mapGet es n := by
        unfold mapGet
        rw [List.find?_cons_of_neg (by simpa using hp)]
      have hf : Instr.findNow (.int kt) (.int kt n) (m :: l) i = Instr.findNow (.int kt) (.int kt n) l (i + 1) := by
        have : (n == p.1) = false := by simpa using fun h => hp h.symm
        simp [Instr.findNow, Instr.sameNow, hk, this]
      rcases ih (i + 1) with ⟨h1, h2, h3, h4⟩ | ⟨q, v, m', h1, h2, h3, h4, h5, h6, h7, h8⟩
      · exact .inl ⟨by rw [hg, h1], fun v => by simp [mapSet, hp, h2], by simp [mapDel, hp, h3], by rw [hf, h4]⟩
      · refine .inr ⟨q + 1, v, m', by rw [hg, h1], by simpa using h2, h3, h4, fun v => by simp [mapSet, hp, h5], by simp [mapDel, hp, h6], by simpa using h7, ?_⟩
        rw [hf, h8]
        congr 3
        omega
theorem one_zero {q : TI} {e : Nat} (hq : TyF P e q) (ha : q.k.isAgg = false) {z : AV} (hz : q.z = [z]) : ∃ v : Value, R0 c.w c.ok z v ∧ ∀ w, (zeroValue e).run P w = .ok v w := by
  obtain ⟨it, v, hit, hzz, h1, hcs⟩ := hq.one ha
  refine ⟨v, ?_, fun w => by simp [zeroValue, typeInfo, hit, hzz]⟩
  have : v.cells = #[v] := by cases v <;> first | rfl | cases h1
  rw [this, hz] at hcs
  simp only [List.map_cons, List.map_nil, List.cons.injEq, and_true] at hcs
  rw [← hcs]
  exact ofV_r0 _ _ _
theorem ex_lookup {t : Nat} {m x : Operand} {cok : Bool} (hT : TyOk P Γ) (ho : o.op = .lookup t m x cok) (hg : Good c L) (hρ : ∀ x, Rel c (ρ x) (a.eval x)) (h : vcE P Γ np o ρ L j k) : ∃ e, k e ∧ Ex P o a c L np e := by
  simp only [vcE, ho, frc_eq] at h
  have hm := hρ m
  have hx := hρ x
  split at h
  · rename_i i hi
    obtain ⟨d, hd, hk⟩ := (hT _ _ hi).und
    split at h
    · rename_i kt e hik
      rw [hik] at hk
      simp only [TK.ok] at hk
      subst hk
      split at h
      · rename_i qk hqk
        obtain ⟨dk, hdk, hkk⟩ := (hT _ _ hqk).und
        split at h
        · rename_i kq hikq
          rw [hikq] at hkk
          simp only [TK.ok] at hkk
          subst hkk
          split at h
          · rename_i q hq
            have hq := hT _ _ hq
            split at h
            · rename_i b kx n hp hn
              rw [hp] at hm
              rw [hn] at hx
              have ex := hx.int_inv
              obtain ⟨e', hμ, hnn, em⟩ := hm.mp_inv
              obtain ⟨e'', hμ', hB⟩ := hg.blk b (hg.dom b e' hμ)
              rw [hμ] at hμ'; cases hμ'
              split at h
              · rename_i kk es hL
                rw [hL] at hB
                split at h
                · rename_i hc
                  simp only [Bool.and_eq_true, decide_eq_true_eq] at hc
                  obtain ⟨rfl, rfl⟩ := hc
                  cases hB with
                  | map _ ms clock hh h2 =>
                  obtain ⟨r, hr, h⟩ := h
                  have hck := fun em => MapKept.run_checkKey (P := P) (w := c.w) (k := .int kq n) hdk rfl em 9999
                  have hrun : ∀ {u : Value} {found : Bool} {r : Option (Nat × Value)}, (Instr.findKey kt (.int kq n) ms.toList).run P c.w = .ok r c.w → (match r with | some p => u = p.2 ∧ found = true | none => found = false ∧ (zeroValue e).run P c.w = .ok u c.w) →
                      (execOp a.eval o).run P c.w = .ok (.value (if cok then .tuple #[u, .bool found] else u)) c.w := fun {u found r} hf hr => by
                    simp only [execOp, ho]
                    refine run_v ?_
                    rw [ex, em]
                    simp only [Instr.lookup, Sem.run_bind, run_underlying hd, Result.andThen_ok, MapKept.run_getObj_map hh, hck, Sem.run_pure, hf]
                    rcases r with _ | ⟨i, v⟩
                    · obtain ⟨rfl, hz⟩ := hr
                      simp [hz]
                    · obtain ⟨rfl, rfl⟩ := hr
                      simp
                  rcases find_map kq n h2 0 with ⟨g1, _, _, g4⟩ | ⟨p, v, m', g1, _, _, g4, _, _, _, g8⟩
                  · rw [g1] at hr
                    subst hr
                    have hf := MapKept.run_findKey (P := P) (w := c.w) hdk g4
                    split at h
                    · rename_i hh1; cases hh1
                    · split at h
                      · rename_i z hz ha
                        obtain ⟨u, hu, hz0⟩ := one_zero (c := c) hq ha hz
                        refine ⟨_, h, Ex.pureV hg (by rw [ho]) (hrun (u := u) (found := false) hf ⟨rfl, hz0 _⟩) ?_⟩
                        exact .pure (.tup (vs := [u, .bool false]) rfl fun i a v h1 h2 => by
                          rcases i with _ | _ | i <;> simp at h1 h2
                          · subst h1; subst h2; exact hu
                          · subst h1; subst h2; exact .bool _)
                      · exact h.elim
                    · rename_i hh1; cases hh1
                    · split at h
                      · rename_i z hz ha
                        obtain ⟨u, hu, hz0⟩ := one_zero (c := c) hq ha hz
                        exact ⟨_, h, Ex.pureV hg (by rw [ho]) (hrun (u := u) (found := false) hf ⟨rfl, hz0 _⟩) (.pure hu)⟩
                      · exact h.elim
                  · rw [g1] at hr
                    subst hr
                    have hf := MapKept.run_findKey (P := P) (w := c.w) hdk g8
                    split at h
                    · rename_i v' hh1
                      cases hh1
                      refine ⟨_, h, Ex.pureV hg (by rw [ho]) (hrun (u := m'.val) (found := true) hf ⟨rfl, rfl⟩) ?_⟩
                      exact .pure (.tup (vs := [m'.val, .bool true]) rfl fun i a v h1 h2 => by
                        rcases i with _ | _ | i <;> simp at h1 h2
                        · subst h1; subst h2; exact g4
                        · subst h1; subst h2; exact .bool _)
                    · rename_i hh1; cases hh1
                    · rename_i v' hh1
                      cases hh1
                      exact ⟨_, h, Ex.pureV hg (by rw [ho]) (hrun (u := m'.val) (found := true) hf ⟨rfl, rfl⟩) (.pure g4)⟩
                    · rename_i hh1; cases hh1
                · exact h.elim
              · exact h.elim
            · exact h.elim
          · exact h.elim
        · exact h.elim
      · exact h.elim
    · exact h.elim
  · exact h.elim
theorem pureC_r0 {av : AV} {v : Value} (h : Rel c av v) (hp : av.pureC = true) : R0 c.w c.ok av v := by
  cases h with
  | pure h => exact h
  | _ => cases hp
theorem F2.modify {α β : Type} {R : α → β → Prop} {l : List α} {m : List β} (h : F2 R l m) (i : Nat) (f : β → β) {a : α} (hr : ∀ b, m[i]? = some b → R a (f b)) : F2 R (l.set i a) (m.modify i f) := by
  induction h generalizing i with
  | nil => simpa using F2.nil
  | cons h0 ht ih => cases i with
    | zero => exact .cons (hr _ rfl) ht
    | succ i => simpa using F2.cons h0 (ih i fun b hb => hr b (by simpa using hb))
theorem F2.erase {α β : Type} {R : α → β → Prop} {l : List α} {m : List β} (h : F2 R l m) (i : Nat) : F2 R (l.eraseIdx i) (m.eraseIdx i) := by
  induction h generalizing i with
  | nil => simpa using F2.nil
  | cons h0 ht ih => cases i with
    | zero => exact ht
    | succ i => simpa using F2.cons h0 (ih i)
theorem ex_mapUpdate {t : Nat} {m x y : Operand} (hT : TyOk P Γ) (ho : o.op = .mapUpdate t m x y) (hg : Good c L) (hρ : ∀ x, Rel c (ρ x) (a.eval x)) (h : vcE P Γ np o ρ L j k) : ∃ e, k e ∧ Ex P o a c L np e := by
  simp only [vcE, ho, frc_eq] at h
  have hm := hρ m
  have hx := hρ x
  have hy := hρ y
  split at h
  · rename_i i hi
    obtain ⟨d, hd, hk⟩ := (hT _ _ hi).und
    split at h
    · rename_i kt e hik
      rw [hik] at hk
      simp only [TK.ok] at hk
      subst hk
      split at h
      · rename_i qk hqk
        obtain ⟨dk, hdk, hkk⟩ := (hT _ _ hqk).und
        split at h
        · rename_i kq hikq
          rw [hikq] at hkk
          simp only [TK.ok] at hkk
          subst hkk
          split at h
          · rename_i b kx n hp hn
            rw [hp] at hm
            rw [hn] at hx
            have ex := hx.int_inv
            obtain ⟨e', hμ, hnn, em⟩ := hm.mp_inv
            obtain ⟨e'', hμ', hB⟩ := hg.blk b (hg.dom b e' hμ)
            rw [hμ] at hμ'; cases hμ'
            split at h
            · rename_i kk es hL
              rw [hL] at hB
              split at h
              · rename_i hc
                simp only [Bool.and_eq_true, decide_eq_true_eq] at hc
                obtain ⟨⟨rfl, rfl⟩, hpc⟩ := hc
                cases hB with
                | map _ ms clock hh h2 =>
                have hck := fun em => MapKept.run_checkKey (P := P) (w := c.w) (k := .int kq n) hdk rfl em 9999
                have hyp : R0 c.w c.ok (ρ y) (a.eval y) := pureC_r0 hy hpc
                rcases find_map kq n h2 0 with ⟨_, g2, _, g4⟩ | ⟨p, v, m', _, g2, g3, _, g5, _, _, g8⟩
                · have hf := MapKept.run_findKey (P := P) (w := c.w) hdk g4
                  obtain ⟨d, hd', hs⟩ := Stp.write (np := np) (rd := [b]) (x := .und) (v := undef) hg (.map (ms.push { key := .int kq n, val := a.eval y, born := clock }) (clock + 1)) hμ hnn (B := .map kq (mapSet es n (ρ y))) rfl
                    (fun d hd hok hrel hr0 => by
                      refine .map hnn _ _ (by rw [hd]; exact World.putObj_heap_same (hg.lt ⟨b, e', hμ, hnn, rfl⟩)) ?_
                      rw [g2, Array.toList_push]
                      exact (h2.imp fun _ _ _ h => ⟨h.1, hr0 _ _ h.2⟩).append (.cons ⟨rfl, hr0 _ _ hyp⟩ .nil)) (fun _ _ => .und)
                  refine ⟨_, h, Ex.skip (by rw [ho]) ?_ hs⟩
                  simp only [execOp, ho]
                  refine run_u ?_
                  rw [ex, em, hd']
                  simp [Instr.mapUpdate, run_underlying hd, MapKept.run_getObj_map hh, hck, hf, MapKept.run_setObj_map _ hh, World.putObj]
                · have hf := MapKept.run_findKey (P := P) (w := c.w) hdk g8
                  have hkey : (((ms[0 + p]?).map (·.key)).getD (.int kq n)) = .int kq n := by
                    rw [Nat.zero_add, ← Array.getElem?_toList, g2]
                    exact g3
                  have hks := MapKept.run_keyThatStays (P := P) (w := c.w) (d := .int kq) (k := .int kq n) rfl
                  obtain ⟨d, hd', hs⟩ := Stp.write (np := np) (rd := [b]) (x := .und) (v := undef) hg (.map (ms.modify (0 + p) fun e => { e with key := .int kq n, val := a.eval y }) clock) hμ hnn (B := .map kq (mapSet es n (ρ y))) rfl
                    (fun d hd hok hrel hr0 => by
                      refine .map hnn _ _ (by rw [hd]; exact World.putObj_heap_same (hg.lt ⟨b, e', hμ, hnn, rfl⟩)) ?_
                      rw [g5, Array.toList_modify, Nat.zero_add]
                      exact (h2.imp fun _ _ _ h => ⟨h.1, hr0 _ _ h.2⟩).modify p _ fun b hb => ⟨rfl, hr0 _ _ hyp⟩) (fun _ _ => .und)
                  refine ⟨_, h, Ex.skip (by rw [ho]) ?_ hs⟩
                  simp only [execOp, ho]
                  refine run_u ?_
                  rw [ex, em, hd']
                  simp only [Instr.mapUpdate, Sem.run_bind, run_underlying hd, Result.andThen_ok, MapKept.run_getObj_map hh, hck, hf, hkey, hks, MapKept.run_setObj_map _ hh, World.putObj]
              · exact h.elim
            · exact h.elim
          · exact h.elim
        · exact h.elim
      · exact h.elim
    · exact h.elim
  · exact h.elim
theorem ex_delete {cl : Call} (hT : TyOk P Γ) (ho : o.op = .call cl) (hcl : cl.callee = .builtin .delete) (hg : Good c L) (hρ : ∀ x, Rel c (ρ x) (a.eval x)) (h : vcE P Γ np o ρ L j k) : ∃ e, k e ∧ Ex P o a c L np e := by
  simp only [vcE, ho, hcl, frc_eq] at h
  have hnd : (match o.op with | .defer _ => true | _ => false) = false := by rw [ho]
  split at h
  · rename_i m x t tl hx0 ht0
    have hm := hρ m
    have hx := hρ x
    split at h
    · rename_i i hi
      obtain ⟨d, hd, hk⟩ := (hT _ _ hi).und
      split at h
      · rename_i kt e hik
        rw [hik] at hk
        simp only [TK.ok] at hk
        subst hk
        split at h
        · rename_i qk hqk
          obtain ⟨dk, hdk, hkk⟩ := (hT _ _ hqk).und
          split at h
          · rename_i kq hikq
            rw [hikq] at hkk
            simp only [TK.ok] at hkk
            subst hkk
            split at h
            · rename_i b kx n hp hn
              rw [hp] at hm
              rw [hn] at hx
              have ex := hx.int_inv
              obtain ⟨e', hμ, hnn, em⟩ := hm.mp_inv
              obtain ⟨e'', hμ', hB⟩ := hg.blk b (hg.dom b e' hμ)
              rw [hμ] at hμ'; cases hμ'
              split at h
              · rename_i kk es hL
                rw [hL] at hB
                split at h
                · rename_i hc
                  simp only [Bool.and_eq_true, decide_eq_true_eq] at hc
                  obtain ⟨rfl, rfl⟩ := hc
                  cases hB with
                  | map _ ms clock hh h2 =>
                  have hck := fun em => MapKept.run_checkKey (P := P) (w := c.w) (k := .int kq n) hdk rfl em 9999
                  have hat : cl.argTypes[0]? = some t := by rw [← Array.getElem?_toList, ht0]; rfl
                  have hrunE : ∀ {ob : Obj}, (Builtin.delete_ cl.argTypes o.type #[.map (some e'.b), .int kq n]).run P c.w = .ok (.tuple #[]) (c.w.putObj e'.b ob) → (execOp a.eval o).run P c.w = .ok (.value (.tuple #[])) (c.w.putObj e'.b ob) := fun {ob} hr => by
                    obtain ⟨cs, hb⟩ := run_bi (P := P) hcl ho c.w a.eval
                    rw [hb, two hx0]
                    simp only [builtin, List.map_toArray, List.map_cons, List.map_nil, ex, em]
                    exact run_v hr
                  rcases find_map kq n h2 0 with ⟨_, _, g3, g4⟩ | ⟨p, v, m', _, g2, _, _, _, g6, _, g8⟩
                  · have hf := MapKept.run_findKey (P := P) (w := c.w) hdk g4
                    obtain ⟨d, hd', hs⟩ := Stp.write (np := np) (rd := [b]) (x := .any) (v := .tuple #[]) hg (.map ms clock) hμ hnn (B := .map kq (mapDel es n)) rfl
                      (fun d hd hok hrel hr0 => by
                        refine .map hnn _ _ (by rw [hd]; exact World.putObj_heap_same (hg.lt ⟨b, e', hμ, hnn, rfl⟩)) ?_
                        rw [g3]
                        exact h2.imp fun _ _ _ h => ⟨h.1, hr0 _ _ h.2⟩) (fun _ _ => .any _)
                    refine ⟨_, h, Ex.value hnd (d := d) (v := .tuple #[]) (by rw [hd']; exact hrunE (by simp [Builtin.delete_, hat, run_underlying hd, MapKept.run_getObj_map hh, hck, hf, MapKept.run_setObj_map _ hh, World.putObj])) hs⟩
                  · have hf := MapKept.run_findKey (P := P) (w := c.w) hdk g8
                    obtain ⟨d, hd', hs⟩ := Stp.write (np := np) (rd := [b]) (x := .any) (v := .tuple #[]) hg (.map (ms.eraseIdxIfInBounds (0 + p)) clock) hμ hnn (B := .map kq (mapDel es n)) rfl
                      (fun d hd hok hrel hr0 => by
                        refine .map hnn _ _ (by rw [hd]; exact World.putObj_heap_same (hg.lt ⟨b, e', hμ, hnn, rfl⟩)) ?_
                        have hpl : p < ms.size := by
                          have := (List.getElem?_eq_some_iff.1 g2).1
                          simpa using this
                        rw [g6, Nat.zero_add]
                        simp only [Array.eraseIdxIfInBounds, hpl, dite_true, Array.toList_eraseIdx]
                        exact (h2.imp fun _ _ _ h => ⟨h.1, hr0 _ _ h.2⟩).erase p) (fun _ _ => .any _)
                    refine ⟨_, h, Ex.value hnd (d := d) (v := .tuple #[]) (by rw [hd']; exact hrunE (by simp only [Builtin.delete_, hat, Sem.run_bind, run_underlying hd, Result.andThen_ok, MapKept.run_getObj_map hh, hck, hf, MapKept.run_setObj_map _ hh, World.putObj, List.getElem?_toArray, List.getElem?_cons_zero, List.getElem?_cons_succ, Sem.run_pure])) hs⟩
                · exact h.elim
              · exact h.elim
            · exact h.elim
          · exact h.elim
        · exact h.elim
      · exact h.elim
    · exact h.elim
  · exact h.elim
theorem flatten_splice {α : Type} {sz : Nat} {xs ys : List (List α)} (hx : ∀ x ∈ xs, x.length = sz) (hy : ∀ y ∈ ys, y.length = sz) (o : Nat) : (splice xs o ys).flatten = splice xs.flatten (o * sz) ys.flatten := by
  unfold splice
  rw [List.flatten_append, List.flatten_append, flatten_take o hx, flatten_drop _ hx, flatten_len hy, Nat.add_mul]
theorem ex_clear {cl : Call} (hT : TyOk P Γ) (ho : o.op = .call cl) (hcl : cl.callee = .builtin .clear) (hg : Good c L) (hρ : ∀ x, Rel c (ρ x) (a.eval x)) (h : vcE P Γ np o ρ L j k) : ∃ e, k e ∧ Ex P o a c L np e := by
  simp only [vcE, ho, hcl, frc_eq] at h
  have hnd : (match o.op with | .defer _ => true | _ => false) = false := by rw [ho]
  split at h
  · rename_i x t tl hx0 ht0
    have hx := hρ x
    split at h
    · rename_i i hi
      obtain ⟨d, hd, hk⟩ := (hT _ _ hi).und
      split at h
      · rename_i te hik
        rw [hik] at hk
        simp only [TK.ok] at hk
        subst hk
        split at h
        · rename_i q hq
          have hq := hT _ _ hq
          split at h
          · rename_i b off n hp
            rw [hp] at hx
            obtain ⟨e, hμ, hcase⟩ := hx.row_inv
            obtain ⟨e', hμ', hB⟩ := hg.blk b (hg.dom b e hμ)
            rw [hμ] at hμ'; cases hμ'
            split at h
            · rename_i ty sz xs hL
              split at h
              · rename_i hc
                simp only [Bool.and_eq_true] at hc
                have hsz := Nat.eq_of_beq_eq_true hc.1
                have hat : cl.argTypes[0]? = some t := by rw [← Array.getElem?_toList, ht0]; rfl
                have hrunE : ∀ {w' : World}, (Builtin.clear_ cl.argTypes o.type #[a.eval x]).run P c.w = .ok (.tuple #[]) w' → (execOp a.eval o).run P c.w = .ok (.value (.tuple #[])) w' := fun {w'} hr => by
                  obtain ⟨cs, hb⟩ := run_bi (P := P) hcl ho c.w a.eval
                  rw [hb, one_ hx0]
                  simp only [builtin, List.map_toArray, List.map_cons, List.map_nil]
                  exact run_v hr
                have hsame : n = 0 → (Builtin.clear_ cl.argTypes o.type #[a.eval x]).run P c.w = .ok (.tuple #[]) c.w → ∃ e, k e ∧ Ex P o a c L np e := fun hn hr => by
                  subst hn
                  refine ⟨_, h, Ex.value hnd (d := c) (v := .tuple #[]) (hrunE hr) ?_⟩
                  have e1 : splice xs off (List.replicate 0 (q.z.map nrm)) = xs := by simp [splice]
                  have e2 : apL L { v := .any, wr := [(b, .rows ty sz xs)], rd := [b] } = L := upd_self hL
                  rw [e1]
                  exact ⟨Fr.refl c, by rw [e2]; exact hg, fun _ _ h => h, .pure (.any _), fun _ _ _ => rfl⟩
                rcases hcase with ⟨hnn, cc, oo, ⟨h1, h2, h3⟩, ex⟩ | ⟨hnn, _, rfl, ex⟩
                · rcases Nat.eq_zero_or_pos n with h0 | h0
                  · refine hsame h0 ?_
                    subst h0
                    rw [ex]
                    simp [Builtin.clear_, hat, run_underlying hd]
                  · rw [hL] at hB
                    obtain ⟨cur, vs, hh, h4, hs, hn', hz, hp0, hcap, hm, hcs', ht, h5⟩ := rows_at hB hnn
                    have hoo : oo = off * sz := by
                      rcases h3 with h3 | h3
                      · rw [h3, hs]
                      · omega
                    obtain ⟨it, z, hit, hs1, hs2, hzr, hz2, hz1⟩ := z_rel (c := c) hq
                    have hzl : z.cells.size = q.sz := by rw [← hq.zsz, hz2.length]; simp
                    have hzc : (Builtin.zeroCells z.cells n).toList = (List.replicate n z.cells.toList).flatten := by
                      have := madeCells_list z.cells n q.sz hzl (by omega)
                      rw [← this, ← hzl]
                      rfl
                    have hrl : ∀ y ∈ List.replicate n (q.z.map nrm), y.length = sz := fun y hy => by rw [List.eq_of_mem_replicate hy, List.length_map, hsz]; exact hq.zsz
                    have hvl : vs.length = xs.length * sz := by rw [← h4.length, flatten_len hz]
                    have hzn : ((List.replicate n z.cells.toList).flatten).length = n * sz := by rw [flatten_len (sz := sz) (fun y hy => by rw [List.eq_of_mem_replicate hy, hsz, ← hzl]; simp)]; simp
                    have hks : off * sz + n * sz ≤ e.n * sz := by rw [← Nat.add_mul]; exact Nat.mul_le_mul_right _ h2
                    have hns : e.n * sz ≤ e.cap * sz := Nat.mul_le_mul_right _ hcap
                    have hz1' : ∀ v ∈ (List.replicate n z.cells.toList).flatten, v.oneCell' = true := fun v hv => by
                      obtain ⟨l, hl, hv⟩ := List.mem_flatten.1 hv
                      rw [List.eq_of_mem_replicate hl] at hv
                      exact hz1 v hv
                    have hst := run_storeCells (P := P) (List.replicate n z.cells.toList).flatten 0 c.w e.b oo cur ty hh (by rw [hzn, hoo]; omega) hz1'
                    obtain ⟨d', hd', hs'⟩ := Stp.write (np := np) (rd := [b]) (x := .any) (v := .tuple #[]) hg (.cells (splice cur.toList (off * sz) (List.replicate n z.cells.toList).flatten).toArray ty (0, 0)) hμ hnn (B := .rows ty sz (splice xs off (List.replicate n (q.z.map nrm)))) rfl
                      (fun d hd hok hrel hr0 => by
                        have hxl : (splice xs off (List.replicate n (q.z.map nrm))).length = xs.length := splice_length _ _ _ (by rw [List.length_replicate, ← hn']; exact h2)
                        refine .rows (splice vs (off * sz) (List.replicate n z.cells.toList).flatten) ⟨?_, .inr ⟨e.b, e.cap, _, Ent.val_at hnn, Nat.zero_le _, by rw [hd]; exact World.putObj_heap_same (hg.lt ⟨b, e, hμ, hnn, rfl⟩), hcap, hm, ?_, ?_⟩⟩ ?_ hs (by rw [hxl]; exact hn') (fun x hx => ?_) hp0 (fun v hv => ?_)
                        · rw [splice_length _ _ _ (by rw [hvl, hzn, ← hn']; omega), hvl, hn']
                        · rw [← hcs', List.size_toArray, splice_length _ _ _ (by simp only [Array.length_toList]; rw [hzn]; omega)]
                          simp
                        · rw [List.toList_toArray, splice_take _ _ _ _ (by rw [hzn]; omega) (by simp; omega), ht]
                        · rw [flatten_splice hz hrl]
                          exact (h4.imp fun _ _ _ h => hr0 _ _ h).splice ((nrm_r0s (hz2.imp fun _ _ _ h => hr0 _ _ h)).flatten n) _
                        · unfold splice at hx
                          rcases List.mem_append.1 hx with hx | hx
                          · rcases List.mem_append.1 hx with hx | hx
                            · exact hz x (List.mem_of_mem_take hx)
                            · exact hrl x hx
                          · exact hz x (List.mem_of_mem_drop hx)
                        · unfold splice at hv
                          rcases List.mem_append.1 hv with hv | hv
                          · rcases List.mem_append.1 hv with hv | hv
                            · exact h5 v (List.mem_of_mem_take hv)
                            · exact hz1' v hv
                          · exact h5 v (List.mem_of_mem_drop hv)) (fun _ _ => .any _)
                    refine ⟨_, h, Ex.value hnd (d := d') (v := .tuple #[]) (hrunE ?_) hs'⟩
                    rw [hd', ex]
                    obtain ⟨m, rfl⟩ : ∃ m, n = m + 1 := ⟨n - 1, by omega⟩
                    rw [Nat.add_zero, hoo] at hst
                    simp only [Builtin.clear_, hat, Sem.run_bind, run_underlying hd, Result.andThen_ok, List.getElem?_toArray, List.getElem?_cons_zero, zeroValue, typeInfo, hzc, hoo]
                    simp [hit, hzr, hzc, hst]
                · refine hsame rfl ?_
                  rw [ex]
                  simp [Builtin.clear_, hat, run_underlying hd]
              · exact h.elim
            · exact h.elim
          · exact h.elim
        · exact h.elim
      · exact h.elim
    · exact h.elim
  · exact h.elim
end
end Go.Proofs.Ytcmciimogcfakaa
