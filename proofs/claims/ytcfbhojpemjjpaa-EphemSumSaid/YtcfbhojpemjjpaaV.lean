/- The values, the blocks and the states of the abstract walk, and what ties them to the model's world. -/
import Derived.Below
import Derived.CallsIn
import Derived.RangeFuncLeaves
import Derived.RangeFuncCalls
import Derived.RangeFuncRecord
import Derived.Maps.AppendAt
import Derived.OwnWalk
import Derived.WalkKit
import Derived.KernelRfl
import Derived.RowKit3
import Derived.Laws.StructEq
import Derived.Laws.Rows
import Derived.Laws.Tables
set_option linter.unusedVariables false
set_option linter.unusedSimpArgs false
namespace Go.Proofs.Ytcfbhojpemjjpaa
open Go Go.RowKit

/-- Related one by one. -/
inductive F2 {α β : Type} (R : α → β → Prop) : List α → List β → Prop where
  | nil : F2 R [] []
  | cons {a : α} {b : β} {l : List α} {m : List β} : R a b → F2 R l m → F2 R (a :: l) (b :: m)
theorem F2.length {α β : Type} {R : α → β → Prop} {l : List α} {m : List β} (h : F2 R l m) : l.length = m.length := by
  induction h with
  | nil => rfl
  | cons _ _ ih => simp [ih]
theorem F2.imp {α β : Type} {R S : α → β → Prop} {l : List α} {m : List β} (h : F2 R l m) (hi : ∀ a b, a ∈ l → R a b → S a b) : F2 S l m := by
  induction h with
  | nil => exact .nil
  | cons hr _ ih => exact .cons (hi _ _ (by simp) hr) (ih fun a b ha => hi a b (by simp [ha]))
theorem F2.map {α β γ : Type} {R : α → β → Prop} {S : γ → β → Prop} {l : List α} {m : List β} (h : F2 R l m) (g : α → γ) (hi : ∀ a b, a ∈ l → R a b → S (g a) b) : F2 S (l.map g) m := by
  induction h with
  | nil => exact .nil
  | cons hr _ ih => exact .cons (hi _ _ (by simp) hr) (ih fun a b ha => hi a b (by simp [ha]))
theorem F2.append {α β : Type} {R : α → β → Prop} {l l' : List α} {m m' : List β} (h : F2 R l m) (h' : F2 R l' m') : F2 R (l ++ l') (m ++ m') := by
  induction h with
  | nil => exact h'
  | cons hr _ ih => exact .cons hr ih
theorem F2.get {α β : Type} {R : α → β → Prop} {l : List α} {m : List β} (h : F2 R l m) (i : Nat) {a : α} (ha : l[i]? = some a) : ∃ b, m[i]? = some b ∧ R a b := by
  induction h generalizing i with
  | nil => simp at ha
  | cons hr _ ih =>
    cases i with
    | zero => simp at ha; subst ha; exact ⟨_, rfl, hr⟩
    | succ i => simp at ha; simpa using ih i ha
theorem F2.of_get {α β : Type} {R : α → β → Prop} : ∀ {l : List α} {m : List β}, l.length = m.length → (∀ (i : Nat) (a : α) (b : β), l[i]? = some a → m[i]? = some b → R a b) → F2 R l m
  | [], [], _, _ => .nil
  | [], _ :: _, h, _ => by simp at h
  | _ :: _, [], h, _ => by simp at h
  | a :: l, b :: m, h, hr => .cons (hr 0 a b rfl rfl) (F2.of_get (by simpa using h) fun i x y hx hy => hr (i + 1) x y (by simpa using hx) (by simpa using hy))
theorem F2.drop {α β : Type} {R : α → β → Prop} {l : List α} {m : List β} (h : F2 R l m) (n : Nat) : F2 R (l.drop n) (m.drop n) := by
  induction h generalizing n with
  | nil => simpa using F2.nil
  | cons hr ht ih => cases n with
    | zero => exact .cons hr ht
    | succ n => simpa using ih n
theorem F2.take {α β : Type} {R : α → β → Prop} {l : List α} {m : List β} (h : F2 R l m) (n : Nat) : F2 R (l.take n) (m.take n) := by
  induction h generalizing n with
  | nil => simpa using F2.nil
  | cons hr ht ih => cases n with
    | zero => simpa using F2.nil
    | succ n => simpa using F2.cons hr (ih n)
theorem F2.set {α β : Type} {R : α → β → Prop} {l : List α} {m : List β} (h : F2 R l m) (n : Nat) {a : α} {b : β} (hr : R a b) : F2 R (l.set n a) (m.set n b) := by
  induction h generalizing n with
  | nil => simpa using F2.nil
  | cons h0 ht ih => cases n with
    | zero => exact .cons hr ht
    | succ n => simpa using F2.cons h0 (ih n)
theorem F2.replicate {α β : Type} {R : α → β → Prop} (n : Nat) {a : α} {b : β} (hr : R a b) : F2 R (List.replicate n a) (List.replicate n b) := by
  induction n with
  | zero => exact .nil
  | succ n ih => exact .cons hr ih

/-- A value as the walk tells it. -/
inductive AV where
  | int (k : IntKind) (n : Int)
  | bool (b : Bool)
  | fn (f : FuncId) (caps : List AV)
  | yld
  | ptr (i k j : Nat)
  | vptr (cs : List AV)
  | row (i off len : Nat)
  | rowf (i : Nat)
  | sl (xs : List (List AV))
  | slc (xs : List (List AV))
  | nilsl
  | agg (cs : List AV)
  | tup (vs : List AV)
  | mp (i : Nat)
  | und
  | any
instance : Inhabited AV := ⟨.any⟩

/-- Where a live block lies: its number; of a slice's array: how many cells an element has, the capacity, the length; whether it is that of the nil slice (then there is no block). -/
structure Ent where
  b : Nat
  sz : Nat
  cap : Nat
  n : Nat
  nil : Bool
def Ent.val (e : Ent) : Value := bif e.nil then .slice none 0 0 else .slice (some ⟨e.b, 0, none⟩) e.n e.cap
/-- What holds at a moment: the world, the blocks that never change any more, the live blocks, the loop that yield belongs to. -/
structure Cx where
  w : World
  ok : Nat → Prop
  μ : Nat → Option Ent
  yl : Option Nat

/-- Values without live blocks. -/
inductive R0 (w : World) (ok : Nat → Prop) : AV → Value → Prop where
  | int (k : IntKind) (n : Int) : R0 w ok (.int k n) (.int k n)
  | bool (b : Bool) : R0 w ok (.bool b) (.bool b)
  | fn (f : FuncId) {caps : List AV} {vs : List Value} (hl : caps.length = vs.length) (h : ∀ (i : Nat) (a : AV) (v : Value), caps[i]? = some a → vs[i]? = some v → R0 w ok a v) : R0 w ok (.fn f caps) (.func (.func f) #[] vs.toArray)
  | vptr {cs : List AV} (b off : Nat) (us : Nat → Value) (hb : ok b) (hc : ∀ (j : Nat), j < cs.length → w.cell? ⟨b, off + j, none⟩ = some (us j)) (h : ∀ (j : Nat) (a : AV), cs[j]? = some a → R0 w ok a (us j)) : R0 w ok (.vptr cs) (.pointer (some ⟨b, off, none⟩))
  | sle (A : Option Addr) (c : Nat) : R0 w ok (.sl []) (.slice A 0 c)
  | sl {xs : List (List AV)} (b off sz c : Nat) (us : Nat → Value) (hb : ok b) (hcp : xs.length ≤ c) (hz : ∀ x ∈ xs, x.length = sz) (hc : ∀ (j : Nat), j < xs.length * sz → w.cell? ⟨b, off + j, none⟩ = some (us j))
      (h : ∀ (j : Nat) (a : AV), xs.flatten[j]? = some a → R0 w ok a (us j)) : R0 w ok (.sl xs) (.slice (some ⟨b, off, none⟩) xs.length c)
  | slce (A : Option Addr) : R0 w ok (.slc []) (.slice A 0 0)
  | slc {xs : List (List AV)} (b off sz : Nat) (us : Nat → Value) (hb : ok b) (hz : ∀ x ∈ xs, x.length = sz) (hc : ∀ (j : Nat), j < xs.length * sz → w.cell? ⟨b, off + j, none⟩ = some (us j))
      (h : ∀ (j : Nat) (a : AV), xs.flatten[j]? = some a → R0 w ok a (us j)) : R0 w ok (.slc xs) (.slice (some ⟨b, off, none⟩) xs.length xs.length)
  | nilsl : R0 w ok .nilsl (.slice none 0 0)
  | agg {cs : List AV} {vs : List Value} (hl : cs.length = vs.length) (h : ∀ (i : Nat) (a : AV) (v : Value), cs[i]? = some a → vs[i]? = some v → R0 w ok a v) : R0 w ok (.agg cs) (.agg vs.toArray)
  | tup {cs : List AV} {vs : List Value} (hl : cs.length = vs.length) (h : ∀ (i : Nat) (a : AV) (v : Value), cs[i]? = some a → vs[i]? = some v → R0 w ok a v) : R0 w ok (.tup cs) (.tuple vs.toArray)
  | und : R0 w ok .und undef
  | any (v : Value) : R0 w ok .any v

theorem R0.mono {w w' : World} {ok ok' : Nat → Prop} (hk : ∀ b, ok b → ok' b) (hw : ∀ b, ok b → w'.heap[b]? = w.heap[b]?) {a : AV} {v : Value} (h : R0 w ok a v) : R0 w' ok' a v := by
  have hc : ∀ (b off : Nat) (u : Value), ok b → w.cell? ⟨b, off, none⟩ = some u → w'.cell? ⟨b, off, none⟩ = some u := fun b off u hb h => by
    unfold World.cell? at h ⊢
    rw [hw b hb]
    exact h
  induction h with
  | int k n => exact .int k n
  | bool b => exact .bool b
  | fn f hl _ ih => exact .fn f hl ih
  | vptr b off us hb h1 _ ih => exact .vptr b off us (hk _ hb) (fun j hj => hc _ _ _ hb (h1 j hj)) ih
  | sle A c => exact .sle A c
  | sl b off sz c us hb hcp hz h1 _ ih => exact .sl b off sz c us (hk _ hb) hcp hz (fun j hj => hc _ _ _ hb (h1 j hj)) ih
  | slce A => exact .slce A
  | slc b off sz us hb hz h1 _ ih => exact .slc b off sz us (hk _ hb) hz (fun j hj => hc _ _ _ hb (h1 j hj)) ih
  | nilsl => exact .nilsl
  | agg hl _ ih => exact .agg hl ih
  | tup hl _ ih => exact .tup hl ih
  | und => exact .und
  | any v => exact .any v

/-- Values, live blocks and all. -/
inductive Rel (c : Cx) : AV → Value → Prop where
  | pure {a : AV} {v : Value} (h : R0 c.w c.ok a v) : Rel c a v
  | fn (f : FuncId) {caps : List AV} {vs : List Value} (hl : caps.length = vs.length) (h : ∀ (i : Nat) (a : AV) (v : Value), caps[i]? = some a → vs[i]? = some v → Rel c a v) : Rel c (.fn f caps) (.func (.func f) #[] vs.toArray)
  | agg {cs : List AV} {vs : List Value} (hl : cs.length = vs.length) (h : ∀ (i : Nat) (a : AV) (v : Value), cs[i]? = some a → vs[i]? = some v → Rel c a v) : Rel c (.agg cs) (.agg vs.toArray)
  | tup {cs : List AV} {vs : List Value} (hl : cs.length = vs.length) (h : ∀ (i : Nat) (a : AV) (v : Value), cs[i]? = some a → vs[i]? = some v → Rel c a v) : Rel c (.tup cs) (.tuple vs.toArray)
  | yld (l : Nat) (h : c.yl = some l) : Rel c .yld (.func (.yield l) #[] #[])
  | ptr {i k j : Nat} {e : Ent} (h : c.μ i = some e) (hn : e.nil = false) : Rel c (.ptr i k j) (.pointer (some ⟨e.b, k * e.sz + j, none⟩))
  | row {i off len : Nat} {e : Ent} (cc o : Nat) (h : c.μ i = some e) (hn : e.nil = false) (ho : o = off * e.sz ∨ cc = 0) (hc : off + cc = e.cap) (hl : off + len ≤ e.n) : Rel c (.row i off len) (.slice (some ⟨e.b, o, none⟩) len cc)
  | rown {i : Nat} {e : Ent} (h : c.μ i = some e) (hn : e.nil = true) : Rel c (.row i 0 0) (.slice none 0 0)
  | rowf {i : Nat} {e : Ent} (h : c.μ i = some e) : Rel c (.rowf i) e.val
  | mp {i : Nat} {e : Ent} (h : c.μ i = some e) (hn : e.nil = false) : Rel c (.mp i) (.map (some e.b))

/-- A block as the walk tells it: none; a variable; a slice's array; a map of whole numbers. -/
inductive Blk where
  | dead
  | box (ty : Nat) (cs : List AV)
  | rows (ty sz : Nat) (xs : List (List AV))
  | map (kt : IntKind) (es : List (Int × AV))
instance : Inhabited Blk := ⟨.dead⟩
def Blk.alive : Blk → Bool
  | .dead => false
  | _ => true

/-- A block lies where it is said to lie. -/
inductive BlkRel (c : Cx) : Blk → Ent → Prop where
  | box {ty : Nat} {cs : List AV} {e : Ent} (vs : List Value) (hn : e.nil = false) (hh : c.w.heap[e.b]? = some (.cells vs.toArray ty (0, 0))) (h : F2 (Rel c) cs vs) : BlkRel c (.box ty cs) e
  | rows {ty sz : Nat} {xs : List (List AV)} {e : Ent} (vs : List Value) (hh : c.w.ownsRow 0 ty sz e.val e.n vs) (h : F2 (R0 c.w c.ok) xs.flatten vs) (hs : e.sz = sz) (hn : e.n = xs.length)
      (hz : ∀ x ∈ xs, x.length = sz) (h0 : 0 < sz) (h1 : ∀ v ∈ vs, v.oneCell' = true) : BlkRel c (.rows ty sz xs) e
  | map {kt : IntKind} {es : List (Int × AV)} {e : Ent} (hn : e.nil = false) (ms : Array MapEntry) (clock : Nat) (hh : c.w.heap[e.b]? = some (.map ms clock))
      (h : F2 (fun (p : Int × AV) (m : MapEntry) => m.key = .int kt p.1 ∧ R0 c.w c.ok p.2 m.val) es ms.toList) : BlkRel c (.map kt es) e

def Cx.own (c : Cx) (b : Nat) : Prop := ∃ i e, c.μ i = some e ∧ e.nil = false ∧ e.b = b

/-- What a step may do: only its own blocks are turned. -/
structure Fr (c d : Cx) : Prop where
  os : d.w.os = c.w.os
  tape : d.w.tape = c.w.tape
  output : d.w.output = c.w.output
  size : c.w.heap.size ≤ d.w.heap.size
  same : ∀ b, b < c.w.heap.size → ¬ c.own b → d.w.heap[b]? = c.w.heap[b]?
  own : ∀ b, d.own b → c.own b ∨ c.w.heap.size ≤ b
  ok : ∀ b, d.ok b → c.ok b ∨ c.own b ∨ c.w.heap.size ≤ b
  mono : ∀ b, c.ok b → d.ok b
  yl : d.yl = c.yl
theorem Fr.refl (c : Cx) : Fr c c := ⟨rfl, rfl, rfl, Nat.le_refl _, fun _ _ _ => rfl, fun _ h => .inl h, fun _ h => .inl h, fun _ h => h, rfl⟩
theorem Fr.trans {c d e : Cx} (h : Fr c d) (k : Fr d e) : Fr c e := by
  refine ⟨k.os.trans h.os, k.tape.trans h.tape, k.output.trans h.output, Nat.le_trans h.size k.size, fun b hb hn => ?_, fun b hb => ?_, fun b hb => ?_, fun b hb => k.mono b (h.mono b hb), k.yl.trans h.yl⟩
  · rw [k.same b (Nat.lt_of_lt_of_le hb h.size) (fun hd => (h.own b hd).elim hn fun hle => by omega), h.same b hb hn]
  · rcases k.own b hb with h1 | h1
    · exact h.own b h1
    · exact .inr (Nat.le_trans h.size h1)
  · rcases k.ok b hb with h1 | h1 | h1
    · exact h.ok b h1
    · rcases h.own b h1 with h2 | h2
      · exact .inr (.inl h2)
      · exact .inr (.inr h2)
    · exact .inr (.inr (Nat.le_trans h.size h1))

/-- A function at one more place. -/
def upd {α : Type} (f : Nat → α) (i : Nat) (v : α) : Nat → α := fun j => bif Nat.beq j i then v else f j
theorem upd_same {α : Type} (f : Nat → α) (i : Nat) (v : α) : upd f i v i = v := by simp [upd]
theorem upd_ne {α : Type} (f : Nat → α) {i j : Nat} (v : α) (h : j ≠ i) : upd f i v j = f j := by
  have hb : Nat.beq j i = false := by
    cases hb : Nat.beq j i with
    | false => rfl
    | true => exact absurd (Nat.eq_of_beq_eq_true hb) h
  simp [upd, hb]

/-- The state of a walk. nt: how many temporaries there are; nx: the next block's name; g: values that are kept for later; y: how many things have been told to yield. -/
structure St where
  t : Nat → AV
  L : Nat → Blk
  nt : Nat
  nx : Nat
  g : List AV
  y : Option Nat

/-- A walk through the parts of a value; what names a live block goes through g. -/
def trav (g : AV → AV) : Nat → AV → AV
  | 0, .fn _ _ => .any
  | 0, .agg _ => .any
  | 0, .tup _ => .any
  | n + 1, .fn f cs => .fn f (cs.map (trav g n))
  | n + 1, .agg cs => .agg (cs.map (trav g n))
  | n + 1, .tup cs => .tup (cs.map (trav g n))
  | _, .ptr i k j => g (.ptr i k j)
  | _, .row i o l => g (.row i o l)
  | _, .rowf i => g (.rowf i)
  | _, .mp i => g (.mp i)
  | _, a => a
end Go.Proofs.Ytcfbhojpemjjpaa
