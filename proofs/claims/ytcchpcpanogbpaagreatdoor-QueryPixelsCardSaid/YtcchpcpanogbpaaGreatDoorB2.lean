/- A part of the proof that scrim/scrimlaw21.QueryPixels returns true at every input. -/
import Derived.Test.YtcchpcpanogbpaaGreatDoorB1
import Derived.Below
import Derived.RangeFuncIn
import Derived.Lib.FrozenHead
import Derived.Laws.CopyRow
section
/- How a value of the plain machine 'B' stands for one of the model's, and B's heap for a world's; and what goes on standing for it. -/
namespace Go.B
open Go Go.RowKit

/-- Which block of the world (and how long) a block's version is; which blocks are never written, and what they hold. -/
structure Ctx where
  mu : Nat → Nat → Option (Nat × Nat)
  fz : Nat → Option (Array Value)

structure Ctx.Le (Γ Δ : Ctx) : Prop where
  mu : ∀ i g c, Γ.mu i g = some c → Δ.mu i g = some c
  fz : ∀ b C, Γ.fz b = some C → Δ.fz b = some C

theorem Ctx.Le.refl (Γ : Ctx) : Γ.Le Γ := ⟨fun _ _ _ h => h, fun _ _ h => h⟩
theorem Ctx.Le.trans {Γ Δ Θ : Ctx} (h : Γ.Le Δ) (k : Δ.Le Θ) : Γ.Le Θ := ⟨fun i g c e => k.mu i g c (h.mu i g c e), fun b C e => k.fz b C (h.fz b C e)⟩

/-- Without what may be written. -/
def Ctx.noMu (Γ : Ctx) : Ctx := { mu := fun _ _ => none, fz := Γ.fz }

theorem Ctx.noMu_le (Γ : Ctx) : Γ.noMu.Le Γ := ⟨fun _ _ _ h => (by cases h), fun _ _ h => h⟩
theorem Ctx.noMu_mono {Γ Δ : Ctx} (h : Γ.Le Δ) : Γ.noMu.Le Δ.noMu := ⟨fun _ _ _ q => (by cases q), h.fz⟩

def CapOk (cap : Cap) (c' off len room : Nat) : Prop :=
  match cap with
  | .exact n => c' = n ∧ len ≤ n
  | .opn => c' = room ∧ off = 0 ∧ len ≤ room
  | .unk => len ≤ c'

inductive VRel : Ctx → Val → Value → Prop
  | bool {Γ : Ctx} (b : Bool) : VRel Γ (.bool b) (.bool b)
  | int {Γ : Ctx} (k : IntKind) (n : Int) : VRel Γ (.int k n) (.int k n)
  | str {Γ : Ctx} (s : List UInt8) : VRel Γ (.str s) (.string ⟨s.toArray⟩)
  | nilp {Γ : Ctx} : VRel Γ .nilp (.pointer none)
  | ptr {Γ : Ctx} {id g off b r : Nat} (h : Γ.mu id g = some (b, r)) : VRel Γ (.ptr id g off) (.pointer (some ⟨b, off, none⟩))
  | fptr {Γ : Ctx} {cells : List Val} {off b s : Nat} {C : Array Value} (f : Nat → Value) (h : Γ.fz b = some C) (hc : ∀ (i : Nat) (v : Val), cells[i]? = some v → C[s + i]? = some (f i))
      (hv : ∀ (i : Nat) (v : Val), cells[i]? = some v → VRel Γ.noMu v (f i)) : VRel Γ (.fptr cells off) (.pointer (some ⟨b, s + off, none⟩))
  | gptr {Γ : Ctx} (g off : Nat) : VRel Γ (.gptr g off) (.pointer (some ⟨g, off, none⟩))
  | nils {Γ : Ctx} : VRel Γ .nils (.slice none 0 0)
  | sl {Γ : Ctx} {id g off len c b r : Nat} {cap : Cap} (h : Γ.mu id g = some (b, r)) (hk : CapOk cap c off len r) : VRel Γ (.sl id g off len cap) (.slice (some ⟨b, off, none⟩) len c)
  | fsl {Γ : Ctx} {cells : List Val} {off len c b s : Nat} {cap : Cap} {C : Array Value} (f : Nat → Value) (h : Γ.fz b = some C) (hk : CapOk cap c 1 len 0) (hc : ∀ (i : Nat) (v : Val), cells[i]? = some v → C[s + i]? = some (f i))
      (hv : ∀ (i : Nat) (v : Val), cells[i]? = some v → VRel Γ.noMu v (f i)) : VRel Γ (.fsl cells off len cap) (.slice (some ⟨b, s + off, none⟩) len c)
  | esl {Γ : Ctx} (a : Addr) (c : Nat) : VRel Γ .esl (.slice (some a) 0 c)
  | fn {Γ : Ctx} {f : FuncId} {fs cs : List Val} {fs' cs' : Array Value} (h1 : fs.length = fs'.size) (h2 : cs.length = cs'.size)
      (hf : ∀ (i : Nat) (v : Val) (v' : Value), fs[i]? = some v → fs'[i]? = some v' → VRel Γ v v') (hc : ∀ (i : Nat) (v : Val) (v' : Value), cs[i]? = some v → cs'[i]? = some v' → VRel Γ v v') : VRel Γ (.fn f fs cs) (.func (.func f) fs' cs')
  | mth {Γ : Ctx} {n : String} {r : Val} {r' : Value} (h : VRel Γ r r') : VRel Γ (.mth n r) (.func (.method n) #[r'] #[])
  | yld {Γ : Ctx} {l b r : Nat} (h : Γ.mu l 0 = some (b, r)) : VRel Γ (.yld l) (.func (.yield b) #[] #[])
  | nilf {Γ : Ctx} : VRel Γ .nilf .nilFunc
  | ifc {Γ : Ctx} {t : TypeId} {v : Val} {v' : Value} (h : VRel Γ v v') : VRel Γ (.ifc t v) (.iface t v')
  | nili {Γ : Ctx} : VRel Γ .nili .nilIface
  | agg {Γ : Ctx} {cs : List Val} {cs' : Array Value} (h1 : cs.length = cs'.size) (hc : ∀ (i : Nat) (v : Val) (v' : Value), cs[i]? = some v → cs'[i]? = some v' → VRel Γ v v') : VRel Γ (.agg cs) (.agg cs')
  | tup {Γ : Ctx} {cs : List Val} {cs' : Array Value} (h1 : cs.length = cs'.size) (hc : ∀ (i : Nat) (v : Val) (v' : Value), cs[i]? = some v → cs'[i]? = some v' → VRel Γ v v') : VRel Γ (.tup cs) (.tuple cs')
  | mp {Γ : Ctx} {id b r : Nat} (h : Γ.mu id 0 = some (b, r)) : VRel Γ (.mp id) (.map (some b))
  | nilm {Γ : Ctx} : VRel Γ .nilm (.map none)
  | dead {Γ : Ctx} (v : Value) : VRel Γ .dead v

theorem VRel.mono {Γ Δ : Ctx} (hle : Γ.Le Δ) {v : Val} {v' : Value} (h : VRel Γ v v') : VRel Δ v v' := by
  induction h generalizing Δ with
  | bool b => exact .bool b
  | int k n => exact .int k n
  | str s => exact .str s
  | nilp => exact .nilp
  | ptr h => exact .ptr (hle.mu _ _ _ h)
  | fptr f h hc _ ih => exact .fptr f (hle.fz _ _ h) hc fun i v hi => ih i v hi (Ctx.noMu_mono hle)
  | gptr g off => exact .gptr g off
  | nils => exact .nils
  | sl h hk => exact .sl (hle.mu _ _ _ h) hk
  | fsl f h hk hc _ ih => exact .fsl f (hle.fz _ _ h) hk hc fun i v hi => ih i v hi (Ctx.noMu_mono hle)
  | esl a c => exact .esl a c
  | fn h1 h2 _ _ i1 i2 => exact .fn h1 h2 (fun i v v' a b => i1 i v v' a b hle) (fun i v v' a b => i2 i v v' a b hle)
  | mth _ ih => exact .mth (ih hle)
  | yld h => exact .yld (hle.mu _ _ _ h)
  | nilf => exact .nilf
  | ifc _ ih => exact .ifc (ih hle)
  | nili => exact .nili
  | agg h1 _ ih => exact .agg h1 fun i v v' a b => ih i v v' a b hle
  | tup h1 _ ih => exact .tup h1 fun i v v' a b => ih i v v' a b hle
  | mp h => exact .mp (hle.mu _ _ _ h)
  | nilm => exact .nilm
  | dead v => exact .dead v

/-- A list, place by place. -/
inductive F2 {α β : Type} (R : α → β → Prop) : List α → List β → Prop
  | nil : F2 R [] []
  | cons {a : α} {b : β} {l : List α} {m : List β} (h : R a b) (t : F2 R l m) : F2 R (a :: l) (b :: m)

namespace F2
variable {α β : Type} {R S : α → β → Prop}

theorem length {l : List α} {m : List β} (h : F2 R l m) : l.length = m.length := by
  induction h with
  | nil => rfl
  | cons _ _ ih => simp [ih]

theorem mono (hRS : ∀ a b, R a b → S a b) {l : List α} {m : List β} (h : F2 R l m) : F2 S l m := by
  induction h with
  | nil => exact .nil
  | cons h _ ih => exact .cons (hRS _ _ h) ih

theorem get {l : List α} {m : List β} (h : F2 R l m) : ∀ (i : Nat) (a : α), l[i]? = some a → ∃ b, m[i]? = some b ∧ R a b := by
  induction h with
  | nil => intro i a h; simp at h
  | cons h _ ih =>
    intro i a hi
    cases i with
    | zero => simp at hi; exact ⟨_, by simp, hi ▸ h⟩
    | succ i => simp at hi ⊢; exact ih i a hi

theorem of_get {l : List α} {m : List β} (hl : l.length = m.length) (h : ∀ (i : Nat) (a : α) (b : β), l[i]? = some a → m[i]? = some b → R a b) : F2 R l m := by
  induction l generalizing m with
  | nil => cases m with
    | nil => exact .nil
    | cons b m => simp at hl
  | cons a l ih => cases m with
    | nil => simp at hl
    | cons b m =>
      refine .cons (h 0 a b (by simp) (by simp)) (ih (by simpa using hl) fun i a' b' ha hb => h (i + 1) a' b' (by simpa using ha) (by simpa using hb))

theorem append {l₁ l₂ : List α} {m₁ m₂ : List β} (h₁ : F2 R l₁ m₁) (h₂ : F2 R l₂ m₂) : F2 R (l₁ ++ l₂) (m₁ ++ m₂) := by
  induction h₁ with
  | nil => exact h₂
  | cons h _ ih => exact .cons h ih

theorem drop {l : List α} {m : List β} (h : F2 R l m) (n : Nat) : F2 R (l.drop n) (m.drop n) := by
  induction h generalizing n with
  | nil => simp; exact .nil
  | cons h t ih => cases n with
    | zero => exact .cons h t
    | succ n => simpa using ih n

theorem take {l : List α} {m : List β} (h : F2 R l m) (n : Nat) : F2 R (l.take n) (m.take n) := by
  induction h generalizing n with
  | nil => simp; exact .nil
  | cons h t ih => cases n with
    | zero => simp; exact .nil
    | succ n => simpa using .cons h (ih n)

theorem set {l : List α} {m : List β} (h : F2 R l m) {a : α} {b : β} (hab : R a b) (n : Nat) : F2 R (l.set n a) (m.set n b) := by
  induction h generalizing n with
  | nil => simp; exact .nil
  | cons h t ih => cases n with
    | zero => exact .cons hab t
    | succ n => simpa using .cons h (ih n)

theorem replicate {a : α} {b : β} (h : R a b) (n : Nat) : F2 R (List.replicate n a) (List.replicate n b) := by
  induction n with
  | zero => exact .nil
  | succ n ih => simpa [List.replicate_succ] using .cons h ih

theorem map {γ : Type} {f : γ → α} {g : γ → β} (h : ∀ c, R (f c) (g c)) (l : List γ) : F2 R (l.map f) (l.map g) := by
  induction l with
  | nil => exact .nil
  | cons c l ih => exact .cons (h c) ih

theorem nil_left {m : List β} (h : F2 R [] m) : m = [] := by cases h; rfl
theorem cons_left {a : α} {l : List α} {m : List β} (h : F2 R (a :: l) m) : ∃ b m', m = b :: m' ∧ R a b ∧ F2 R l m' := by
  cases h with
  | cons h t => exact ⟨_, _, rfl, h, t⟩
end F2

abbrev LRel (Γ : Ctx) : List Val → List Value → Prop := F2 (VRel Γ)

theorem LRel.mono {Γ Δ : Ctx} (hle : Γ.Le Δ) {l : List Val} {m : List Value} (h : LRel Γ l m) : LRel Δ l m := F2.mono (fun _ _ => VRel.mono hle) h

theorem arr_get (a : Array Value) (i : Nat) : a.toList[i]? = a[i]? := by simp

theorem LRel.of_arr {Γ : Ctx} {l : List Val} {a : Array Value} (h1 : l.length = a.size) (h : ∀ (i : Nat) (v : Val) (v' : Value), l[i]? = some v → a[i]? = some v' → VRel Γ v v') : LRel Γ l a.toList :=
  F2.of_get (by simpa using h1) fun i v v' h2 h3 => h i v v' h2 (by simpa using h3)

theorem LRel.arr {Γ : Ctx} {l : List Val} {a : Array Value} (h : LRel Γ l a.toList) : l.length = a.size ∧ ∀ (i : Nat) (v : Val) (v' : Value), l[i]? = some v → a[i]? = some v' → VRel Γ v v' := by
  refine ⟨by simpa using h.length, fun i v v' h2 h3 => ?_⟩
  obtain ⟨b, hb, hr⟩ := h.get i v h2
  simp at hb
  rw [h3] at hb
  cases hb
  exact hr

theorem VRel.agg_iff {Γ : Ctx} {cs : List Val} {v : Value} : VRel Γ (.agg cs) v ↔ ∃ a, v = .agg a ∧ LRel Γ cs a.toList := by
  constructor
  · intro h; cases h with
    | agg h1 hc => exact ⟨_, rfl, LRel.of_arr h1 hc⟩
  · rintro ⟨a, rfl, h⟩; exact .agg h.arr.1 h.arr.2

theorem VRel.tup_iff {Γ : Ctx} {cs : List Val} {v : Value} : VRel Γ (.tup cs) v ↔ ∃ a, v = .tuple a ∧ LRel Γ cs a.toList := by
  constructor
  · intro h; cases h with
    | tup h1 hc => exact ⟨_, rfl, LRel.of_arr h1 hc⟩
  · rintro ⟨a, rfl, h⟩; exact .tup h.arr.1 h.arr.2

theorem VRel.fn_iff {Γ : Ctx} {f : FuncId} {fs cs : List Val} {v : Value} : VRel Γ (.fn f fs cs) v ↔ ∃ a b, v = .func (.func f) a b ∧ LRel Γ fs a.toList ∧ LRel Γ cs b.toList := by
  constructor
  · intro h; cases h with
    | fn h1 h2 hf hc => exact ⟨_, _, rfl, LRel.of_arr h1 hf, LRel.of_arr h2 hc⟩
  · rintro ⟨a, b, rfl, h, k⟩; exact .fn h.arr.1 k.arr.1 h.arr.2 k.arr.2

/-- A value's cells. -/
theorem VRel.cells {Γ : Ctx} {v : Val} {v' : Value} (h : VRel Γ v v') (hd : v ≠ .dead) : LRel Γ v.cells v'.cells.toList := by
  cases h with
  | agg h1 hc => exact LRel.of_arr h1 hc
  | dead => exact absurd rfl hd
  | bool b => exact .cons (.bool b) .nil
  | int k n => exact .cons (.int k n) .nil
  | str s => exact .cons (.str s) .nil
  | nilp => exact .cons .nilp .nil
  | ptr h => exact .cons (.ptr h) .nil
  | fptr f h hc hv => exact .cons (.fptr f h hc hv) .nil
  | gptr g off => exact .cons (.gptr g off) .nil
  | nils => exact .cons .nils .nil
  | sl h hk => exact .cons (.sl h hk) .nil
  | fsl f h hk hc hv => exact .cons (.fsl f h hk hc hv) .nil
  | esl a c => exact .cons (.esl a c) .nil
  | fn h1 h2 hf hc => exact .cons (.fn h1 h2 hf hc) .nil
  | mth h => exact .cons (.mth h) .nil
  | yld h => exact .cons (.yld h) .nil
  | nilf => exact .cons .nilf .nil
  | ifc h => exact .cons (.ifc h) .nil
  | nili => exact .cons .nili .nil
  | tup h1 hc => exact .cons (.tup h1 hc) .nil
  | mp h => exact .cons (.mp h) .nil
  | nilm => exact .cons .nilm .nil

/-- What is one cell's here is one there. -/
theorem VRel.cell {Γ : Ctx} {v : Val} {v' : Value} (h : VRel Γ v v') (hc : v.isCell = true) : (∀ a, v' ≠ .agg a) ∧ (∀ a, v' ≠ .tuple a) := by
  cases h <;> simp_all [Val.isCell]

/-- The temporaries. -/
def ERel (Γ : Ctx) (env : Env) (tmps : Array Value) : Prop := LRel Γ env tmps.toList

theorem ERel.mono {Γ Δ : Ctx} (hle : Γ.Le Δ) {env : Env} {tmps : Array Value} (h : ERel Γ env tmps) : ERel Δ env tmps := LRel.mono hle h

theorem ERel.get {Γ : Ctx} {env : Env} {tmps : Array Value} (h : ERel Γ env tmps) (t : Nat) : VRel Γ ((env[t]?).getD .dead) (tmps.getD t undef) := by
  cases he : env[t]? with
  | none => exact .dead _
  | some v =>
    obtain ⟨b, hb, hr⟩ := F2.get h t v he
    simp at hb
    simp [Array.getD]
    rw [Array.getElem?_eq_some_iff] at hb
    obtain ⟨hlt, rfl⟩ := hb
    simpa [hlt] using hr

theorem ERel.set {Γ : Ctx} {env : Env} {tmps : Array Value} (h : ERel Γ env tmps) {v : Val} {v' : Value} (hv : VRel Γ v v') (t : Nat) : ERel Γ (env.set t v) (tmps.setIfInBounds t v') := by
  unfold ERel
  rw [Array.toList_setIfInBounds]
  exact F2.set h hv t

theorem toList_nil {α : Type} {a : Array α} (h : a.toList = []) : a = #[] := by
  cases a; simp_all

theorem ofCell_rel {Γ : Ctx} {v : Value} {x : Val} (h : ofCell v = some x) : VRel Γ x v := by
  unfold ofCell at h
  split at h
  · injection h with h; subst h; exact .bool _
  · injection h with h; subst h; exact .int _ _
  · injection h with h; subst h; exact .str _
  · injection h with h; subst h; exact .nilp
  · split at h
    · injection h with h; subst h; exact .nils
    · cases h
  · injection h with h; subst h; exact .nilf
  · injection h with h; subst h; exact .nili
  · injection h with h; subst h; exact .nilm
  · split at h
    · rename_i h1 h2
      injection h with h; subst h
      exact VRel.fn_iff.2 ⟨_, _, rfl, by rw [h1]; exact .nil, by rw [h2]; exact .nil⟩
    · cases h
  · cases h

theorem ofList_rel {Γ : Ctx} : ∀ {l : List Value} {xs : List Val}, ofList ofCell l = some xs → LRel Γ xs l
  | [], xs, h => by simp [ofList] at h; subst h; exact .nil
  | v :: l, xs, h => by
    simp only [ofList] at h
    split at h
    · rename_i x ys h1 h2
      injection h with h; subst h
      exact .cons (ofCell_rel h1) (ofList_rel h2)
    · cases h

theorem ofValue_rel {Γ : Ctx} {v : Value} {x : Val} (h : ofValue v = some x) : VRel Γ x v := by
  unfold ofValue at h
  split at h
  · rename_i cs
    simp only [Option.map_eq_some_iff] at h
    obtain ⟨xs, h1, rfl⟩ := h
    exact VRel.agg_iff.2 ⟨_, rfl, ofList_rel h1⟩
  · split at h
    · rename_i h1
      injection h with h; subst h; exact VRel.tup_iff.2 ⟨_, rfl, by rw [h1]; exact .nil⟩
    · cases h
  · exact ofCell_rel h

theorem evalO_rel {Γ : Ctx} {env : Env} {a : Act} (he : ERel Γ env a.tmps) {o : Operand} {v : Val} (h : evalO env o = some v) : VRel Γ v (a.eval o) := by
  cases o with
  | tmp t => simp only [evalO, Option.some.injEq] at h; subst h; exact he.get t
  | const c => exact ofValue_rel h
  | global g => simp only [evalO, Option.some.injEq] at h; subst h; exact .gptr g 0
  | func f => simp only [evalO, Option.some.injEq] at h; subst h; exact VRel.fn_iff.2 ⟨_, _, rfl, .nil, .nil⟩

theorem evalL_rel {Γ : Ctx} {env : Env} {a : Act} (he : ERel Γ env a.tmps) : ∀ {l : List Operand} {vs : List Val}, evalL env l = some vs → LRel Γ vs (l.map a.eval)
  | [], vs, h => by simp [evalL] at h; subst h; exact .nil
  | o :: l, vs, h => by
    simp only [evalL] at h
    split at h
    · rename_i v ws h1 h2
      injection h with h; subst h
      exact .cons (evalO_rel he h1) (evalL_rel he h2)
    · cases h

end Go.B
end
section
/- B's heap and a world: what it is that one stands for the other; reading, writing, laying a block. -/
namespace Go.B
open Go Go.RowKit

def Blk.gen : Blk → Nat
  | .row _ g _ _ _ _ _ => g
  | _ => 0

/-- A map's entry. -/
def EntRel (Γ : Ctx) (x : Val × Val × Nat) (e : MapEntry) : Prop := VRel Γ x.1 e.key ∧ VRel Γ x.2.1 e.val ∧ e.born = x.2.2

structure RowRel (Γ : Ctx) (w : World) (cells : List Val) (opn : Bool) (fz sz : Nat) (elem : TypeId) (st : Bool) (c : Nat × Nat) (C : Array Value) (fr : Nat × Nat) : Prop where
  heap : w.heap[c.1]? = some (.cells C elem fr)
  fits : cells.length ≤ C.size
  shut : opn = false → C.size = cells.length
  opens : opn = true → C.size = c.2 * sz
  rel : LRel Γ cells (C.toList.take cells.length)
  free : ∀ i, fz ≤ i → i < C.size → ¬ (fr.1 ≤ i ∧ i < fr.2)
  head : st = false → fr.1 = fr.2 ∨ fr.2 ≤ fz

def BlkRel (Γ : Ctx) (w : World) (b : Blk) (c : Nat × Nat) : Prop :=
  match b with
  | .row cells _ opn fz sz elem st => ∃ C fr, RowRel Γ w cells opn fz sz elem st c C fr
  | .map es clock => ∃ es', w.heap[c.1]? = some (.map es' clock) ∧ F2 (EntRel Γ) es es'.toList
  | .iter s pos => w.heap[c.1]? = some (.stringIter ⟨s.toArray⟩ pos)
  | .loop st pending env ps assign body => ∃ L : Loop, w.heap[c.1]? = some (.loop L) ∧ L.state = st ∧ L.pending = pending ∧
      (st ≠ .exhausted → ERel Γ env L.tmps ∧ L.params.toList = ps ∧ L.assign = assign ∧ L.body = body)

theorem EntRel.mono {Γ Δ : Ctx} (hle : Γ.Le Δ) {x : Val × Val × Nat} {e : MapEntry} (h : EntRel Γ x e) : EntRel Δ x e := ⟨h.1.mono hle, h.2.1.mono hle, h.2.2⟩

/-- A block that isn't touched. -/
theorem BlkRel.keep {Γ Δ : Ctx} {w w' : World} {b : Blk} {c : Nat × Nat} (h : BlkRel Γ w b c) (hle : Γ.Le Δ) (hw : w'.heap[c.1]? = w.heap[c.1]?) : BlkRel Δ w' b c := by
  cases b with
  | row cells g opn fz sz elem st =>
    obtain ⟨C, fr, h⟩ := h
    exact ⟨C, fr, { heap := hw.trans h.heap, fits := h.fits, shut := h.shut, opens := h.opens, rel := LRel.mono hle h.rel, free := h.free, head := h.head }⟩
  | map es clock => obtain ⟨es', h1, h2⟩ := h; exact ⟨es', hw.trans h1, F2.mono (fun _ _ => EntRel.mono hle) h2⟩
  | iter s pos => exact hw.trans h
  | loop st pending env ps assign body =>
    obtain ⟨L, h1, h2, h3, h4⟩ := h
    exact ⟨L, hw.trans h1, h2, h3, fun hs => ⟨ERel.mono hle (h4 hs).1, (h4 hs).2⟩⟩

structure Rel (w0 : World) (T : Tab) (Γ : Ctx) (h : Heap) (w : World) : Prop where
  ext : Below w0.heap.size w0 w
  blk : ∀ id b c, h.get id = some b → Γ.mu id b.gen = some c → BlkRel Γ w b c
  inj : ∀ id₁ id₂ b₁ b₂ c₁ c₂, h.get id₁ = some b₁ → h.get id₂ = some b₂ → Γ.mu id₁ b₁.gen = some c₁ → Γ.mu id₂ b₂.gen = some c₂ → c₁.1 = c₂.1 → id₁ = id₂
  base : ∀ id b c, h.get id = some b → Γ.mu id b.gen = some c → w0.heap.size ≤ c.1
  top : ∀ id b g c, h.get id = some b → Γ.mu id g = some c → g ≤ b.gen
  old : ∀ id b, h.get id = some b → id < h.next
  fz : ∀ b C, Γ.fz b = some C → ∃ e fr, w.heap[b]? = some (.cells C e fr)
  nofz : ∀ id b c, h.get id = some b → Γ.mu id b.gen = some c → Γ.fz c.1 = none
  glob : ∀ g cells, T.glob g = some cells → ∃ C, Γ.fz g = some C ∧ LRel Γ.noMu cells (C.toList.take cells.length)

/-- A block's version, and its cells from 'off' on, 'n' of them. -/
def Blk.seg (b : Blk) (off n : Nat) : Option (Nat × Option (List Val)) :=
  match b with
  | .row cells g _ _ _ _ _ => some (g, cut cells off n)
  | _ => none

/-- A change that leaves such cells alone. -/
def Off (d : Nat × Option (Nat × Nat)) (off n : Nat) : Prop := ∃ a m, d.2 = some (a, m) ∧ (off + n ≤ a ∨ a + m ≤ off)

/-- What was changed is told in full. -/
structure Log (h h' : Heap) (D : List (Nat × Option (Nat × Nat))) : Prop where
  same : ∀ id, id < h.next → (∀ d ∈ D, d.1 ≠ id) → h'.get id = h.get id
  seg : ∀ id off n, id < h.next → (∀ d ∈ D, d.1 = id → Off d off n) → (h'.get id).bind (·.seg off n) = (h.get id).bind (·.seg off n)

/-- From one heap and world to others, by what was changed ('D'). -/
structure Adv (w0 : World) (T : Tab) (Γ : Ctx) (h : Heap) (w : World) (Δ : Ctx) (h' : Heap) (w' : World) (D : List (Nat × Option (Nat × Nat))) : Prop where
  le : Γ.Le Δ
  rel : Rel w0 T Δ h' w'
  next : h.next ≤ h'.next
  size : w.heap.size ≤ w'.heap.size
  frame : ∀ b, b < w.heap.size → (∀ id blk c, h.get id = some blk → Γ.mu id blk.gen = some c → (∃ d ∈ D, d.1 = id) → c.1 ≠ b) → w'.heap[b]? = w.heap[b]?
  mu : ∀ id g c, Δ.mu id g = some c → Γ.mu id g = some c ∨ (h.next ≤ id ∧ id < h'.next) ∨ (id < h.next ∧ (id, none) ∈ D)
  was : ∀ id b' c', h'.get id = some b' → Δ.mu id b'.gen = some c' → id < h.next → ∃ b c, h.get id = some b ∧ Γ.mu id b.gen = some c ∧ (c'.1 = c.1 ∨ w.heap.size ≤ c'.1)
  new : ∀ id b' c', h'.get id = some b' → Δ.mu id b'.gen = some c' → h.next ≤ id → w.heap.size ≤ c'.1
  dirty : h'.dirty = D ++ h.dirty
  log : Log h h' D
  dom : ∀ d ∈ D, d.1 < h.next → ∃ b c, h.get d.1 = some b ∧ Γ.mu d.1 b.gen = some c
  fzn : ∀ b C, Δ.fz b = some C → Γ.fz b = some C ∨ w.heap.size ≤ b

theorem Log.refl (h : Heap) : Log h h [] := ⟨fun _ _ _ => rfl, fun _ _ _ _ _ => rfl⟩
theorem Log.trans {h h' h'' : Heap} {D E : List (Nat × Option (Nat × Nat))} (hn : h.next ≤ h'.next) (a : Log h h' D) (b : Log h' h'' E) : Log h h'' (E ++ D) where
  same := fun id hi hd => by
    rw [b.same id (by omega) fun d h1 => hd d (List.mem_append_left _ h1), a.same id hi fun d h1 => hd d (List.mem_append_right _ h1)]
  seg := fun id off n hi hd => by
    rw [b.seg id off n (by omega) fun d h1 => hd d (List.mem_append_left _ h1), a.seg id off n hi fun d h1 => hd d (List.mem_append_right _ h1)]

def Fresh (Γ : Ctx) (a b : Nat) : Prop := ∀ id g, a ≤ id → id < b → Γ.mu id g = none

theorem Fresh.sub {Γ : Ctx} {a b c d : Nat} (h : Fresh Γ a b) (h1 : a ≤ c) (h2 : d ≤ b) : Fresh Γ c d := fun id g h3 h4 => h id g (by omega) (by omega)

theorem Adv.fresh {w0 : World} {T : Tab} {Γ Δ : Ctx} {h h' : Heap} {w w' : World} {D : List (Nat × Option (Nat × Nat))} (A : Adv w0 T Γ h w Δ h' w' D) {n : Nat} (hf : Fresh Γ h.next n) : Fresh Δ h'.next n := by
  intro id g h1 h2
  cases hm : Δ.mu id g with
  | none => rfl
  | some c =>
    have := A.next
    rcases A.mu id g c hm with h3 | h3 | h3
    · rw [hf id g (by omega) h2] at h3; cases h3
    · omega
    · omega

section
variable {w0 : World} {T : Tab}

theorem Adv.refl {Γ : Ctx} {h : Heap} {w : World} (R : Rel w0 T Γ h w) : Adv w0 T Γ h w Γ h w [] where
  le := .refl _
  rel := R
  next := Nat.le_refl _
  size := Nat.le_refl _
  frame := fun _ _ _ => rfl
  mu := fun _ _ _ h => .inl h
  was := fun id b c h1 h2 _ => ⟨b, c, h1, h2, .inl rfl⟩
  new := fun id b c h1 _ h3 => by have := R.old id b h1; omega
  dirty := rfl
  log := .refl _
  dom := fun d h => by cases h
  fzn := fun _ _ h => .inl h

theorem Rel.lt {Γ : Ctx} {h : Heap} {w : World} (R : Rel w0 T Γ h w) {id : Nat} {b : Blk} {c : Nat × Nat} (h1 : h.get id = some b) (h2 : Γ.mu id b.gen = some c) : c.1 < w.heap.size := by
  have hb := R.blk id b c h1 h2
  have : ∃ o, w.heap[c.1]? = some o := by
    cases b with
    | row cells g opn fz sz elem st => obtain ⟨C, fr, h⟩ := hb; exact ⟨_, h.heap⟩
    | map es clock => obtain ⟨es', h1, _⟩ := hb; exact ⟨_, h1⟩
    | iter s pos => exact ⟨_, hb⟩
    | loop st pending env ps assign body => obtain ⟨L, h1, _⟩ := hb; exact ⟨_, h1⟩
  obtain ⟨o, ho⟩ := this
  exact (Array.getElem?_eq_some_iff.1 ho).1

theorem Adv.trans {Γ Δ Θ : Ctx} {h h' h'' : Heap} {w w' w'' : World} {D E : List (Nat × Option (Nat × Nat))} (A : Adv w0 T Γ h w Δ h' w' D) (B : Adv w0 T Δ h' w' Θ h'' w'' E) :
    Adv w0 T Γ h w Θ h'' w'' (E ++ D) where
  le := A.le.trans B.le
  rel := B.rel
  next := Nat.le_trans A.next B.next
  size := Nat.le_trans A.size B.size
  frame := fun b hb hD => by
    rw [B.frame b (Nat.lt_of_lt_of_le hb A.size) ?_, A.frame b hb ?_]
    · exact fun id blk c h1 h2 ⟨d, h3, h4⟩ => hD id blk c h1 h2 ⟨d, List.mem_append_right _ h3, h4⟩
    · rintro id blk c h1 h2 ⟨d, h3, h4⟩ rfl
      by_cases hid : id < h.next
      · obtain ⟨b0, c0, e1, e2, e3⟩ := A.was id blk c h1 h2 hid
        rcases e3 with e3 | e3
        · exact hD id b0 c0 e1 e2 ⟨d, List.mem_append_left _ h3, h4⟩ e3.symm
        · omega
      · have := A.new id blk c h1 h2 (by omega); omega
  mu := fun id g c hm => by
    have h1 := A.next
    have h2 := B.next
    rcases B.mu id g c hm with h3 | h3 | h3
    · rcases A.mu id g c h3 with h4 | h4 | h4
      · exact .inl h4
      · exact .inr (.inl (by omega))
      · exact .inr (.inr ⟨h4.1, List.mem_append_right _ h4.2⟩)
    · exact .inr (.inl (by omega))
    · by_cases hid : id < h.next
      · exact .inr (.inr ⟨hid, List.mem_append_left _ h3.2⟩)
      · exact .inr (.inl (by omega))
  was := fun id b' c' h1 h2 h3 => by
    have := A.next
    obtain ⟨b, c, e1, e2, e3⟩ := B.was id b' c' h1 h2 (by omega)
    obtain ⟨b0, c0, f1, f2, f3⟩ := A.was id b c e1 e2 h3
    refine ⟨b0, c0, f1, f2, ?_⟩
    have := A.size
    rcases e3 with e3 | e3
    · rcases f3 with f3 | f3
      · exact .inl (e3.trans f3)
      · exact .inr (by omega)
    · exact .inr (by omega)
  new := fun id b' c' h1 h2 h3 => by
    have hA := A.size
    by_cases hid : id < h'.next
    · obtain ⟨b, c, e1, e2, e3⟩ := B.was id b' c' h1 h2 hid
      have := A.new id b c e1 e2 h3
      rcases e3 with e3 | e3 <;> omega
    · have := B.new id b' c' h1 h2 (by omega); omega
  dirty := by rw [B.dirty, A.dirty, List.append_assoc]
  log := .trans A.next A.log B.log
  dom := fun d hd hi => by
    rcases List.mem_append.1 hd with hd | hd
    · have := A.next
      obtain ⟨b, c, h1, h2⟩ := B.dom d hd (by omega)
      obtain ⟨b0, c0, h3, h4, _⟩ := A.was d.1 b c h1 h2 hi
      exact ⟨b0, c0, h3, h4⟩
    · exact A.dom d hd hi
  fzn := fun b C hb => by
    have := A.size
    rcases B.fzn b C hb with h1 | h1
    · exact A.fzn b C h1
    · exact .inr (by omega)

/-- A world that is as it was, but for what is drawn. -/
theorem Rel.of_heap {Γ : Ctx} {h : Heap} {w w' : World} (R : Rel w0 T Γ h w) (h1 : w'.heap = w.heap) (h2 : w'.os = w.os) (h3 : w'.tape = w.tape) (h4 : w'.output = w.output) : Rel w0 T Γ h w' where
  ext := ⟨h2.trans R.ext.os, h3.trans R.ext.tape, h4.trans R.ext.output, by rw [h1]; exact R.ext.size, fun k hk => by rw [h1]; exact R.ext.block k hk⟩
  blk := fun id b c h5 h6 => (R.blk id b c h5 h6).keep (.refl _) (by rw [h1])
  inj := R.inj
  base := R.base
  top := R.top
  old := R.old
  fz := fun b C h => by rw [h1]; exact R.fz b C h
  nofz := R.nofz
  glob := R.glob
end
end Go.B
end
section
/- Laying a block, changing one: on B's heap, and in a world. -/
namespace Go.B
open Go Go.RowKit

theorem nat_beq_ne {a b : Nat} (h : a ≠ b) : Nat.beq a b = false := by
  cases hb : Nat.beq a b with
  | false => rfl
  | true => exact absurd (Nat.eq_of_beq_eq_true hb) h

theorem nat_beq_eq {a b : Nat} (h : Nat.beq a b = true) : a = b := Nat.eq_of_beq_eq_true h

theorem look_cons (id k : Nat) (b : Blk) (l : List (Nat × Blk)) : look id ((k, b) :: l) = if k = id then some b else look id l := by
  simp only [look]
  by_cases h : k = id
  · subst h; simp
  · rw [if_neg h, nat_beq_ne h]; rfl

theorem look_swap (id id' : Nat) (b : Blk) (l : List (Nat × Blk)) : look id' (swap id b l) = if id = id' then (look id l).map (fun _ => b) else look id' l := by
  induction l with
  | nil => simp [look, swap]
  | cons x l ih =>
    obtain ⟨k, c⟩ := x
    simp only [swap]
    by_cases h : k = id
    · subst h
      rw [Nat.beq_refl]
      simp only [cond_true, look_cons]
      by_cases h2 : k = id'
      · simp [h2]
      · simp [h2]
    · rw [nat_beq_ne h]
      simp only [cond_false, look_cons, ih]
      by_cases h2 : id = id'
      · subst h2; simp [h]
      · simp [h2]

theorem get_new (h : Heap) (b : Blk) (id : Nat) : (h.new b).get id = if h.next = id then some b else h.get id := look_cons _ _ _ _

theorem get_put (h : Heap) (id id' : Nat) (b : Blk) : (h.put id b).get id' = if id = id' then (h.get id).map (fun _ => b) else h.get id' := look_swap _ _ _ _
theorem get_putAt (h : Heap) (id id' : Nat) (b : Blk) (o n : Nat) : (h.putAt id b o n).get id' = if id = id' then (h.get id).map (fun _ => b) else h.get id' := look_swap _ _ _ _

def Ctx.add (Γ : Ctx) (id g : Nat) (c : Nat × Nat) : Ctx := { Γ with mu := fun i j => if i = id ∧ j = g then some c else Γ.mu i j }

theorem Ctx.add_le {Γ : Ctx} {id g : Nat} (c : Nat × Nat) (h : Γ.mu id g = none) : Γ.Le (Γ.add id g c) where
  mu := fun i j d hd => by
    simp only [Ctx.add]
    split
    · rename_i he; rw [he.1, he.2, h] at hd; cases hd
    · exact hd
  fz := fun _ _ h => h

theorem Ctx.add_same (Γ : Ctx) (id g : Nat) (c : Nat × Nat) : (Γ.add id g c).mu id g = some c := by simp [Ctx.add]
theorem Ctx.add_other (Γ : Ctx) {id g i j : Nat} (c : Nat × Nat) (h : ¬ (i = id ∧ j = g)) : (Γ.add id g c).mu i j = Γ.mu i j := by simp [Ctx.add, h]

section
variable {w0 : World} {T : Tab} {Γ : Ctx} {h : Heap} {w : World}

/-- A new block; 'w1': the world, perhaps behind some draws. -/
theorem Adv.alloc (R : Rel w0 T Γ h w) (hf : Fresh Γ h.next (h.next + 1)) (b : Blk) (room : Nat) (o : Obj) {w1 : World} (e1 : w1.heap = w.heap) (e2 : w1.os = w.os) (e3 : w1.tape = w.tape) (e4 : w1.output = w.output)
    (hb : ∀ Δ, Γ.Le Δ → BlkRel Δ (w1.alloc o) b (w.heap.size, room)) :
    Adv w0 T Γ h w (Γ.add h.next b.gen (w.heap.size, room)) (h.new b) (w1.alloc o) [] := by
  have hle := Ctx.add_le (Γ := Γ) (w.heap.size, room) (hf h.next b.gen (Nat.le_refl _) (by omega))
  have R1 : Rel w0 T Γ h w1 := R.of_heap e1 e2 e3 e4
  have hs : w1.heap.size = w.heap.size := by rw [e1]
  have keep : ∀ k, k < w.heap.size → (w1.alloc o).heap[k]? = w.heap[k]? := fun k hk => by rw [Below.heap_alloc _ _ _ (by omega), e1]
  have oldmu : ∀ id blk c, h.get id = some blk → (Γ.add h.next b.gen (w.heap.size, room)).mu id blk.gen = some c → Γ.mu id blk.gen = some c := fun id blk c h1 h2 => by
    have := R.old id blk h1
    rwa [Ctx.add_other _ _ (by omega)] at h2
  exact {
    le := hle
    next := by simp [Heap.new]
    size := by simp [hs]
    frame := fun k hk _ => keep k hk
    mu := fun id g c hm => by
      by_cases he : id = h.next ∧ g = b.gen
      · right; left; simp [Heap.new]; omega
      · rw [Ctx.add_other _ _ he] at hm; exact .inl hm
    was := fun id b' c' h1 h2 h3 => by
      rw [get_new, if_neg (by omega)] at h1
      exact ⟨b', c', h1, oldmu id b' c' h1 h2, .inl rfl⟩
    new := fun id b' c' h1 h2 h3 => by
      rw [get_new] at h1
      split at h1
      · rename_i he; subst he; injection h1 with h1; subst h1; rw [Ctx.add_same] at h2; injection h2 with h2; subst h2; exact Nat.le_refl _
      · have := R.old id b' h1; omega
    dirty := rfl
    log := ⟨fun id hi _ => by rw [get_new, if_neg (by omega)], fun id off n hi _ => by rw [get_new, if_neg (by omega)]⟩
    dom := fun d h => by cases h
    fzn := fun _ _ h => .inl h
    rel := {
      ext := R1.ext.alloc (by rw [hs]; exact R.ext.size) o
      blk := fun id blk c h1 h2 => by
        rw [get_new] at h1
        split at h1
        · rename_i he; subst he; injection h1 with h1; subst h1
          rw [Ctx.add_same] at h2; injection h2 with h2; subst h2
          exact hb _ hle
        · have h3 := oldmu id blk c h1 h2
          exact (R.blk id blk c h1 h3).keep hle (keep _ (R.lt h1 h3))
      inj := fun i₁ i₂ b₁ b₂ c₁ c₂ g₁ g₂ m₁ m₂ e => by
        rw [get_new] at g₁ g₂
        by_cases q₁ : h.next = i₁
        · by_cases q₂ : h.next = i₂
          · omega
          · rw [if_pos q₁] at g₁; rw [if_neg q₂] at g₂
            injection g₁ with g₁; subst g₁; subst q₁
            rw [Ctx.add_same] at m₁; injection m₁ with m₁; subst m₁
            have := R.lt g₂ (oldmu _ _ _ g₂ m₂)
            simp at e; omega
        · by_cases q₂ : h.next = i₂
          · rw [if_neg q₁] at g₁; rw [if_pos q₂] at g₂
            injection g₂ with g₂; subst g₂; subst q₂
            rw [Ctx.add_same] at m₂; injection m₂ with m₂; subst m₂
            have := R.lt g₁ (oldmu _ _ _ g₁ m₁)
            simp at e; omega
          · rw [if_neg q₁] at g₁; rw [if_neg q₂] at g₂
            exact R.inj _ _ _ _ _ _ g₁ g₂ (oldmu _ _ _ g₁ m₁) (oldmu _ _ _ g₂ m₂) e
      base := fun id blk c h1 h2 => by
        rw [get_new] at h1
        split at h1
        · rename_i he; subst he; injection h1 with h1; subst h1; rw [Ctx.add_same] at h2; injection h2 with h2; subst h2; exact R.ext.size
        · exact R.base id blk c h1 (oldmu id blk c h1 h2)
      top := fun id blk g c h1 h2 => by
        rw [get_new] at h1
        split at h1
        · rename_i he; subst he; injection h1 with h1; subst h1
          by_cases q : g = b.gen
          · omega
          · rw [Ctx.add_other _ _ (by simp [q]), hf h.next g (Nat.le_refl _) (by omega)] at h2; cases h2
        · have := R.old id blk h1
          rw [Ctx.add_other _ _ (by omega)] at h2
          exact R.top id blk g c h1 h2
      old := fun id blk h1 => by
        rw [get_new] at h1
        split at h1
        · simp [Heap.new]; omega
        · have := R.old id blk h1; simp [Heap.new]; omega
      fz := fun k C hk => by
        obtain ⟨e, fr, h1⟩ := R.fz k C hk
        exact ⟨e, fr, by rw [keep k (Array.getElem?_eq_some_iff.1 h1).1]; exact h1⟩
      nofz := fun id blk c h1 h2 => by
        rw [get_new] at h1
        split at h1
        · rename_i he; subst he; injection h1 with h1; subst h1; rw [Ctx.add_same] at h2; injection h2 with h2; subst h2
          cases hz : Γ.fz w.heap.size with
          | none => exact hz
          | some C => obtain ⟨e, fr, h3⟩ := R.fz _ C hz; have := (Array.getElem?_eq_some_iff.1 h3).1; omega
        · exact R.nofz id blk c h1 (oldmu id blk c h1 h2)
      glob := fun g cells hg => by
        obtain ⟨C, h1, h2⟩ := R.glob g cells hg
        exact ⟨C, h1, LRel.mono (Ctx.noMu_mono hle) h2⟩ } }

/-- A block that is changed where it is. -/
theorem Adv.put (R : Rel w0 T Γ h w) {id : Nat} {b b' : Blk} {c : Nat × Nat} (hg : h.get id = some b) (hm : Γ.mu id b.gen = some c) (hgen : b'.gen = b.gen) {w' : World}
    (ew : ∀ k, k ≠ c.1 → w'.heap[k]? = w.heap[k]?) (es : w'.heap.size = w.heap.size) (e2 : w'.os = w.os) (e3 : w'.tape = w.tape) (e4 : w'.output = w.output)
    (hb : BlkRel Γ w' b' c) {h' : Heap} {d : Nat × Option (Nat × Nat)} (hd : d.1 = id) (n1 : h'.next = h.next) (n2 : ∀ i, h'.get i = if id = i then some b' else h.get i) (n3 : h'.dirty = d :: h.dirty)
    (n4 : ∀ a m, d.2 = some (a, m) → ∀ off n, off + n ≤ a ∨ a + m ≤ off → b'.seg off n = b.seg off n := by (intro a m q; cases q)) :
    Adv w0 T Γ h w Γ h' w' [d] := by
  have back : ∀ i blk' c', h'.get i = some blk' → Γ.mu i blk'.gen = some c' → ∃ blk, h.get i = some blk ∧ blk.gen = blk'.gen ∧ Γ.mu i blk.gen = some c' := fun i blk' c' h1 h2 => by
    rw [n2] at h1
    split at h1
    · rename_i he; subst he; injection h1 with h1; subst h1; exact ⟨b, hg, hgen.symm, by rw [← hgen]; exact h2⟩
    · exact ⟨blk', h1, rfl, h2⟩
  exact {
    le := .refl _
    next := by rw [n1]; exact Nat.le_refl _
    size := by rw [es]; exact Nat.le_refl _
    frame := fun k hk hD => ew k fun e => hD id b c hg hm ⟨d, by simp, hd⟩ e.symm
    mu := fun _ _ _ h => .inl h
    was := fun i b1 c1 h1 h2 _ => by
      obtain ⟨blk, g1, g2, g3⟩ := back i b1 c1 h1 h2
      exact ⟨blk, c1, g1, g3, .inl rfl⟩
    new := fun i b1 c1 h1 h2 h3 => by
      obtain ⟨blk, g1, g2, g3⟩ := back i b1 c1 h1 h2
      have := R.old i blk g1; omega
    dirty := by rw [n3]; rfl
    log := ⟨fun i hi hD => by rw [n2, if_neg fun e => hD d (by simp) (hd.trans e)], fun i off n hi hD => by
      by_cases e : id = i
      · subst e
        obtain ⟨a, m, q1, q2⟩ := hD d (by simp) hd
        rw [n2, if_pos rfl, hg]
        exact n4 a m q1 off n q2
      · rw [n2, if_neg e]⟩
    dom := fun e he _ => by
      simp only [List.mem_singleton] at he
      subst he
      rw [hd]
      exact ⟨b, c, hg, hm⟩
    fzn := fun _ _ h => .inl h
    rel := {
      ext := R.ext.trans ⟨e2, e3, e4, by rw [es]; exact Nat.le_refl _, fun k hk => ew k fun e => by have := R.base id b c hg hm; omega⟩
      blk := fun i b1 c1 h1 h2 => by
        rw [n2] at h1
        split at h1
        · rename_i he; subst he; injection h1 with h1; subst h1
          rw [hgen, hm] at h2; injection h2 with h2; subst h2; exact hb
        · rename_i he
          refine (R.blk i b1 c1 h1 h2).keep (.refl _) (ew _ fun e => he (R.inj _ _ _ _ _ _ hg h1 hm h2 e.symm))
      inj := fun i₁ i₂ b₁ b₂ c₁ c₂ g₁ g₂ m₁ m₂ e => by
        obtain ⟨k₁, x₁, y₁, z₁⟩ := back _ _ _ g₁ m₁
        obtain ⟨k₂, x₂, y₂, z₂⟩ := back _ _ _ g₂ m₂
        exact R.inj _ _ _ _ _ _ x₁ x₂ z₁ z₂ e
      base := fun i b1 c1 h1 h2 => by
        obtain ⟨k, x, y, z⟩ := back _ _ _ h1 h2
        exact R.base _ _ _ x z
      top := fun i b1 g c1 h1 h2 => by
        rw [n2] at h1
        split at h1
        · rename_i he; subst he; injection h1 with h1; subst h1; rw [hgen]; exact R.top _ _ _ _ hg h2
        · exact R.top _ _ _ _ h1 h2
      old := fun i b1 h1 => by
        rw [n1]
        rw [n2] at h1
        split at h1
        · rename_i he; subst he; exact R.old _ _ hg
        · exact R.old _ _ h1
      fz := fun k C hk => by
        obtain ⟨e, fr, h1⟩ := R.fz k C hk
        refine ⟨e, fr, ?_⟩
        rw [ew k fun e => ?_]; exact h1
        have := R.nofz id b c hg hm
        rw [← e, hk] at this; cases this
      nofz := fun i b1 c1 h1 h2 => by
        obtain ⟨k, x, y, z⟩ := back _ _ _ h1 h2
        exact R.nofz _ _ _ x z
      glob := R.glob } }

/-- A block whose version rises: where it was, or elsewhere. -/
theorem Adv.bump (R : Rel w0 T Γ h w) {id : Nat} {b b' : Blk} {c c' : Nat × Nat} (hg : h.get id = some b) (hm : Γ.mu id b.gen = some c) (hgen : b'.gen = b.gen + 1) {w' : World}
    (ew : ∀ k, k < w.heap.size → k ≠ c.1 → w'.heap[k]? = w.heap[k]?) (es : w.heap.size ≤ w'.heap.size) (e2 : w'.os = w.os) (e3 : w'.tape = w.tape) (e4 : w'.output = w.output)
    (hc : c'.1 = c.1 ∨ w.heap.size ≤ c'.1)
    (hb : ∀ Δ, Γ.Le Δ → BlkRel Δ w' b' c') {h' : Heap} (n1 : h'.next = h.next) (n2 : ∀ i, h'.get i = if id = i then some b' else h.get i) (n3 : h'.dirty = (id, none) :: h.dirty) :
    Adv w0 T Γ h w (Γ.add id b'.gen c') h' w' [(id, none)] := by
  have hno : Γ.mu id b'.gen = none := by
    cases hq : Γ.mu id b'.gen with
    | none => rfl
    | some d => have := R.top id b _ d hg hq; omega
  have hle := Ctx.add_le (Γ := Γ) c' hno
  have oldmu : ∀ i blk d, id ≠ i → (Γ.add id b'.gen c').mu i blk = some d → Γ.mu i blk = some d := fun i blk d hi h2 => by
    rwa [Ctx.add_other _ _ (by omega)] at h2
  have newfz : Γ.fz c'.1 = none := by
    rcases hc with hc | hc
    · rw [hc]; exact R.nofz id b c hg hm
    · cases hz : Γ.fz c'.1 with
      | none => rfl
      | some C => obtain ⟨e, fr, h3⟩ := R.fz _ C hz; have := (Array.getElem?_eq_some_iff.1 h3).1; omega
  have newbase : w0.heap.size ≤ c'.1 := by
    have := R.base id b c hg hm
    have := R.ext.size
    omega
  exact {
    le := hle
    next := by rw [n1]; exact Nat.le_refl _
    size := es
    frame := fun k hk hD => ew k hk fun e => hD id b c hg hm ⟨(id, none), by simp, rfl⟩ e.symm
    mu := fun i g d hd => by
      by_cases he : i = id ∧ g = b'.gen
      · right; right; rw [he.1]; exact ⟨R.old _ _ hg, by simp⟩
      · rw [Ctx.add_other _ _ he] at hd; exact .inl hd
    was := fun i b1 c1 h1 h2 h3 => by
      rw [n2] at h1
      split at h1
      · rename_i he; subst he; injection h1 with h1; subst h1
        rw [Ctx.add_same] at h2; injection h2 with h2; subst h2
        exact ⟨b, c, hg, hm, hc⟩
      · rename_i he; exact ⟨b1, c1, h1, oldmu _ _ _ he h2, .inl rfl⟩
    new := fun i b1 c1 h1 h2 h3 => by
      rw [n2] at h1
      split at h1
      · rename_i he; subst he; have := R.old _ _ hg; omega
      · have := R.old _ _ h1; omega
    dirty := by rw [n3]; rfl
    log := ⟨fun i hi hD => by rw [n2, if_neg fun e => hD (id, none) (by simp) e], fun i off n hi hD => by
      by_cases e : id = i
      · subst e
        obtain ⟨a, m, q1, q2⟩ := hD (id, none) (by simp) rfl
        cases q1
      · rw [n2, if_neg e]⟩
    dom := fun e he _ => by
      simp only [List.mem_singleton] at he
      subst he
      exact ⟨b, c, hg, hm⟩
    fzn := fun _ _ h => .inl h
    rel := {
      ext := R.ext.trans ⟨e2, e3, e4, es, fun k hk => by
        have := R.base id b c hg hm
        have := R.ext.size
        exact ew k (by omega) (by omega)⟩
      blk := fun i b1 c1 h1 h2 => by
        rw [n2] at h1
        split at h1
        · rename_i he; subst he; injection h1 with h1; subst h1
          rw [Ctx.add_same] at h2; injection h2 with h2; subst h2; exact hb _ hle
        · rename_i he
          have h3 := oldmu _ _ _ he h2
          exact (R.blk i b1 c1 h1 h3).keep hle (ew _ (R.lt h1 h3) fun e => he (R.inj _ _ _ _ _ _ hg h1 hm h3 e.symm))
      inj := fun i₁ i₂ b₁ b₂ c₁ c₂ g₁ g₂ m₁ m₂ e => by
        rw [n2] at g₁ g₂
        by_cases q₁ : id = i₁
        · by_cases q₂ : id = i₂
          · omega
          · rw [if_pos q₁] at g₁; rw [if_neg q₂] at g₂
            injection g₁ with g₁; subst g₁; subst q₁
            rw [Ctx.add_same] at m₁; injection m₁ with m₁; subst m₁
            have m₃ := oldmu _ _ _ q₂ m₂
            have := R.lt g₂ m₃
            rcases hc with hc | hc
            · exact R.inj _ _ _ _ _ _ hg g₂ hm m₃ (by omega)
            · omega
        · by_cases q₂ : id = i₂
          · rw [if_neg q₁] at g₁; rw [if_pos q₂] at g₂
            injection g₂ with g₂; subst g₂; subst q₂
            rw [Ctx.add_same] at m₂; injection m₂ with m₂; subst m₂
            have m₃ := oldmu _ _ _ q₁ m₁
            have := R.lt g₁ m₃
            rcases hc with hc | hc
            · exact R.inj _ _ _ _ _ _ g₁ hg m₃ hm (by omega)
            · omega
          · rw [if_neg q₁] at g₁; rw [if_neg q₂] at g₂
            exact R.inj _ _ _ _ _ _ g₁ g₂ (oldmu _ _ _ q₁ m₁) (oldmu _ _ _ q₂ m₂) e
      base := fun i b1 c1 h1 h2 => by
        rw [n2] at h1
        split at h1
        · rename_i he; subst he; injection h1 with h1; subst h1; rw [Ctx.add_same] at h2; injection h2 with h2; subst h2; exact newbase
        · rename_i he; exact R.base _ _ _ h1 (oldmu _ _ _ he h2)
      top := fun i b1 g c1 h1 h2 => by
        rw [n2] at h1
        split at h1
        · rename_i he; subst he; injection h1 with h1; subst h1
          by_cases q : g = b'.gen
          · omega
          · rw [Ctx.add_other _ _ (by simp [q])] at h2
            have := R.top _ _ _ _ hg h2; omega
        · rename_i he; exact R.top _ _ _ _ h1 (oldmu _ _ _ he h2)
      old := fun i b1 h1 => by
        rw [n1]
        rw [n2] at h1
        split at h1
        · rename_i he; subst he; exact R.old _ _ hg
        · exact R.old _ _ h1
      fz := fun k C hk => by
        obtain ⟨e, fr, h1⟩ := R.fz k C hk
        refine ⟨e, fr, ?_⟩
        have hlt := (Array.getElem?_eq_some_iff.1 h1).1
        rw [ew k hlt fun e => ?_]; exact h1
        have := R.nofz id b c hg hm
        rw [← e, show Γ.fz k = some C from hk] at this; cases this
      nofz := fun i b1 c1 h1 h2 => by
        rw [n2] at h1
        split at h1
        · rename_i he; subst he; injection h1 with h1; subst h1; rw [Ctx.add_same] at h2; injection h2 with h2; subst h2; exact newfz
        · rename_i he; exact R.nofz _ _ _ h1 (oldmu _ _ _ he h2)
      glob := fun g cells hg' => by
        obtain ⟨C, h1, h2⟩ := R.glob g cells hg'
        exact ⟨C, h1, LRel.mono (Ctx.noMu_mono hle) h2⟩ } }
end
end Go.B
end
section
/- Reading and writing cells, on B's heap and in a world; what is known of types. -/
namespace Go.B
open Go Go.RowKit

/-- The model's row for it. -/
def Ext.row : Ext → Array Value → Sem Value
  | .indexByte => Extern.BytealgIndexByte.indexByte
  | .count => Extern.BytealgCount.count
  | .same => Extern.AbiNoEscape.same
  | .loadU32 => Extern.Atomic.loadT (.int .u32)
  | .storeU32 => Extern.Atomic.storeT
  | .casI32 => Extern.Atomic.casT (.int .i32)
  | .addI32 => Extern.Atomic.update (Op.intArith .add) .i32 true
  | .disable => fun _ => do mark .disable; pure Extern.Race.none_
  | .enable => fun _ => do mark .enable; pure Extern.Race.none_
  | .acquire => Extern.Race.marked .acquire
  | .releaseMerge => Extern.Race.marked .releaseMerge

structure ExtOk (F : Func) (e : Ext) : Prop where
  name : (F.name == "runtime.NumGoroutine") = false
  body : F.body.isNone = true
  next : Extern.findNext F = none
  row : Extern.find F = some e.row

structure TabOk (P : Program) (T : Tab) : Prop where
  fn : ∀ f F, T.fn f = some F → P.funcs[f]? = some F ∧ (F.name == "runtime.NumGoroutine") = false
  ext : ∀ f F e, T.fn f = some F → T.ext f = some e → ExtOk F e
  info : ∀ t i, T.info t = some i → P.info? t = some i
  under : ∀ t d, T.under t = some d → P.underlying t = some d
  self : ∀ u, T.self u = true → liesAt P P.depth u 1 0 u 1 = true
  eqOk : ∀ t, T.eqOk t = true → P.eqGuardType P.depth t = false ∧ P.stoodInHeld t = false

section
variable {P : Program} {T : Tab} (hT : TabOk P T)
include hT

theorem run_under {t : TypeId} {d : TypeDesc} (h : T.under t = some d) (w : World) : (underlying t).run P w = .ok d w := run_underlying (hT.under t d h) w

theorem run_info {t : TypeId} {i : TypeInfo} (h : T.info t = some i) (w : World) : (typeInfo t).run P w = .ok i w := by
  simp [typeInfo, hT.info t i h]

theorem run_size {t : TypeId} {n : Nat} (h : sizeOf T t = some n) (w : World) : (Go.sizeOf t).run P w = .ok n w := by
  simp only [sizeOf, Option.map_eq_some_iff] at h
  obtain ⟨i, h1, rfl⟩ := h
  simp [Go.sizeOf, run_info hT h1 w]

theorem run_agg {t : TypeId} {b : Bool} (h : isAgg T t = some b) (w : World) : (Go.isAgg t).run P w = .ok b w := by
  simp only [isAgg, Option.map_eq_some_iff] at h
  obtain ⟨d, h1, h2⟩ := h
  unfold Go.isAgg
  rw [Sem.run_bind, run_under hT h1 w]
  cases d <;> simp_all

theorem run_zero {t : TypeId} {z : Val} (h : zeroV T t = some z) : ∃ z', (∀ w, (zeroValue t).run P w = .ok z' w) ∧ (∀ Γ, VRel Γ z z') ∧ ofValue z' = some z := by
  unfold zeroV at h
  split at h
  · rename_i i h1
    split at h
    · rename_i v h2
      exact ⟨v, fun w => by simp [zeroValue, run_info hT h1 w, h2], fun Γ => ofValue_rel h, h⟩
    · cases h
  · cases h
end

theorem bif_some {α : Type} {b : Bool} {y : Option α} {r : α} (h : (bif b then y else none) = some r) : b = true ∧ y = some r := by
  cases b <;> simp_all

theorem cut_eq {l r : List Val} {off n : Nat} (h : cut l off n = some r) : r = (l.drop off).take n ∧ r.length = n := by
  simp only [cut] at h
  obtain ⟨hb, h⟩ := bif_some h
  injection h with h; subst h
  exact ⟨rfl, nat_beq_eq hb⟩

theorem cell_at {w : World} {b : Nat} {C : Array Value} {e : TypeId} {fr : Nat × Nat} (h : w.heap[b]? = some (.cells C e fr)) (off j : Nat) : w.cell? ((⟨b, off, none⟩ : Addr).add j) = C[off + j]? := by
  rw [show (⟨b, off, none⟩ : Addr).add j = ⟨b, off + j, none⟩ from by unfold Addr.add; split <;> simp_all]
  simp [World.cell?, h]

section
variable {P : Program} {w0 : World} {T : Tab} {Γ : Ctx} {h : Heap} {w : World}

theorem read_row {C : Array Value} {e : TypeId} {fr : Nat × Nat} {b : Nat} (hw : w.heap[b]? = some (.cells C e fr)) {cells cs : List Val} (hr : LRel Γ cells (C.toList.take cells.length)) {off n : Nat}
    (hc : cut cells off n = some cs) : ∃ vs : List Value, LRel Γ cs vs ∧ vs.length = n ∧ ∀ j v, vs[j]? = some v → w.cell? ((⟨b, off, none⟩ : Addr).add j) = some v := by
  obtain ⟨rfl, hl⟩ := cut_eq hc
  refine ⟨((C.toList.take cells.length).drop off).take n, (hr.drop off).take n, ?_, ?_⟩
  · rw [← ((hr.drop off).take n).length]; exact hl
  · intro j v hj
    rw [cell_at hw]
    simp only [List.getElem?_take, List.getElem?_drop] at hj
    split at hj
    · split at hj
      · simpa using hj
      · cases hj
    · cases hj

theorem read_rel (R : Rel w0 T Γ h w) {p : Val} {p' : Value} (hp : VRel Γ p p') {n : Nat} {cs : List Val} (hr : readCells T h p n = some cs) :
    ∃ (a : Addr) (vs : List Value), p' = .pointer (some a) ∧ LRel Γ cs vs ∧ vs.length = n ∧ ∀ j v, vs[j]? = some v → w.cell? (a.add j) = some v := by
  unfold readCells at hr
  split at hr
  · rename_i id gen off
    split at hr
    · rename_i cells g o fz sz el hg
      obtain ⟨hb, hc⟩ := bif_some hr
      have hb := nat_beq_eq hb
      subst hb
      cases hp with
      | ptr hm =>
        obtain ⟨C, fr, hrow⟩ := R.blk id _ _ hg hm
        obtain ⟨vs, h1, h2, h3⟩ := read_row hrow.heap hrow.rel hc
        exact ⟨_, vs, rfl, h1, h2, h3⟩
    · cases hr
  · rename_i cells off
    cases hp with
    | fptr f hz hc hv =>
      rename_i b s C
      obtain ⟨e, fr, hw⟩ := R.fz _ _ hz
      obtain ⟨rfl, hl⟩ := cut_eq hr
      refine ⟨_, (List.range n).map (fun j => f (off + j)), rfl, F2.of_get (by simpa using hl) ?_, by simp, ?_⟩
      · intro j x y hx hy
        simp only [List.getElem?_take, List.getElem?_drop] at hx
        split at hx
        · simp only [List.getElem?_map, Option.map_eq_some_iff] at hy
          obtain ⟨k, hk, rfl⟩ := hy
          rw [List.getElem?_range (by assumption)] at hk
          injection hk with hk; subst hk
          exact (hv _ _ hx).mono (Ctx.noMu_le _)
        · cases hx
      · intro j v hj
        simp only [List.getElem?_map, Option.map_eq_some_iff] at hj
        obtain ⟨k, hk, rfl⟩ := hj
        have hjn : j < n := by
          rcases Nat.lt_or_ge j n with h | h
          · exact h
          · rw [List.getElem?_eq_none (by simpa using h)] at hk; cases hk
        rw [List.getElem?_range hjn] at hk
        injection hk with hk; subst hk
        rw [cell_at hw]
        have : ∃ x, cells[off + j]? = some x := by
          have h1 : j < ((cells.drop off).take n).length := by omega
          have h2 := List.getElem?_eq_getElem h1
          simp only [List.getElem?_take, List.getElem?_drop] at h2
          split at h2
          · exact ⟨_, h2⟩
          · omega
        obtain ⟨x, hx⟩ := this
        rw [Nat.add_assoc]
        exact hc _ _ hx
  · rename_i g off
    split at hr
    · rename_i cells hg
      cases hp with
      | gptr =>
        obtain ⟨C, hz, hrel⟩ := R.glob _ _ hg
        obtain ⟨e, fr, hw⟩ := R.fz _ _ hz
        obtain ⟨vs, h1, h2, h3⟩ := read_row hw hrel hr
        exact ⟨_, vs, rfl, LRel.mono (Ctx.noMu_le _) h1, h2, h3⟩
    · cases hr
  · cases hr

theorem read_run (R : Rel w0 T Γ h w) {p : Val} {p' : Value} (hp : VRel Γ p p') {n : Nat} {cs : List Val} (hr : readCells T h p n = some cs) :
    ∃ (a : Addr) (vs : List Value), p' = .pointer (some a) ∧ LRel Γ cs vs ∧ vs.length = n ∧ (loadCells a n).run P w = .ok vs.toArray w ∧ (∀ v, vs[0]? = some v → w.cell? a = some v) := by
  obtain ⟨a, vs, h1, h2, h3, h4⟩ := read_rel R hp hr
  refine ⟨a, vs, h1, h2, h3, ?_, fun v hv => by simpa [Addr.add] using h4 0 v hv⟩
  rw [← h3]
  exact run_loadCells_list w a vs h4

theorem load_run (hT : TabOk P T) (R : Rel w0 T Γ h w) {p : Val} {p' : Value} (hp : VRel Γ p p') {t : TypeId} {v : Val} (hl : loadV T h t p = some v) :
    ∃ (a : Addr) (v' : Value), p' = .pointer (some a) ∧ (loadVar t a).run P w = .ok v' w ∧ VRel Γ v v' := by
  unfold loadV at hl
  split at hl
  · rename_i ha
    split at hl
    · rename_i n hn
      simp only [Option.map_eq_some_iff] at hl
      obtain ⟨cs, hr, rfl⟩ := hl
      obtain ⟨a, vs, rfl, h2, h3, h4, _⟩ := read_run (P := P) R hp hr
      refine ⟨a, .agg vs.toArray, rfl, ?_, VRel.agg_iff.2 ⟨_, rfl, by simpa using h2⟩⟩
      simp [loadVar, run_agg hT ha, run_size hT hn, h4]
    · cases hl
  · rename_i ha
    split at hl
    · rename_i v0 hr
      injection hl with hl; subst hl
      obtain ⟨a, vs, rfl, h2, h3, h4, h5⟩ := read_run (P := P) R hp hr
      obtain ⟨v', vs', rfl, h6, h7⟩ := F2.cons_left h2
      refine ⟨a, v', rfl, ?_, h6⟩
      have := h5 v' (by simp)
      simp [loadVar, run_agg hT ha, this]
    · cases hl
  · cases hl

/-- Cells that are stored, where none of them is frozen. -/
theorem run_storeCells_free (g o : Nat) (t : TypeId) (fz : Nat × Nat) : ∀ (vs : List Value) (i : Nat) (cur : Array Value) (w : World), w.heap[g]? = some (.cells cur t fz) →
    (∀ j, o + i ≤ j → j < cur.size → ¬ (fz.1 ≤ j ∧ j < fz.2)) → o + i + vs.length ≤ cur.size → (∀ v ∈ vs, v.oneCell' = true) →
    (storeCells ⟨g, o, none⟩ vs i).run P w = .ok () (w.setRow g (cur.toList.take (o + i) ++ vs ++ cur.toList.drop (o + i + vs.length)).toArray)
  | [], i, cur, w, hg, _, _, _ => by
    simp only [storeCells, List.append_nil, List.length_nil, Nat.add_zero, List.take_append_drop, Array.toArray_toList]
    rw [setRow_self w g cur t fz hg]
    rfl
  | v :: rest, i, cur, w, hg, hfz, hl, h1 => by
    have hi : o + i < cur.size := by simp at hl; omega
    have hadd : (⟨g, o, none⟩ : Addr).add i = ⟨g, o + i, none⟩ := by unfold Addr.add; split <;> simp_all
    have hcell : w.cell? ⟨g, o + i, none⟩ = some cur[o + i] := by simp [World.cell?, hg, hi]
    have hfro : w.frozen? ⟨g, o + i, none⟩ = false := by
      have := hfz (o + i) (Nat.le_refl _) hi
      obtain ⟨lo, hi'⟩ := fz
      simp only [World.frozen?, hg]
      simp only at this
      rw [Bool.and_eq_false_iff, decide_eq_false_iff_not, decide_eq_false_iff_not]
      omega
    have hst : (store ((⟨g, o, none⟩ : Addr).add i) v).run P w = .ok () (w.setRow g (cur.setIfInBounds (o + i) v)) := by
      rw [hadd, run_store P w _ v _ (h1 v (by simp)), hcell]
      simp [hfro, setCell_eq_setRow w g (o + i) cur t fz v hg]
    have ih := run_storeCells_free g o t fz rest (i + 1) (cur.setIfInBounds (o + i) v) (w.setRow g (cur.setIfInBounds (o + i) v)) (setRow_heap w g cur _ t _ hg)
      (fun j hj1 hj2 => hfz j (by omega) (by simpa using hj2)) (by simp at hl ⊢; omega) (fun x hx => h1 x (by simp [hx]))
    simp only [storeCells, Sem.run_bind, hst, Result.andThen_ok, ih, setRow_setRow]
    congr 3
    have e := list_seg_step cur.toList (o + i) v rest (by simp at hl ⊢; omega)
    simpa [Array.toList_setIfInBounds, Nat.add_assoc] using e

theorem overlay_eq : ∀ (l : List Val) (n : Nat) (vs : List Val), n + vs.length ≤ l.length → overlay l n vs = l.take n ++ vs ++ l.drop (n + vs.length)
  | l, n, [], h => by simp [overlay]
  | [], n, v :: vs, h => by simp at h
  | x :: l, 0, v :: vs, h => by
    simp only [overlay]
    rw [overlay_eq l 0 vs (by simp at h ⊢; omega)]
    simp
  | x :: l, n + 1, v :: vs, h => by
    simp only [overlay]
    rw [overlay_eq l n (v :: vs) (by simp at h ⊢; omega)]
    simp only [List.length_cons, List.take_succ_cons, List.cons_append, List.cons.injEq, true_and]
    rw [show n + 1 + (vs.length + 1) = (n + (vs.length + 1)) + 1 by omega, List.drop_succ_cons]

theorem oneCell_of {l : List Val} {vs : List Value} (h : LRel Γ l vs) (hc : l.all Val.isCell = true) : ∀ v ∈ vs, v.oneCell' = true := by
  induction h with
  | nil => intro v hv; cases hv
  | cons hr _ ih =>
    simp only [List.all_cons, Bool.and_eq_true] at hc
    intro v hv
    cases hv with
    | head =>
      have := hr.cell hc.1
      rename_i b
      cases b <;> simp_all [Value.oneCell']
    | tail _ hv => exact ih hc.2 v hv

theorem setRow_size (w : World) (g : Nat) (cs : Array Value) : (w.setRow g cs).heap.size = w.heap.size := by simp [World.setRow]

theorem overlay_get (l : List Val) (off : Nat) (vs : List Val) (h : off + vs.length ≤ l.length) (j : Nat) (hj : j < off ∨ off + vs.length ≤ j) : (overlay l off vs)[j]? = l[j]? := by
  rw [overlay_eq l off vs h]
  rcases hj with hj | hj
  · rw [List.append_assoc, List.getElem?_append_left (by simp; omega), List.getElem?_take, if_pos hj]
  · rw [List.getElem?_append_right (by simp; omega), List.getElem?_drop]
    congr 1
    simp
    omega

theorem cut_overlay (l : List Val) (off : Nat) (vs : List Val) (h : off + vs.length ≤ l.length) (o n : Nat) (hj : o + n ≤ off ∨ off + vs.length ≤ o) : cut (overlay l off vs) o n = cut l o n := by
  have e : ((overlay l off vs).drop o).take n = (l.drop o).take n := by
    apply List.ext_getElem?
    intro i
    rw [List.getElem?_take, List.getElem?_take, List.getElem?_drop, List.getElem?_drop]
    split
    · exact overlay_get l off vs h (o + i) (by omega)
    · rfl
  simp only [cut, e]

theorem write_run (R : Rel w0 T Γ h w) {p : Val} {p' : Value} (hp : VRel Γ p p') {vs : List Val} {vs' : List Value} (hv : LRel Γ vs vs') {h' : Heap} (hw : writeCells h p vs = some h') :
    ∃ (a : Addr) (w' : World) (id off : Nat), p' = .pointer (some a) ∧ (storeCells a vs').run P w = .ok () w' ∧ Adv w0 T Γ h w Γ h' w' [(id, some (off, vs.length))] := by
  unfold writeCells at hw
  split at hw
  · rename_i id gen off
    split at hw
    · rename_i cells g o fz sz el st hg
      obtain ⟨hb, hc⟩ := bif_some hw
      injection hc with hc; subst hc
      simp only [Bool.and_eq_true] at hb
      obtain ⟨⟨⟨hb1, hb2⟩, hb3⟩, hb4⟩ := hb
      have hb1 := nat_beq_eq hb1
      subst hb1
      have hb2 := Nat.le_of_ble_eq_true hb2
      have hb3 := Nat.le_of_ble_eq_true hb3
      cases hp with
      | ptr hm =>
        rename_i b r
        obtain ⟨C, fr, hrow⟩ := R.blk id _ _ hg hm
        have hlen := hv.length
        have hst := run_storeCells_free (P := P) b off el fr vs' 0 C w hrow.heap (fun j h1 h2 => hrow.free j (by omega) h2) (by have := hrow.fits; omega) (oneCell_of hv hb4)
        simp only [Nat.add_zero] at hst
        refine ⟨_, _, id, off, rfl, hst, ?_⟩
        refine Adv.put R (b := .row cells g o fz sz el st) (b' := .row (overlay cells off vs) g o fz sz el st) hg hm rfl (fun k hk => setRow_other w b k _ hk) (setRow_size _ _ _) rfl rfl rfl ?_ rfl rfl ?_ rfl ?_
        · have hol : (overlay cells off vs).length = cells.length := by rw [overlay_eq _ _ _ hb3]; simp; omega
          have hfits := hrow.fits
          have hsz : (C.toList.take off ++ vs' ++ C.toList.drop (off + vs'.length)).toArray.size = C.size := by simp; omega
          refine ⟨_, fr, { heap := setRow_heap w b C _ el fr hrow.heap, fits := ?_, shut := ?_, opens := ?_, rel := ?_, free := ?_, head := hrow.head }⟩
          · rw [hol, hsz]; exact hfits
          · intro ho; rw [hol, hsz]; exact hrow.shut ho
          · intro ho; rw [hsz]; exact hrow.opens ho
          · rw [hol, overlay_eq _ _ _ hb3]
            have e : (C.toList.take off ++ vs' ++ C.toList.drop (off + vs'.length)).take cells.length = (C.toList.take cells.length).take off ++ vs' ++ (C.toList.take cells.length).drop (off + vs.length) := by
              rw [List.take_append, List.take_append, List.take_take, List.take_take, List.take_of_length_le (l := vs') (by simp; omega), Nat.min_comm, List.drop_take]
              congr 2
              · simp
                omega
              · rw [hlen]
            simp only [e]
            exact ((hrow.rel.take off).append hv).append (hrow.rel.drop _)
          · intro i h1 h2
            refine hrow.free i h1 ?_
            rw [hsz] at h2; exact h2
        · intro i; rw [get_putAt, hg]; rfl
        · intro a' m' q o n hdis
          simp only [Option.some.injEq, Prod.mk.injEq] at q
          obtain ⟨rfl, rfl⟩ := q
          simp only [Blk.seg, cut_overlay cells off vs hb3 o n hdis]
    · cases hw
  · cases hw

theorem store_run (hT : TabOk P T) (R : Rel w0 T Γ h w) {p v : Val} {p' v' : Value} (hp : VRel Γ p p') (hv : VRel Γ v v') {t : TypeId} {h' : Heap} (hs : storeV T h t p v = some h') :
    ∃ (a : Addr) (w' : World) (id off : Nat), p' = .pointer (some a) ∧ (storeVar t a v').run P w = .ok () w' ∧ Adv w0 T Γ h w Γ h' w' [(id, some (off, v.cells.length))] := by
  unfold storeV at hs
  split at hs
  · rename_i n hn
    obtain ⟨hb, hw⟩ := bif_some hs
    have hb := nat_beq_eq hb
    have hd : v ≠ .dead := by
      rintro rfl
      simp only [Val.cells, writeCells] at hw
      split at hw
      · split at hw
        · simp [Val.isCell] at hw
        · cases hw
      · cases hw
    have hc := hv.cells hd
    obtain ⟨a, w', id, off, h1, h2, h3⟩ := write_run (P := P) R hp hc hw
    refine ⟨a, w', id, off, h1, ?_, h3⟩
    have hl := hc.length
    simp only [Array.length_toList] at hl
    simp [storeVar, run_size hT hn, h2, ← hl, hb]
  · cases hs
end
end Go.B
end
