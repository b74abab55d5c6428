/- A part of the proof that scrim/scrimlaw21.QueryPixels returns true at every input. -/
import Derived.Test.YtcchpcpanogbpaaGreatDoorB4
set_option linter.unusedSimpArgs false
set_option linter.unusedVariables false
section
/- What an operation does in B it does in the model: operators. -/
namespace Go.B
open Go Go.RowKit

section
variable {P : Program} {w0 : World} {T : Tab} {Γ : Ctx} {h : Heap} {w : World}

theorem equal_run (hT : TabOk P T) (w : World) {c : Bool} {t : TypeId} {x y : Val} {x' y' : Value} {r : Bool} (hx : VRel Γ x x') (hy : VRel Γ y y') (h : eqV T c 100 t x y = some r) : (Op.equal t x' y').run P w = .ok r w :=
  eq_run hT w 100 c t x y x' y' r hx hy h 9900

theorem eqV_nili {c : Bool} {d : Nat} {t : TypeId} {r : Bool} (h : eqV T c (d + 1) t .nili .nili = some r) : ∃ ms, T.under t = some (.interface ms) ∧ (c || ms.isEmpty) = true := by
  simp only [eqV] at h
  split at h <;> simp_all [someP, someS, someM, someF, nilEqV]
  rename_i ms _
  cases c with
  | true => exact .inl rfl
  | false =>
    right
    have := (bif_some h).1
    simpa using this

theorem eqV_dead_l {c : Bool} {d : Nat} {t : TypeId} {y : Val} {r : Bool} (h : eqV T c d t .dead y = some r) : False := by
  cases d with
  | zero => simp [eqV] at h
  | succ d =>
    simp only [eqV] at h
    split at h <;> simp_all [someP, someS, someM, someF, nilEqV]

theorem eqV_dead_r {c : Bool} {d : Nat} {t : TypeId} {x : Val} {r : Bool} (h : eqV T c d t x .dead = some r) : False := by
  cases d with
  | zero => simp [eqV] at h
  | succ d =>
    simp only [eqV] at h
    split at h <;> simp_all [someP, someS, someM, someF, nilEqV]
    all_goals (split at h <;> simp_all)

theorem eqV_agg {c : Bool} {d : Nat} {t : TypeId} {xs ys : List Val} {r : Bool} (h : eqV T c (d + 1) t (.agg xs) (.agg ys) = some r) : T.eqOk t = true := by
  simp only [eqV] at h
  split at h <;> simp_all [someP, someS, someM, someF, nilEqV]
  all_goals exact (bif_some h).1

theorem eqGuardIn_nil (hT : TabOk P T) (w : World) {t : TypeId} {ms : Array (String × TypeId)} (hu : T.under t = some (.interface ms)) (d : Nat) : (Op.eqGuardIn (d + 1) t .nilIface .nilIface).run P w = .ok (!ms.isEmpty) w := by
  simp [Op.eqGuardIn, run_under hT hu]

theorem eqGuard_eql (hT : TabOk P T) (w : World) {t : TypeId} {x y : Val} {ox oy : Operand} {x' y' : Value} {r : Bool} (hx : VRel Γ x x') (hy : VRel Γ y y')
    (h : eqV T (isConst ox || isConst oy) 100 t x y = some r) : (eqGuard .eql t ox oy x' y').run P w = .ok () w := by
  simp only [eqGuard, Bool.not_true, Bool.false_eq_true, if_false]
  split
  · have hx0 : x = .nili := by
      cases hx with
      | nili => rfl
      | dead => exact (eqV_dead_l h).elim
    have hy0 : y = .nili := by
      cases hy with
      | nili => rfl
      | dead => exact (eqV_dead_r h).elim
    subst hx0; subst hy0
    obtain ⟨ms, hu, hc⟩ := eqV_nili h
    clear h hx hy
    cases ox <;> cases oy <;> first
      | rfl
      | (have hm : ms.isEmpty = true := by simpa [B.isConst] using hc
         have hg : (Op.eqGuardIn Op.maxDepth t .nilIface .nilIface).run P w = .ok false w := by
           have := eqGuardIn_nil hT w hu 9999
           rw [hm] at this
           exact this
         simp [hg])
  · have hx0 : ∃ xs, x = .agg xs := by
      cases hx with
      | agg => exact ⟨_, rfl⟩
      | dead => exact (eqV_dead_l h).elim
    have hy0 : ∃ ys, y = .agg ys := by
      cases hy with
      | agg => exact ⟨_, rfl⟩
      | dead => exact (eqV_dead_r h).elim
    obtain ⟨xs, rfl⟩ := hx0
    obtain ⟨ys, rfl⟩ := hy0
    have := (hT.eqOk t (eqV_agg h)).1
    simp [this]
  · rfl

theorem str_rel {s : List UInt8} {x : ByteArray} (h : x = ⟨s.toArray⟩) : VRel Γ (.str s) (.string x) := h ▸ .str s

theorem bytesLt_eq : ∀ (a b : List UInt8), bytesLt a b = Op.bytesLess a b
  | _, [] => by cases ‹List UInt8› <;> rfl
  | [], _ :: _ => rfl
  | a :: x, b :: y => by simp only [bytesLt, Op.bytesLess, bytesLt_eq x y]

theorem strOp_run (w : World) {op : BinOp} {a b : List UInt8} {v : Val} (h : strOp op a b = some v) : ∃ v', (Op.stringOp op ⟨a.toArray⟩ ⟨b.toArray⟩).run P w = .ok v' w ∧ VRel Γ v v' := by
  have hl : ∀ s : List UInt8, (⟨s.toArray⟩ : ByteArray).toList = s := fun s => by rw [ByteArray.toList_eq]
  have hs : ∀ s : List UInt8, (⟨s.toArray⟩ : ByteArray).size = s.length := fun s => by simp [ByteArray.size]
  cases op <;> simp only [strOp, reduceCtorEq] at h
  · obtain ⟨hb, h⟩ := bif_some h
    injection h with h; subst h
    have hb := Nat.le_of_ble_eq_true hb
    refine ⟨.string (⟨a.toArray⟩ ++ ⟨b.toArray⟩), ?_, str_rel (by apply ByteArray.ext; simp)⟩
    have : ¬ (9223372036854775807 < (a.length : Int) + (b.length : Int)) := by omega
    simp [Op.stringOp, hs, this]
  all_goals (injection h with h; subst h; exact ⟨_, by simp only [Op.stringOp, hl, Sem.run_pure, bytesLt_eq], .bool _⟩)

theorem intOp_run (w : World) {op : BinOp} {t : TypeId} {k : IntKind} {a b : Int} {v : Val} (hop : op ≠ .shl ∧ op ≠ .shr) (h : intOp op k a b = some v) : ∃ v', (binOp op t (.int k a) (.int k b)).run P w = .ok v' w ∧ VRel Γ v v' := by
  cases op <;> simp only [intOp, reduceCtorEq] at h <;> first
    | (exact absurd rfl hop.1)
    | (exact absurd rfl hop.2)
    | (split at h
       · cases h
       · rename_i hb
         injection h with h; subst h
         exact ⟨_, by simp [binOp, Op.intDiv, hb], .int _ _⟩)
    | (injection h with h; subst h; exact ⟨_, (by simp [binOp, Op.intArith, Op.intBits]), .int _ _⟩)
    | (injection h with h; subst h; exact ⟨_, (by simp [binOp, Op.intCmp]), .bool _⟩)

theorem shiftOp_run (w : World) {op : BinOp} {t : TypeId} {k yk : IntKind} {a b : Int} {v : Val} (hop : op = .shl ∨ op = .shr) (h : shiftOp op k a b = some v) : ∃ v', (binOp op t (.int k a) (.int yk b)).run P w = .ok v' w ∧ VRel Γ v v' := by
  rcases hop with rfl | rfl
  · simp only [shiftOp] at h
    split at h
    · cases h
    · rename_i hb
      injection h with h; subst h
      exact ⟨_, by simp [binOp, Op.shift, hb], .int _ _⟩
  · simp only [shiftOp] at h
    split at h
    · cases h
    · rename_i hb
      injection h with h; subst h
      exact ⟨_, by simp [binOp, Op.shift, hb], .int _ _⟩

theorem eqGuard_int {op : BinOp} {t : TypeId} {ox oy : Operand} (k k' : IntKind) (a b : Int) : eqGuard op t ox oy (.int k a) (.int k' b) = pure () := eqGuard_at_int _ _ _ _ _ _ _
theorem eqGuard_str {op : BinOp} {t : TypeId} {ox oy : Operand} (a b : ByteArray) : eqGuard op t ox oy (.string a) (.string b) = pure () := eqGuard_at_string _ _ _ _ _ _

theorem binOp_eql_other (hT : TabOk P T) (w : World) {c : Bool} {t : TypeId} {x y : Val} {x' y' : Value} {r : Bool} (hx : VRel Γ x x') (hy : VRel Γ y y') (hi : ∀ k n k' n', ¬ (x = .int k n ∧ y = .int k' n')) (hs : ∀ s s', ¬ (x = .str s ∧ y = .str s'))
    (h : eqV T c 100 t x y = some r) : (binOp .eql t x' y').run P w = .ok (.bool r) w ∧ (binOp .neq t x' y').run P w = .ok (.bool !r) w := by
  have he := equal_run hT w hx hy h
  have hx0 : x ≠ .dead := by rintro rfl; exact eqV_dead_l h
  have hy0 : y ≠ .dead := by rintro rfl; exact eqV_dead_r h
  have h1 : ∀ k n k' n', ¬ (x' = .int k n ∧ y' = .int k' n') := by
    rintro k n k' n' ⟨rfl, rfl⟩
    cases hx with
    | int => cases hy with
      | int => exact hi _ _ _ _ ⟨rfl, rfl⟩
      | dead => exact hy0 rfl
    | dead => exact hx0 rfl
  have h2 : ∀ s s', ¬ (x' = .string s ∧ y' = .string s') := by
    rintro s s' ⟨rfl, rfl⟩
    cases hx with
    | str => cases hy with
      | str => exact hs _ _ ⟨rfl, rfl⟩
      | dead => exact hy0 rfl
    | dead => exact hx0 rfl
  have h3 : (∀ k n, x' ≠ .float k n) ∧ (∀ k n m, x' ≠ .complex k n m) := by
    constructor
    · rintro k n rfl; cases hx; exact hx0 rfl
    · rintro k n m rfl; cases hx; exact hx0 rfl
  constructor
  · have : binOp .eql t x' y' = (do pure (.bool (← Op.equal t x' y'))) := by
      unfold binOp
      cases x' <;> cases y' <;> first | rfl | exact absurd ⟨rfl, rfl⟩ (h1 _ _ _ _) | exact absurd ⟨rfl, rfl⟩ (h2 _ _) | exact absurd rfl (h3.1 _ _) | exact absurd rfl (h3.2 _ _ _)
    rw [this]; simp [he]
  · have : binOp .neq t x' y' = (do pure (.bool (!(← Op.equal t x' y')))) := by
      unfold binOp
      cases x' <;> cases y' <;> first | rfl | exact absurd ⟨rfl, rfl⟩ (h1 _ _ _ _) | exact absurd ⟨rfl, rfl⟩ (h2 _ _) | exact absurd rfl (h3.1 _ _) | exact absurd rfl (h3.2 _ _ _)
    rw [this]; simp [he]

theorem bin_run (hT : TabOk P T) (w : World) {op : BinOp} {t : TypeId} {x y : Val} {ox oy : Operand} {x' y' : Value} (hx : VRel Γ x x') (hy : VRel Γ y y') {v : Val} (h : binV T op t x y (isConst ox || isConst oy) = some v) :
    ∃ v', (do eqGuard op t ox oy x' y'; binOp op t x' y' : Sem Value).run P w = .ok v' w ∧ VRel Γ v v' := by
  unfold binV at h
  split at h
  · rename_i k a k' b
    cases hx; cases hy
    simp only [eqGuard_int, Sem.run_bind, Sem.run_pure, Result.andThen_ok]
    split at h
    · exact shiftOp_run w (.inl rfl) h
    · exact shiftOp_run w (.inr rfl) h
    · rename_i h1 h2
      split at h
      · rename_i hk
        subst hk
        exact intOp_run w ⟨h1, h2⟩ h
      · cases h
  · rename_i a b
    cases hx; cases hy
    simp only [eqGuard_str, Sem.run_bind, Sem.run_pure, Result.andThen_ok]
    have : ∀ a b : ByteArray, binOp op t (.string a) (.string b) = Op.stringOp op a b := fun a b => by cases op <;> rfl
    rw [this]
    exact strOp_run w h
  · rename_i hi hs
    split at h
    · simp only [Option.map_eq_some_iff] at h
      obtain ⟨r, hr, rfl⟩ := h
      refine ⟨.bool r, ?_, .bool r⟩
      simp only [Sem.run_bind, eqGuard_eql hT w hx hy hr, Result.andThen_ok]
      exact (binOp_eql_other hT w hx hy (fun k n k' n' h => hi k n k' n' h.1 h.2) (fun s s' h => hs s s' h.1 h.2) hr).1
    · simp only [Option.map_eq_some_iff] at h
      obtain ⟨r, hr, rfl⟩ := h
      refine ⟨.bool !r, ?_, .bool _⟩
      have hg : eqGuard .neq t ox oy x' y' = eqGuard .eql t ox oy x' y' := rfl
      simp only [Sem.run_bind, hg, eqGuard_eql hT w hx hy hr, Result.andThen_ok]
      exact (binOp_eql_other hT w hx hy (fun k n k' n' h => hi k n k' n' h.1 h.2) (fun s s' h => hs s s' h.1 h.2) hr).2
    · cases h

theorem un_run (w : World) {op : UnOp} {x : Val} {x' : Value} (hx : VRel Γ x x') {v : Val} (h : unV op x = some v) : ∃ v', (Op.unary op x').run P w = .ok v' w ∧ VRel Γ v v' := by
  unfold unV at h
  split at h
  · injection h with h; subst h; cases hx; exact ⟨_, by simp [Op.unary, Op.intArith], .int _ _⟩
  · injection h with h; subst h; cases hx; exact ⟨_, by simp [Op.unary], .bool _⟩
  · injection h with h; subst h; cases hx; exact ⟨_, by simp [Op.unary, Op.intBits], .int _ _⟩
  · cases h
end
end Go.B
end
section
/- What an operation does in B it does in the model: maps, assertions, methods. -/
namespace Go.B
open Go Go.RowKit

section
variable {P : Program} {w0 : World} {T : Tab} {Γ : Ctx} {h : Heap} {w : World}

theorem run_getObj_of {r : Nat} {o : Obj} (h : w.heap[r]? = some o) (ho : ∀ C e fr, o ≠ .cells C e fr) : (getObj r).run P w = .ok o w := by
  cases o <;> first | exact absurd rfl (ho _ _ _) | simp [getObj, Sem.run, h]
theorem run_setObj_of {r : Nat} {o : Obj} (o' : Obj) (h : w.heap[r]? = some o) (ho : ∀ C e fr, o ≠ .cells C e fr) : (setObj r o').run P w = .ok () { w with heap := w.heap.setIfInBounds r o' } := by
  cases o <;> first | exact absurd rfl (ho _ _ _) | simp [setObj, Sem.run, h]

theorem checkKey_run (hT : TabOk P T) (w : World) {kt : TypeId} {k : Val} {k' : Value} (hp : plainKey T kt k = true) (hk : VRel Γ k k') (b : Bool) (n : Nat) : (Instr.checkKey b (n + 1) kt k').run P w = .ok () w := by
  unfold plainKey at hp
  split at hp
  · rename_i hu
    cases hk
    simp [Instr.checkKey, run_under hT hu]
  · rename_i hu
    cases hk
    simp [Instr.checkKey, run_under hT hu]
  · cases hp

/-- What is found here is found there. -/
inductive Found (Γ : Ctx) : Option (Nat × Val) → Option (Nat × Value) → Prop
  | none : Found Γ none none
  | some {i : Nat} {v : Val} {v' : Value} (h : VRel Γ v v') : Found Γ (some (i, v)) (some (i, v'))

theorem sameKey_run {kt : TypeId} {k : Val} {k' : Value} (hp : plainKey T kt k = true) (hk : VRel Γ k k') : ∃ d, T.under kt = some d ∧ ∀ (e : Val) (e' : Value) (b : Bool), VRel Γ e e' → sameKey k e = some b → Instr.sameNow d k' e' = some b := by
  unfold plainKey at hp
  split at hp
  · rename_i hu
    refine ⟨_, hu, fun e e' b he hs => ?_⟩
    cases e <;> simp only [sameKey, reduceCtorEq] at hs
    split at hs
    · rename_i hq
      injection hs with hs
      subst hs; subst hq
      cases hk; cases he
      simp [Instr.sameNow]
    · cases hs
  · rename_i hu
    refine ⟨_, hu, fun e e' b he hs => ?_⟩
    cases e <;> simp only [sameKey, reduceCtorEq] at hs
    injection hs with hs
    subst hs
    cases hk; cases he
    simp [Instr.sameNow, bytes_beq]
  · cases hp

theorem keyAt_run {d : TypeDesc} {k : Val} {k' : Value} (hs : ∀ (e : Val) (e' : Value) (b : Bool), VRel Γ e e' → sameKey k e = some b → Instr.sameNow d k' e' = some b) : ∀ {es : List (Val × Val × Nat)} {es' : List MapEntry}, F2 (EntRel Γ) es es' →
    ∀ {i : Nat} {r : Option (Nat × Val)}, keyAt k es i = some r → ∃ r' : Option (Nat × Value), Instr.findNow d k' es' i = some r' ∧ Found Γ r r' := by
  intro es es' hes
  induction hes with
  | nil =>
    intro i r h
    simp only [keyAt, Option.some.injEq] at h; subst h
    exact ⟨_, rfl, .none⟩
  | cons he _ ih =>
    intro i r h
    obtain ⟨g1, g2, g3⟩ := he
    simp only [keyAt] at h
    split at h
    · rename_i hk
      injection h with h; subst h
      have := hs _ _ _ g1 hk
      exact ⟨_, by simp only [Instr.findNow, this], .some g2⟩
    · rename_i hk
      obtain ⟨r', h1, h2⟩ := ih h
      have := hs _ _ _ g1 hk
      exact ⟨r', by simp only [Instr.findNow, this]; exact h1, h2⟩
    · cases h

theorem entries_run (R : Rel w0 T Γ h w) {m : Val} {m' : Value} (hm : VRel Γ m m') {es : List (Val × Val × Nat)} (he : entriesV h m = some es) :
    ∃ es' : Array MapEntry, F2 (EntRel Γ) es es'.toList ∧ ((m' = .map none ∧ es' = #[]) ∨ ∃ r clock, m' = .map (some r) ∧ w.heap[r]? = some (.map es' clock)) := by
  unfold entriesV at he
  split at he
  · injection he with he; subst he; cases hm
    exact ⟨#[], .nil, .inl ⟨rfl, rfl⟩⟩
  · split at he
    · rename_i id es0 clock hg
      injection he with he; subst he
      cases hm with
      | mp hmu =>
        obtain ⟨es', h1, h2⟩ := R.blk _ _ _ hg hmu
        exact ⟨es', h2, .inr ⟨_, _, rfl, h1⟩⟩
    · cases he
  · cases he

theorem lookup_run (hT : TabOk P T) (R : Rel w0 T Γ h w) {t : TypeId} {m k : Val} {m' k' : Value} (hm : VRel Γ m m') (hk : VRel Γ k k') {ok : Bool} {v : Val} (hv : lookupV T h t m k ok = some v) :
    ∃ v', (Instr.lookup t m' k' ok).run P w = .ok v' w ∧ VRel Γ v v' := by
  unfold lookupV at hv
  split at hv
  · rename_i kt et hu
    obtain ⟨hp, hv⟩ := bif_some hv
    simp only [Option.bind_eq_some_iff] at hv
    obtain ⟨es, hes, r, hr, hv⟩ := hv
    obtain ⟨es', h1, h2⟩ := entries_run R hm hes
    obtain ⟨d, hd, hs⟩ := sameKey_run hp hk
    obtain ⟨r', h3, h4⟩ := keyAt_run hs h1 hr
    have hfind : (Instr.findKey kt k' es'.toList).run P w = .ok r' w := by
      simp [Instr.findKey, run_under hT hd, h3]
    unfold Instr.lookup
    cases h4 with
    | none =>
      simp only [Option.map_eq_some_iff] at hv
      obtain ⟨z, hz, rfl⟩ := hv
      obtain ⟨z', r1, r2, r3⟩ := run_zero hT hz
      refine ⟨(if ok = true then Value.tuple #[z', Value.bool false] else z'), ?_, ?_⟩
      · rcases h2 with ⟨rfl, rfl⟩ | ⟨r, clock, rfl, hw⟩
        · simp [Sem.run_bind, run_under hT hu, checkKey_run hT w hp hk _ 9999, hfind, r1]
        · simp [Sem.run_bind, run_under hT hu, run_getObj_of hw, checkKey_run hT w hp hk _ 9999, hfind, r1]
      · cases ok with
        | false => exact r2 Γ
        | true => exact VRel.tup_iff.2 ⟨_, rfl, .cons (r2 Γ) (.cons (.bool _) .nil)⟩
    | @some _ _ v1 hvv =>
      injection hv with hv; subst hv
      refine ⟨(if ok = true then Value.tuple #[v1, Value.bool true] else v1), ?_, ?_⟩
      · rcases h2 with ⟨rfl, rfl⟩ | ⟨r, clock, rfl, hw⟩
        · simp [Sem.run_bind, run_under hT hu, checkKey_run hT w hp hk _ 9999, hfind]
        · simp [Sem.run_bind, run_under hT hu, run_getObj_of hw, checkKey_run hT w hp hk _ 9999, hfind]
      · cases ok with
        | false => exact hvv
        | true => exact VRel.tup_iff.2 ⟨_, rfl, .cons hvv (.cons (.bool _) .nil)⟩
  · cases hv
end
end Go.B
end
section
/- What an operation does in B it does in the model: a map's entry is set, assertions, methods, a text's letters. -/
namespace Go.B
open Go Go.RowKit

section
variable {P : Program} {w0 : World} {T : Tab} {Γ : Ctx} {h : Heap} {w : World}

theorem Val.str_of_beq {x y : List UInt8} (h : (x == y) = true) : x = y := by simpa using h

/-- Keys that are the same here are so there, bit by bit. -/
theorem sameKey_bits {k e : Val} (hs : sameKey k e = some true) {e' k' : Value} (he : VRel Γ e e') (hk : VRel Γ k k') : Instr.sameBits 10000 e' k' = true ∧ k = e := by
  cases k <;> cases e <;> simp only [sameKey, reduceCtorEq] at hs
  · split at hs
    · rename_i hq
      subst hq
      injection hs with hs
      rw [beq_iff_eq] at hs
      subst hs
      cases hk; cases he
      simp [Instr.sameBits]
    · cases hs
  · injection hs with hs
    rw [beq_iff_eq] at hs
    subst hs
    cases hk; cases he
    simp [Instr.sameBits, bytes_beq]

theorem keyAt_place {k : Val} : ∀ {es : List (Val × Val × Nat)} {i j : Nat} {v : Val}, keyAt k es i = some (some (j, v)) → ∃ n e, j = i + n ∧ es[n]? = some e ∧ sameKey k e.1 = some true
  | [], i, j, v, h => by simp [keyAt] at h
  | e :: l, i, j, v, h => by
    simp only [keyAt] at h
    split at h
    · rename_i hk
      simp only [Option.some.injEq, Prod.mk.injEq] at h
      exact ⟨0, e, by omega, rfl, hk⟩
    · obtain ⟨n, e', h1, h2, h3⟩ := keyAt_place h
      exact ⟨n + 1, e', by omega, by simpa using h2, h3⟩
    · cases h

theorem setVal_rel {k v : Val} {k' v' : Value} (hk : VRel Γ k k') (hv : VRel Γ v v') : ∀ {es : List (Val × Val × Nat)} {es' : List MapEntry} {n : Nat} {e : Val × Val × Nat}, F2 (EntRel Γ) es es' → es[n]? = some e → k = e.1 →
    F2 (EntRel Γ) (setVal es n v) (es'.modify n fun e => { e with key := k', val := v' })
  | [], _, n, e, _, h, _ => by simp at h
  | (a, b, c) :: l, _, 0, e, .cons (b := m) h1 h2, h, hq => by
    simp only [List.getElem?_cons_zero, Option.some.injEq] at h
    subst h
    simp only [setVal]
    refine .cons ⟨?_, hv, h1.2.2⟩ h2
    subst hq; exact hk
  | x :: l, _, n + 1, e, .cons (b := m) h1 h2, h, hq => by
    simp only [setVal]
    exact .cons h1 (setVal_rel hk hv h2 (by simpa using h) hq)

theorem put_heap (w : World) (r : Nat) (o : Obj) (k : Nat) (hk : k ≠ r) : (w.heap.setIfInBounds r o)[k]? = w.heap[k]? := by
  rw [Array.getElem?_setIfInBounds_ne (by omega)]

theorem update_run (hT : TabOk P T) (R : Rel w0 T Γ h w) {t : TypeId} {m k v : Val} {m' k' v' : Value} (hm : VRel Γ m m') (hk : VRel Γ k k') (hv : VRel Γ v v') {h' : Heap} (hu : updateV T h t m k v = some h') :
    ∃ w' D, (Instr.mapUpdate t m' k' v').run P w = .ok () w' ∧ Adv w0 T Γ h w Γ h' w' D := by
  unfold updateV at hu
  split at hu
  · rename_i kt et id hut
    obtain ⟨hp, hu⟩ := bif_some hu
    split at hu
    · rename_i es clock hg
      simp only [Option.map_eq_some_iff] at hu
      obtain ⟨r, hr, hu⟩ := hu
      cases hm with
      | @mp _ _ b rm hmu =>
        obtain ⟨es', h1, h2⟩ := R.blk _ _ _ hg hmu
        obtain ⟨d, hd, hs⟩ := sameKey_run hp hk
        obtain ⟨r', h3, h4⟩ := keyAt_run hs h2 hr
        have hb : b < w.heap.size := R.lt hg hmu
        have hfind : (Instr.findKey kt k' es'.toList).run P w = .ok r' w := by
          simp [Instr.findKey, run_under hT hd, h3]
        unfold Instr.mapUpdate
        cases h4 with
        | none =>
          simp only at hu
          subst hu
          refine ⟨_, _, ?_, Adv.put (w' := { w with heap := w.heap.setIfInBounds b (.map (es'.push { key := k', val := v', born := clock }) (clock + 1)) }) (b' := .map (es ++ [(k, v, clock)]) (clock + 1)) (h' := h.put id (.map (es ++ [(k, v, clock)]) (clock + 1))) R hg hmu rfl (fun j hj => put_heap w b _ j hj) (by simp) rfl rfl rfl ?_ (d := (id, none)) rfl rfl (fun i => by rw [get_put, hg]; rfl) rfl⟩
          · simp [Sem.run_bind, run_under hT hut, run_getObj_of h1, checkKey_run hT w hp hk _ 9999, hfind, run_setObj_of _ h1]
          · refine ⟨_, by simp [hb]; rfl, ?_⟩
            simp only [Array.toList_push]
            exact h2.append (.cons ⟨hk, hv, rfl⟩ .nil)
        | @some i ov ov' hvv =>
          obtain ⟨n, e, e1, e2, e3⟩ := keyAt_place hr
          simp only [Nat.zero_add] at e1
          subst e1
          obtain ⟨e', e4, e5⟩ := h2.get i e e2
          have hsame := sameKey_bits e3 e5.1 hk
          have hget : es'[i]? = some e' := by simpa using e4
          simp only at hu
          subst hu
          refine ⟨_, _, ?_, Adv.put (w' := { w with heap := w.heap.setIfInBounds b (.map (es'.modify i fun e => { e with key := k', val := v' }) clock) }) (b' := .map (setVal es i v) clock) (h' := h.put id (.map (setVal es i v) clock)) R hg hmu rfl (fun j hj => put_heap w b _ j hj) (by simp) rfl rfl rfl ?_ (d := (id, none)) rfl rfl (fun i => by rw [get_put, hg]; rfl) rfl⟩
          · simp [Sem.run_bind, run_under hT hut, run_getObj_of h1, checkKey_run hT w hp hk _ 9999, hfind, run_setObj_of _ h1, hget, Instr.keyThatStays, hsame.1]
          · refine ⟨_, by simp [hb]; rfl, ?_⟩
            rw [Array.toList_modify]
            exact setVal_rel hk hv h2 e2 hsame.2
    · cases hu
  · cases hu

theorem assert_run (hT : TabOk P T) {x : Val} {x' : Value} (hx : VRel Γ x x') {t xt : TypeId} {ok : Bool} {v : Val} (h : assertV T x t ok = some v) (w : World) :
    ∃ v', (Instr.typeAssert x' xt t ok).run P w = .ok v' w ∧ VRel Γ v v' := by
  have hz : ∀ {z : Val}, (zeroV T t).map (fun z => Val.tup [z, .bool false]) = some z → ∃ z', (do pure (.tuple #[← zeroValue t, .bool false]) : Sem Value).run P w = .ok z' w ∧ VRel Γ z z' := by
    intro z hz
    simp only [Option.map_eq_some_iff] at hz
    obtain ⟨y, hy, rfl⟩ := hz
    obtain ⟨z', r1, r2, r3⟩ := run_zero hT hy
    exact ⟨_, by simp only [Sem.run_bind, r1, Result.andThen_ok, Sem.run_pure], VRel.tup_iff.2 ⟨_, rfl, .cons (r2 Γ) (.cons (.bool _) .nil)⟩⟩
  have hh : ∀ {y : Val} {y' : Value}, VRel Γ y y' → VRel Γ (if ok then .tup [y, .bool true] else y) (if ok then .tuple #[y', .bool true] else y') := by
    intro y y' hy
    cases ok with
    | false => exact hy
    | true => exact VRel.tup_iff.2 ⟨_, rfl, .cons hy (.cons (.bool _) .nil)⟩
  unfold assertV at h
  unfold Instr.typeAssert
  split at h
  · rename_i want d y hu
    split at h
    · rename_i i hi
      split at h
      · rename_i hm
        injection h with h; subst h
        cases hx with
        | ifc hv =>
          exact ⟨_, by simp only [Sem.run_bind, run_under hT hu, Result.andThen_ok, run_info hT hi, hm, Sem.run_pure], hh (.ifc hv)⟩
      · rename_i m hm
        cases ok with
        | false => simp at h
        | true =>
          simp only [if_true] at h
          obtain ⟨z', h1, h2⟩ := hz h
          cases hx with
          | ifc hv =>
            refine ⟨z', ?_, h2⟩
            simp only [Sem.run_bind, run_under hT hu, Result.andThen_ok, run_info hT hi, hm, if_true]
            simpa using h1
    · cases h
  · cases h
  · rename_i dsc d y hn hu
    cases hx with
    | @ifc _ _ _ y' hv =>
      split at h
      · rename_i hq
        injection h with h; subst h; subst hq
        refine ⟨_, ?_, hh hv⟩
        simp only [Sem.run_bind, run_under hT hu, Result.andThen_ok]
        cases dsc <;> first | exact absurd rfl (hn _) | simp
      · rename_i hq
        cases ok with
        | false => simp at h
        | true =>
          simp only [if_true] at h
          obtain ⟨z', h1, h2⟩ := hz h
          refine ⟨z', ?_, h2⟩
          simp only [Sem.run_bind, run_under hT hu, Result.andThen_ok, if_true]
          cases dsc <;> first | exact absurd rfl (hn _) | (simp only [hq, if_false]; simpa using h1)
  · rename_i dsc hn hu
    cases hx
    cases ok with
    | false => simp at h
    | true =>
      simp only [if_true] at h
      obtain ⟨z', h1, h2⟩ := hz h
      refine ⟨z', ?_, h2⟩
      simp only [Sem.run_bind, run_under hT hu, Result.andThen_ok, if_true]
      cases dsc <;> first | exact absurd rfl (hn _) | simpa using h1
  · cases h

theorem run_wrapNil (ts : Array TypeId) (t : TypeId) (a : Addr) (x y : ByteArray) (w : World) : (Builtin.ssaWrapNilChk_ ts t #[.pointer (some a), .string x, .string y]).run P w = .ok (.pointer (some a)) w := rfl

theorem method_run (hT : TabOk P T) (R : Rel w0 T Γ h w) {t : TypeId} {v r : Val} {v' : Value} (hv : VRel Γ v v') {name : String} {f : FuncId} (hm : methodV T h t v name = some (f, r)) (n : Nat) :
    ∃ r', (method (n + 1) t v' name).run P w = .ok (f, r') w ∧ VRel Γ r r' := by
  unfold methodV at hm
  split at hm
  · rename_i i d hi hd
    split at hm
    · rename_i m hf
      have hpath : m.path.toList = [] → m.path.isEmpty = true := fun h => by rw [toList_nil h]; rfl
      unfold method
      simp only [Sem.run_bind, run_info hT hi, Result.andThen_ok, hf]
      split at hm
      · rename_i g h1 h2
        split at hm
        · rename_i e
          injection hm with hm
          simp only [Prod.mk.injEq] at hm
          obtain ⟨rfl, rfl⟩ := hm
          refine ⟨v', ?_, hv⟩
          simp [h1, h2, follow, receiverAt, run_under hT hd, Place.get]
        · cases hm
      · rename_i g h1 h2
        split at hm
        · rename_i e
          simp only [Option.map_eq_some_iff] at hm
          obtain ⟨y, hy, hm⟩ := hm
          simp only [Prod.mk.injEq] at hm
          obtain ⟨rfl, rfl⟩ := hm
          obtain ⟨a, y', ha, hl, hr⟩ := load_run hT R hv hy
          subst ha
          refine ⟨y', ?_, hr⟩
          simp [h1, h2, follow, receiverAt, run_under hT hd, Place.get, hpath h1, run_wrapNil, strVal, asAddr, hl]
        · rename_i hne
          injection hm with hm
          simp only [Prod.mk.injEq] at hm
          obtain ⟨rfl, rfl⟩ := hm
          refine ⟨v', ?_, hv⟩
          simp only [h1, h2, follow, Sem.run_bind, Sem.run_pure, Result.andThen_ok, receiverAt, run_under hT hd]
          cases d <;> first | exact absurd rfl (hne _) | simp [Place.get]
      · cases hm
    · cases hm
  · cases hm
end
end Go.B
end
