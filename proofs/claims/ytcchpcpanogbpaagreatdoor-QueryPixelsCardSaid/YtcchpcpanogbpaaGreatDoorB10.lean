/- A part of the proof that scrim/scrimlaw21.QueryPixels returns true at every input. -/
import Derived.Test.YtcchpcpanogbpaaGreatDoorB9
set_option linter.unusedSimpArgs false
set_option linter.unusedVariables false
section
/- Operations that don't look at the heap. -/
namespace Go.B
open Go Go.RowKit

section
variable {C : Conf}

/-- A value, and perhaps one new block: whatever the heap holds. -/
def Blind (f : Heap → Option (Val × Heap)) (h : Heap) (v : Val) (h' : Heap) : Prop :=
  (h' = h ∧ ∀ H, H.next = h.next → f H = some (v, H)) ∨ ∃ b, h' = h.new b ∧ ∀ H, H.next = h.next → f H = some (v, H.new b)

theorem Blind.pure {f : Heap → Option (Val × Heap)} {h : Heap} {x : Option Val} {v : Val} {h' : Heap} (hf : ∀ H, f H = match x with | some v => some (v, H) | none => none) (h0 : f h = some (v, h')) : Blind f h v h' := by
  rw [hf] at h0
  cases x with
  | none => cases h0
  | some y =>
    simp only [Option.some.injEq, Prod.mk.injEq] at h0
    obtain ⟨rfl, rfl⟩ := h0
    exact .inl ⟨rfl, fun H _ => hf H⟩

theorem Blind.same {f : Heap → Option (Val × Heap)} {h : Heap} {y v : Val} {h' : Heap} (hf : ∀ H, f H = some (y, H)) (h0 : f h = some (v, h')) : Blind f h v h' :=
  .pure (x := some y) hf h0

/-- Is it an operation that looks at no heap? -/
def blindOp : Op → Bool
  | .move _ | .assign _ | .pick .. | .alloc _ | .box .. | .build .. | .buildSlice .. | .nilCheck _ | .binOp .. | .unOp .. | .makeInterface .. | .makeFunc .. | .makeMap .. | .makeSlice .. | .slice .. | .fieldAddr .. | .field .. | .indexAddr .. | .index .. | .typeAssert .. | .extract .. => true
  | _ => false

theorem step_blind {env : Env} {h h' : Heap} {v : Val} {op : Op} (hb : blindOp op = true) (h0 : stepV C env h op = some (v, h')) : Blind (fun H => stepV C env H op) h v h' := by
  cases op <;> first | cases hb; done | skip
  case move x => exact .pure (x := evalO env x) (fun H => rfl) h0
  case assign x => exact .pure (x := evalO env x) (fun H => rfl) h0
  case build t ps =>
    cases hp : evalP env ps.toList with
    | none => simp only [stepV, hp] at h0; cases h0
    | some vs => exact .pure (x := buildV C.tab t vs) (fun H => by simp only [stepV, hp]; rfl) h0
  case typeAssert x a b c =>
    have h1 := h0
    simp only [stepV] at h1
    split at h1
    · rename_i hx
      exact .pure (fun H => by simp only [stepV, hx]; rfl) h0
    · cases h1
  case unOp o t x =>
    have h1 := h0
    simp only [stepV] at h1
    split at h1
    · rename_i hx
      exact .pure (fun H => by simp only [stepV, hx]; rfl) h0
    · cases h1
  case extract x i =>
    have h1 := h0
    simp only [stepV] at h1
    split at h1
    · rename_i hx
      exact .pure (fun H => by simp only [stepV, hx]; rfl) h0
    · cases h1
  case binOp o t x y u =>
    have h1 := h0
    simp only [stepV] at h1
    split at h1
    · rename_i hx hy
      exact .pure (fun H => by simp only [stepV, hx, hy]; rfl) h0
    · cases h1
  case indexAddr t x y =>
    have h1 := h0
    simp only [stepV] at h1
    split at h1
    · rename_i hx hy
      exact .pure (fun H => by simp only [stepV, hx, hy]; rfl) h0
    · cases h1
  case index t x y =>
    have h1 := h0
    simp only [stepV] at h1
    split at h1
    · rename_i hx hy
      exact .pure (fun H => by simp only [stepV, hx, hy]; rfl) h0
    · cases h1
  case slice t x l h m =>
    have h1 := h0
    simp only [stepV] at h1
    split at h1
    · rename_i a b c d
      exact .pure (fun H => by simp only [stepV, a, b, c, d]; rfl) h0
    · cases h1
  case field t x f =>
    have h1 := h0
    simp only [stepV] at h1
    split at h1
    · rename_i hx hy
      exact .pure (fun H => by simp only [stepV, hx, hy]; rfl) h0
    · cases h1
  case fieldAddr t x f =>
    have h1 := h0
    simp only [stepV] at h1
    split at h1
    · rename_i hx hy
      split at h1
      · rename_i hz
        exact .pure (fun H => by simp only [stepV, hx, hy, hz]; rfl) h0
      · cases h1
    · cases h1
  case pick c x y =>
    have h1 := h0
    simp only [stepV] at h1
    split at h1
    · rename_i b hb
      exact .pure (fun H => by simp only [stepV, hb]; rfl) h0
    · cases h1
  case makeInterface t x =>
    have h1 := h0
    simp only [stepV] at h1
    split at h1
    · rename_i hx
      split at h1
      · cases h1
      · rename_i d hn hu
        exact .same (fun H => by simp only [stepV, hx, hu]; cases d <;> first | exact absurd hu (hn _) | rfl) h0
      · cases h1
    · cases h1
  case alloc e =>
    have h1 := h0
    simp only [stepV] at h1
    split at h1
    · rename_i z n hz hn
      obtain ⟨hq, h1⟩ := bif_some h1
      simp only [newRow, Option.some.injEq, Prod.mk.injEq] at h1
      obtain ⟨rfl, rfl⟩ := h1
      exact .inr ⟨_, rfl, fun H hH => by simp only [stepV, hz, hn, hq, cond_true, newRow, hH]⟩
    · cases h1
  case box t x =>
    have h1 := h0
    simp only [stepV] at h1
    split at h1
    · rename_i z n hz hn
      obtain ⟨hq, h1⟩ := bif_some h1
      simp only [newRow, Option.some.injEq, Prod.mk.injEq] at h1
      obtain ⟨rfl, rfl⟩ := h1
      exact .inr ⟨_, rfl, fun H hH => by simp only [stepV, hz, hn, hq, cond_true, newRow, hH]⟩
    · cases h1
  case makeMap t r =>
    cases r with
    | none =>
      have h1 := h0
      simp only [stepV, Option.some.injEq, Prod.mk.injEq] at h1
      obtain ⟨rfl, rfl⟩ := h1
      exact .inr ⟨_, rfl, fun H hH => by simp only [stepV, hH]⟩
    | some r => cases h0
  case makeFunc f a b =>
    have h1 := h0
    simp only [stepV] at h1
    split at h1
    · rename_i h2 h3
      exact .same (fun H => by simp only [stepV, h2, h3]; rfl) h0
    · rename_i h2 h3
      exact .same (fun H => by simp only [stepV, h2, h3]; rfl) h0
    · cases h1
  case makeSlice t x y =>
    have h1 := h0
    simp only [stepV] at h1
    split at h1
    · rename_i l c hl hc
      have h2 := h1
      unfold makeSliceV at h2
      split at h2
      · rename_i e l0 c0 k1 k2 hu
        simp only [Option.bind_eq_some_iff] at h2
        obtain ⟨z, hz, by0, hby, zero, hzero, h2⟩ := h2
        obtain ⟨hq, h2⟩ := bif_some h2
        simp only [Option.some.injEq, Prod.mk.injEq] at h2
        obtain ⟨rfl, rfl⟩ := h2
        refine .inr ⟨_, rfl, fun H hH => ?_⟩
        simp only [stepV, hl, hc, makeSliceV, hu, hz, hby, hzero, Option.bind_some, hq, cond_true, hH]
      · cases h2
    · cases h1
  case nilCheck x =>
    have h1 := h0
    simp only [stepV] at h1
    split at h1
    all_goals first
      | (rename_i hx; exact .same (fun H => by simp only [stepV, hx]; rfl) h0)
      | (cases h1; done)
      | skip
    rename_i hx
    obtain ⟨hq, h2⟩ := bif_some h1
    exact .same (fun H => by simp only [stepV, hx, hq, cond_true]; rfl) h0
  case buildSlice t n ps =>
    have h1 := h0
    simp only [stepV] at h1
    split at h1
    · rename_i vs hp
      have h2 := h1
      unfold buildSliceV at h2
      split at h2
      · rename_i e hu
        split at h2
        · rename_i m z hm hz
          obtain ⟨hq, h3⟩ := bif_some h2
          split at h3
          · rename_i cells hc
            simp only [Option.some.injEq, Prod.mk.injEq] at h3
            obtain ⟨rfl, rfl⟩ := h3
            refine .inr ⟨_, rfl, fun H hH => ?_⟩
            simp only [stepV, hp, buildSliceV, hu, hm, hz, hq, cond_true, hc, hH]
          · cases h3
        · cases h2
      · cases h2
    · cases h1
end
end Go.B
end
section
/- Operations that look at no heap, or at one row alone: run at another heap. -/
namespace Go.B
open Go Go.RowKit

section
variable {C : Conf} {call : CallF}

/-- What is deferred grows by a defer alone. -/
theorem oper_ds {s : St} {o : Oper} {v : Val} {h' : Heap} {ds : List (Option (FuncId × List Val))} (h0 : operV C call s o = some (v, h', ds)) : (ds = s.ds ∧ ∀ c, o.op ≠ .defer c) ∨ ds.length = s.ds.length + 1 := by
  unfold operV at h0
  split at h0
  · rename_i c ho
    left
    refine ⟨?_, fun d q => by rw [ho] at q; cases q⟩
    split at h0
    · split at h0
      · split at h0
        · simp only [Option.some.injEq, Prod.mk.injEq] at h0; exact h0.2.2.symm
        · cases h0
      · cases h0
    · split at h0
      · split at h0
        · simp only [Option.some.injEq, Prod.mk.injEq] at h0; exact h0.2.2.symm
        · cases h0
      · cases h0
  · right
    split at h0
    · obtain ⟨_, h0⟩ := bif_some h0
      simp only [Option.some.injEq, Prod.mk.injEq] at h0
      rw [← h0.2.2]; rfl
    · cases h0
  · rename_i hc hd
    left
    refine ⟨?_, fun d q => hd d q⟩
    split at h0
    · simp only [Option.some.injEq, Prod.mk.injEq] at h0; exact h0.2.2.symm
    · cases h0

/-- An operation whose touch is 'no'. -/
def BlindO (C : Conf) (call : CallF) (s : St) (o : Oper) (v : Val) (h' : Heap) : Prop :=
  (h' = s.h ∧ ∀ H, H.next = s.h.next → operV C call { s with h := H } o = some (v, H, s.ds)) ∨ ∃ b, h' = s.h.new b ∧ ∀ H, H.next = s.h.next → operV C call { s with h := H } o = some (v, H.new b, s.ds)

theorem oper_step {s : St} {o : Oper} (hb : ∀ c, o.op ≠ .call c) (hd : ∀ c, o.op ≠ .defer c) : operV C call s o = match stepV C s.env s.h o.op with
    | some (v, h) => some (v, h, s.ds)
    | none => none := by
  unfold operV
  cases ho : o.op <;> first | rfl | exact absurd ho (hb _) | exact absurd ho (hd _)

theorem BlindO.of_step {s : St} {o : Oper} {v : Val} {h' : Heap} {ds : List (Option (FuncId × List Val))} (hb : ∀ c, o.op ≠ .call c) (hd : ∀ c, o.op ≠ .defer c) (h0 : operV C call s o = some (v, h', ds))
    (k : stepV C s.env s.h o.op = some (v, h') → Blind (fun H => stepV C s.env H o.op) s.h v h') : BlindO C call s o v h' := by
  rw [oper_step hb hd] at h0
  split at h0
  · rename_i v1 h1 hs
    simp only [Option.some.injEq, Prod.mk.injEq] at h0
    obtain ⟨rfl, rfl, rfl⟩ := h0
    rcases k hs with ⟨h1, h2⟩ | ⟨b, h1, h2⟩
    · refine .inl ⟨h1, fun H hH => ?_⟩
      have h3 : stepV C s.env H o.op = some (v1, H) := h2 H hH
      rw [oper_step hb hd]
      simp only [h3]
    · refine .inr ⟨b, h1, fun H hH => ?_⟩
      have h3 : stepV C s.env H o.op = some (v1, H.new b) := h2 H hH
      rw [oper_step hb hd]
      simp only [h3]
  · cases h0

theorem readCells_blind (T : Tab) {h H : Heap} {p : Val} (n : Nat) (hp : ∀ id g off, p ≠ .ptr id g off) : readCells T H p n = readCells T h p n := by
  cases p <;> first | rfl | exact absurd rfl (hp _ _ _)

theorem loadV_congr (T : Tab) {h H : Heap} {t : TypeId} {p : Val} (hr : ∀ n, (isAgg T t = some true → sizeOf T t = some n) → (isAgg T t = some false → n = 1) → readCells T H p n = readCells T h p n) : loadV T H t p = loadV T h t p := by
  unfold loadV
  split
  · rename_i ha
    split
    · rename_i n hn
      rw [hr n (fun _ => hn) (fun q => by rw [ha] at q; cases q)]
    · rfl
  · rename_i ha
    rw [hr 1 (fun q => by rw [ha] at q; cases q) fun _ => rfl]
  · rfl

theorem lengthV_blind (T : Tab) {h H : Heap} (ts : Array TypeId) {x : Val} (hx : ∀ id, x ≠ .mp id) : lengthV T H ts x = lengthV T h ts x := by
  have : entriesV H x = entriesV h x := by
    cases x <;> first | rfl | exact absurd rfl (hx _)
  unfold lengthV
  cases (ts[0]?).bind T.under with
  | none => rfl
  | some d => cases d <;> first | rfl | (cases x <;> first | rfl | exact absurd rfl (hx _)) | (simp only [this])

theorem BlindO.of_builtin {s : St} {o : Oper} {c : Call} {b : Builtin} (ho : o.op = .call c) (hc : c.callee = .builtin b) {v : Val} {h' : Heap} {ds : List (Option (FuncId × List Val))} (h0 : operV C call s o = some (v, h', ds))
    (k : ∀ as H, evalL s.env c.args.toList = some as → builtinV C H b c.argTypes as = (builtinV C s.h b c.argTypes as).map fun r => (r.1, H)) (k2 : ∀ as r, builtinV C s.h b c.argTypes as = some r → r.2 = s.h) : BlindO C call s o v h' := by
  have e : ∀ H, operV C call { s with h := H } o = match evalL s.env c.args.toList with
      | some args => match builtinV C H b c.argTypes args with
        | some (v, h) => some (v, h, s.ds)
        | none => none
      | none => none := fun H => by
    unfold operV
    simp only [ho, hc]
    rfl
  have h1 := e s.h
  have h0' : operV C call { s with h := s.h } o = some (v, h', ds) := h0
  rw [h0'] at h1
  split at h1
  · rename_i as has
    split at h1
    · rename_i v1 h2 hb
      simp only [Option.some.injEq, Prod.mk.injEq] at h1
      obtain ⟨rfl, rfl, rfl⟩ := h1
      have h3 : h' = s.h := k2 as _ hb
      refine .inl ⟨h3, fun H _ => ?_⟩
      rw [e H, has]
      simp only [k as H has, hb, Option.map_some]
    · cases h1
  · cases h1

theorem oper_blind {s : St} {o : Oper} {v : Val} {h' : Heap} {ds : List (Option (FuncId × List Val))} (hd : ∀ c, o.op ≠ .defer c) (ht : touchOf C.tab s.env o = .no) (h0 : operV C call s o = some (v, h', ds)) : BlindO C call s o v h' := by
  by_cases hb : blindOp o.op = true
  · refine .of_step (fun c q => by rw [q] at hb; cases hb) hd h0 fun h1 => step_blind hb h1
  · unfold touchOf at ht
    split at ht
    all_goals first
      | (rename_i ho; rw [ho] at hb; exact absurd rfl hb)
      | skip
    · rename_i t a ho
      have hnc : ∀ c, o.op ≠ .call c := fun c q => by rw [ho] at q; cases q
      have key : ∀ p, evalO s.env a = some p → (∀ id g off, p ≠ .ptr id g off) → BlindO C call s o v h' := fun p hp hq => by
        refine .of_step hnc hd h0 fun h1 => ?_
        rw [ho] at h1 ⊢
        refine .pure (x := loadV C.tab s.h t p) (fun H => ?_) h1
        simp only [stepV, hp]
        rw [loadV_congr C.tab (h := s.h) (H := H) fun n _ _ => readCells_blind C.tab n hq]
        cases loadV C.tab s.h t p <;> rfl
      split at ht
      · split at ht <;> cases ht
      · rename_i hp; exact key _ hp fun _ _ _ q => (by cases q)
      · rename_i hp; exact key _ hp fun _ _ _ q => (by cases q)
      · cases ht
    · rename_i c ho
      split at ht
      · rename_i hc
        refine .of_builtin ho hc h0 (fun as H _ => ?_) fun as r hr => ?_
        · unfold builtinV; cases as <;> simp [Option.map_map, Function.comp_def]
        · unfold builtinV at hr; cases as <;> simp at hr
          obtain ⟨_, _, rfl⟩ := hr; rfl
      · rename_i hc
        refine .of_builtin ho hc h0 (fun as H _ => ?_) fun as r hr => ?_
        · unfold builtinV; cases as <;> simp [Option.map_map, Function.comp_def]
        · unfold builtinV at hr; cases as <;> simp at hr
          obtain ⟨_, _, rfl⟩ := hr; rfl
      · rename_i hc
        refine .of_builtin ho hc h0 (fun as H _ => ?_) fun as r hr => ?_
        · unfold builtinV
          rcases as with _ | ⟨x, _ | ⟨y, l⟩⟩ <;> simp [Option.map_map, Function.comp_def]
        · unfold builtinV at hr
          rcases as with _ | ⟨x, _ | ⟨y, l⟩⟩ <;> simp at hr
          obtain ⟨_, _, rfl⟩ := hr; rfl
      · rename_i hc
        split at ht
        · rename_i a1 hargs
          split at ht
          · cases ht
          · rename_i hmp
            refine .of_builtin ho hc h0 (fun as H has => ?_) fun as r hr => ?_
            · rw [hargs] at has
              simp only [evalL] at has
              split at has
              · rename_i x xs hx hxs
                simp only [Option.some.injEq] at hxs has
                subst hxs; subst has
                unfold builtinV
                simp only
                rw [lengthV_blind C.tab (h := s.h) (H := H) c.argTypes fun id q => hmp id (by rw [hx, q])]
                simp [Option.map_map, Function.comp_def]
              · cases has
            · unfold builtinV at hr
              rcases as with _ | ⟨x, _ | ⟨y, l⟩⟩ <;> simp at hr
              obtain ⟨_, _, rfl⟩ := hr; rfl
        · cases ht
      · cases ht
    · cases ht

/-- Reading by what a row's cells are there. -/
theorem readCells_seg (T : Tab) {h H : Heap} {id g off n : Nat} (hs : (H.get id).bind (·.seg off n) = (h.get id).bind (·.seg off n)) : readCells T H (.ptr id g off) n = readCells T h (.ptr id g off) n := by
  have e : ∀ h : Heap, readCells T h (.ptr id g off) n = match (h.get id).bind (·.seg off n) with
      | some (g', c) => bif Nat.beq g' g then c else none
      | none => none := fun h => by
    simp only [readCells]
    cases hq : h.get id with
    | none => rfl
    | some b => cases b <;> rfl
  rw [e, e, hs]

theorem readCells_some {T : Tab} {h : Heap} {id g off n : Nat} {cs : List Val} (hr : readCells T h (.ptr id g off) n = some cs) : ∃ b, h.get id = some b := by
  unfold readCells at hr
  simp only at hr
  cases hq : h.get id with
  | none => rw [hq] at hr; cases hr
  | some b => exact ⟨b, rfl⟩

/-- An operation that reads one row. -/
theorem oper_load {s : St} {o : Oper} {v : Val} {h' : Heap} {ds : List (Option (FuncId × List Val))} {id off n : Nat} (ht : touchOf C.tab s.env o = .load id off n) (h0 : operV C call s o = some (v, h', ds)) :
    h' = s.h ∧ (∃ t a g, o.op = .load t a ∧ evalO s.env a = some (.ptr id g off)) ∧ (∃ b, s.h.get id = some b) ∧
      ∀ H, (H.get id).bind (·.seg off n) = (s.h.get id).bind (·.seg off n) → operV C call { s with h := H } o = some (v, H, s.ds) := by
  unfold touchOf at ht
  split at ht
  all_goals first
    | (cases ht; done)
    | skip
  · rename_i t a ho
    have hnc : ∀ c, o.op ≠ .call c := fun c q => by rw [ho] at q; cases q
    have hnd : ∀ c, o.op ≠ .defer c := fun c q => by rw [ho] at q; cases q
    split at ht
    · rename_i id' g off' hp
      have e : ∀ H, operV C call { s with h := H } o = match loadV C.tab H t (.ptr id' g off') with
          | some v => some (v, H, s.ds)
          | none => none := fun H => by
        rw [oper_step hnc hnd, ho]
        simp only [stepV, hp]
        cases loadV C.tab H t (.ptr id' g off') <;> rfl
      have h1 := e s.h
      have h0' : operV C call { s with h := s.h } o = some (v, h', ds) := h0
      rw [h0'] at h1
      have fin : ∀ m, id' = id → off' = off → m = n → (∀ k, (isAgg C.tab t = some true → sizeOf C.tab t = some k) → (isAgg C.tab t = some false → k = 1) → isAgg C.tab t ≠ none → k = m) → 
          h' = s.h ∧ (∃ t a g, o.op = .load t a ∧ evalO s.env a = some (.ptr id g off)) ∧ (∃ b, s.h.get id = some b) ∧
          ∀ H, (H.get id).bind (·.seg off n) = (s.h.get id).bind (·.seg off n) → operV C call { s with h := H } o = some (v, H, s.ds) := by
        rintro m rfl rfl rfl hm
        split at h1
        · rename_i v1 hl
          simp only [Option.some.injEq, Prod.mk.injEq] at h1
          obtain ⟨rfl, rfl, rfl⟩ := h1
          refine ⟨rfl, ⟨t, a, g, ho, hp⟩, ?_, fun H hH => ?_⟩
          · unfold loadV at hl
            split at hl
            · split at hl
              · simp only [Option.map_eq_some_iff] at hl
                obtain ⟨cs, h1, _⟩ := hl
                exact readCells_some h1
              · cases hl
            · split at hl
              · rename_i v2 hr; exact readCells_some hr
              · cases hl
            · cases hl
          · rw [e H]
            have : loadV C.tab H t (.ptr id' g off') = loadV C.tab s.h t (.ptr id' g off') := by
              cases hag : isAgg C.tab t with
              | none => unfold loadV; simp only [hag]
              | some b =>
                refine loadV_congr C.tab fun k k1 k2 => ?_
                have hkm := hm k k1 k2 (by rw [hag]; simp)
                rw [hkm]
                exact readCells_seg C.tab hH
            rw [this, hl]
        · cases h1
      split at ht
      · rename_i m hm ha
        injection ht with e1 e2 e3
        refine fin m e1 e2 e3 fun k k1 _ _ => ?_
        have := k1 ha
        rw [hm] at this; injection this with this; exact this.symm
      · rename_i m hm ha
        injection ht with e1 e2 e3
        exact fin 1 e1 e2 e3 fun k _ k2 _ => k2 ha
      · cases ht
    · cases ht
    · cases ht
    · cases ht
  · rename_i c ho
    split at ht
    all_goals first
      | (cases ht; done)
      | skip
    split at ht
    · split at ht <;> cases ht
    · cases ht
end
end Go.B
end
section
/- What holds of the model when some operations of a drawn region are done: and one more. -/
namespace Go.B
open Go Go.RowKit

/-- A heap by what it holds. -/
def heapOf (f : Nat → Option Blk) (m : Nat) : Heap := { next := m, blks := (List.range m).filterMap fun i => (f i).map fun b => (i, b), dirty := [] }

theorem look_range (f : Nat → Option Blk) (id : Nat) : ∀ (l : List Nat), look id (l.filterMap fun i => (f i).map fun b => (i, b)) = if id ∈ l then f id else none
  | [] => rfl
  | i :: l => by
    have ih := look_range f id l
    rw [List.filterMap_cons]
    by_cases hi : i = id
    · subst hi
      simp only [List.mem_cons, true_or, if_true]
      cases hf : f i with
      | none =>
        simp only [Option.map_none]
        rw [ih, hf]
        split <;> rfl
      | some b => simp [look]
    · have hi' : ¬ id = i := fun h => hi h.symm
      simp only [List.mem_cons, hi', false_or]
      cases hf : f i with
      | none => simp only [Option.map_none]; exact ih
      | some b =>
        have : Nat.beq i id = false := by
          cases hq : Nat.beq i id with
          | false => rfl
          | true => exact absurd (Nat.eq_of_beq_eq_true hq) hi
        simp only [Option.map_some, look, this, cond_false]
        exact ih

theorem get_heapOf (f : Nat → Option Blk) (m id : Nat) (hf : ∀ b, f id = some b → id < m) : (heapOf f m).get id = f id := by
  unfold Heap.get heapOf
  rw [look_range]
  split
  · rfl
  · rename_i h
    cases hq : f id with
    | none => rfl
    | some b => exact absurd (List.mem_range.2 (hf b hq)) h

section
variable {P : Program} {C : Conf} {w0 wS : World} {Γ0 Γ Δ : Ctx} {T : Tab} {w w' : World}
variable {n : Nat} {σ : Nat → St} {D : Nat → List (Nat × Option (Nat × Nat))}

/-- A part of the heap, by what stands for something there. -/
theorem Rel.part {H Hx : Heap} (R : Rel w0 T Γ H w) (hb : ∀ id b, Hx.get id = some b → (∃ g c, Γ.mu id g = some c) → H.get id = some b) (ho : ∀ id b, Hx.get id = some b → id < Hx.next) : Rel w0 T Γ Hx w where
  ext := R.ext
  blk := fun id b c h1 h2 => R.blk id b c (hb id b h1 ⟨_, _, h2⟩) h2
  inj := fun i₁ i₂ b₁ b₂ c₁ c₂ g₁ g₂ m₁ m₂ e => R.inj i₁ i₂ b₁ b₂ c₁ c₂ (hb _ _ g₁ ⟨_, _, m₁⟩) (hb _ _ g₂ ⟨_, _, m₂⟩) m₁ m₂ e
  base := fun id b c h1 h2 => R.base id b c (hb id b h1 ⟨_, _, h2⟩) h2
  top := fun id b g c h1 h2 => R.top id b g c (hb id b h1 ⟨_, _, h2⟩) h2
  old := ho
  fz := R.fz
  nofz := fun id b c h1 h2 => R.nofz id b c (hb id b h1 ⟨_, _, h2⟩) h2
  glob := R.glob

/-- The operations of 'L' are done. -/
structure Inv (w0 wS : World) (T : Tab) (Γ0 : Ctx) (n : Nat) (σ : Nat → St) (D : Nat → List (Nat × Option (Nat × Nat))) (L : Nat → Prop) (Γ : Ctx) (w : World) : Prop where
  rel : Rel w0 T Γ (heapOf (cur σ D L n) (σ n).h.next) w
  hole : ∀ i, i < n → ¬ L i → Fresh Γ (σ i).h.next (σ (i + 1)).h.next
  know : ∀ y, y < n → L y → ∀ d ∈ D y, d.1 < (σ y).h.next → d.1 < (σ 0).h.next ∨ ∃ z, z < n ∧ L z ∧ (σ z).h.next ≤ d.1 ∧ d.1 < (σ (z + 1)).h.next
  le : Γ0.Le Γ
  size : wS.heap.size ≤ w.heap.size
  frame : ∀ b, b < wS.heap.size → (∀ id blk c, (σ 0).h.get id = some blk → Γ0.mu id blk.gen = some c → (∃ y, y < n ∧ L y ∧ ∃ d ∈ D y, d.1 = id) → c.1 ≠ b) → w.heap[b]? = wS.heap[b]?
  mu : ∀ id g c, Γ.mu id g = some c → Γ0.mu id g = some c ∨ ((σ 0).h.next ≤ id ∧ id < (σ n).h.next) ∨ (id < (σ 0).h.next ∧ ∃ y, y < n ∧ L y ∧ (id, none) ∈ D y)
  was : ∀ id b' c', cur σ D L n id = some b' → Γ.mu id b'.gen = some c' → id < (σ 0).h.next → ∃ b c, (σ 0).h.get id = some b ∧ Γ0.mu id b.gen = some c ∧ (c'.1 = c.1 ∨ wS.heap.size ≤ c'.1)
  new : ∀ id b' c', cur σ D L n id = some b' → Γ.mu id b'.gen = some c' → (σ 0).h.next ≤ id → wS.heap.size ≤ c'.1
  dom : ∀ y, y < n → L y → ∀ d ∈ D y, d.1 < (σ 0).h.next → ∃ b c, (σ 0).h.get d.1 = some b ∧ Γ0.mu d.1 b.gen = some c
  fzn : ∀ b A, Γ.fz b = some A → Γ0.fz b = some A ∨ wS.heap.size ≤ b

theorem cur_none {L : Nat → Prop} (hL : ∀ i, ¬ L i) (id : Nat) : ∀ p, cur σ D L p id = (σ 0).h.get id
  | 0 => rfl
  | p + 1 => by
    unfold cur
    rw [if_neg fun h => hL p h.1]
    exact cur_none hL id p

variable (hs : ∀ i, i < n → Steps (σ i).h (σ (i + 1)).h (D i)) (old : ∀ i, i ≤ n → ∀ id b, (σ i).h.get id = some b → id < (σ i).h.next)
include hs

theorem range_of {id : Nat} : ∀ (q : Nat), q ≤ n → (σ 0).h.next ≤ id → id < (σ q).h.next → ∃ z, z < q ∧ (σ z).h.next ≤ id ∧ id < (σ (z + 1)).h.next
  | 0, _, h1, h2 => by omega
  | q + 1, hq, h1, h2 => by
    have _ := hs
    by_cases h : id < (σ q).h.next
    · obtain ⟨z, h3, h4⟩ := range_of q (by omega) h1 h
      exact ⟨z, by omega, h4⟩
    · exact ⟨q, by omega, by omega, h2⟩

include old

theorem get_cur (L : Nat → Prop) (id : Nat) : (heapOf (cur σ D L n) (σ n).h.next).get id = cur σ D L n id :=
  get_heapOf _ _ _ fun _ h => cur_lt hs old n (Nat.le_refl _) h

/-- One more. -/
theorem Inv.step {L : Nat → Prop} (I : Inv w0 wS T Γ0 n σ D L Γ w) {x : Nat} (hx : x < n) (hnx : ¬ L x) {Hx Hx' : Heap} (A : Adv w0 T Γ Hx w Δ Hx' w' (D x)) (h1 : Hx.next = (σ x).h.next) (h2 : Hx'.next = (σ (x + 1)).h.next)
    (ho : ∀ id b, Hx.get id = some b → id < Hx.next) (hb : ∀ id b, Hx.get id = some b → (∃ g c, Γ.mu id g = some c) → cur σ D L n id = some b)
    (ha : ∀ id, Touches σ D x id → cur σ D (fun i => L i ∨ i = x) n id = Hx'.get id) : Inv w0 wS T Γ0 n σ D (fun i => L i ∨ i = x) Δ w' := by
  have hle := next_le hs
  have hnn : (σ x).h.next ≤ (σ (x + 1)).h.next := hle (x + 1) x (by omega) (by omega)
  have hn0 : (σ 0).h.next ≤ (σ x).h.next := hle x 0 (by omega) (by omega)
  have hn1 : (σ (x + 1)).h.next ≤ (σ n).h.next := hle n (x + 1) (by omega) (by omega)
  have more : ∀ id, ¬ Touches σ D x id → cur σ D (fun i => L i ∨ i = x) n id = cur σ D L n id := fun id h => cur_more h n
  have Rg := fun id b (h : cur σ D L n id = some b) => (get_cur hs old L id).trans h
  have Rg' := fun id b (h : cur σ D (fun i => L i ∨ i = x) n id = some b) => (get_cur hs old (fun i => L i ∨ i = x) id).trans h
  -- what stands for something behind it, where it touches nothing
  have muT : ∀ id g c, ¬ Touches σ D x id → Δ.mu id g = some c → Γ.mu id g = some c := fun id g c ht hm => by
    rcases A.mu id g c hm with h | h | h
    · exact h
    · exact absurd (.inr (by omega)) ht
    · exact absurd (.inl ⟨⟨_, h.2, rfl⟩, by omega⟩) ht
  -- a block that it leaves alone
  have keep : ∀ id b c, ¬ Touches σ D x id → cur σ D L n id = some b → Γ.mu id b.gen = some c → w'.heap[c.1]? = w.heap[c.1]? := fun id b c ht hc hm => by
    refine A.frame c.1 (I.rel.lt (Rg _ _ hc) hm) ?_
    rintro id2 b2 c2 g2 m2 ⟨d, hd, rfl⟩ e
    have hid := I.rel.inj d.1 id b2 b c2 c (Rg _ _ (hb _ _ g2 ⟨_, _, m2⟩)) (Rg _ _ hc) m2 hm e
    have hlt := ho _ _ g2
    exact ht (.inl ⟨⟨d, hd, hid⟩, by omega⟩)
  -- its own blocks
  have own : ∀ id b c, Touches σ D x id → cur σ D (fun i => L i ∨ i = x) n id = some b → Δ.mu id b.gen = some c → Hx'.get id = some b ∧ ((id < Hx.next ∧ ∃ b0 c0, Hx.get id = some b0 ∧ cur σ D L n id = some b0 ∧ Γ.mu id b0.gen = some c0 ∧ (c.1 = c0.1 ∨ w.heap.size ≤ c.1)) ∨ (Hx.next ≤ id ∧ w.heap.size ≤ c.1)) := fun id b c ht hc hm => by
    have hg : Hx'.get id = some b := (ha id ht).symm.trans hc
    refine ⟨hg, ?_⟩
    by_cases hi : id < Hx.next
    · obtain ⟨b0, c0, e1, e2, e3⟩ := A.was id b c hg hm hi
      exact .inl ⟨hi, b0, c0, e1, hb _ _ e1 ⟨_, _, e2⟩, e2, e3⟩
    · exact .inr ⟨by omega, A.new id b c hg hm (by omega)⟩
  have D_of : ∀ d ∈ D x, d.1 < Hx.next → ∃ b c, cur σ D L n d.1 = some b ∧ Γ.mu d.1 b.gen = some c := fun d hd hlt => by
    obtain ⟨b, c, e1, e2⟩ := A.dom d hd hlt
    exact ⟨b, c, hb _ _ e1 ⟨_, _, e2⟩, e2⟩
  exact {
    rel := {
      ext := A.rel.ext
      blk := fun id b c g m => by
        rw [get_cur hs old] at g
        by_cases ht : Touches σ D x id
        · exact A.rel.blk id b c (own id b c ht g m).1 m
        · rw [more id ht] at g
          exact (I.rel.blk id b c (Rg _ _ g) (muT _ _ _ ht m)).keep A.le (keep id b c ht g (muT _ _ _ ht m))
      inj := fun i₁ i₂ b₁ b₂ c₁ c₂ g₁ g₂ m₁ m₂ e => by
        rw [get_cur hs old] at g₁ g₂
        -- one that it touches and one that it doesn't
        have mix : ∀ i j b b' c c', Touches σ D x i → ¬ Touches σ D x j → cur σ D (fun i => L i ∨ i = x) n i = some b → cur σ D (fun i => L i ∨ i = x) n j = some b' → Δ.mu i b.gen = some c → Δ.mu j b'.gen = some c' → c.1 = c'.1 → i = j := by
          intro i j b b' c c' ti tj gi gj mi mj e
          rw [more j tj] at gj
          have mj := muT _ _ _ tj mj
          have hlt := I.rel.lt (Rg _ _ gj) mj
          rcases (own i b c ti gi mi).2 with ⟨_, b0, c0, _, e2, e3, e4⟩ | ⟨_, e4⟩
          · rcases e4 with e4 | e4
            · exact I.rel.inj i j b0 b' c0 c' (Rg _ _ e2) (Rg _ _ gj) e3 mj (by omega)
            · omega
          · omega
        by_cases t₁ : Touches σ D x i₁
        · by_cases t₂ : Touches σ D x i₂
          · exact A.rel.inj _ _ _ _ _ _ (own _ _ _ t₁ g₁ m₁).1 (own _ _ _ t₂ g₂ m₂).1 m₁ m₂ e
          · exact mix _ _ _ _ _ _ t₁ t₂ g₁ g₂ m₁ m₂ e
        · by_cases t₂ : Touches σ D x i₂
          · exact (mix _ _ _ _ _ _ t₂ t₁ g₂ g₁ m₂ m₁ e.symm).symm
          · rw [more _ t₁] at g₁; rw [more _ t₂] at g₂
            exact I.rel.inj _ _ _ _ _ _ (Rg _ _ g₁) (Rg _ _ g₂) (muT _ _ _ t₁ m₁) (muT _ _ _ t₂ m₂) e
      base := fun id b c g m => by
        rw [get_cur hs old] at g
        by_cases ht : Touches σ D x id
        · exact A.rel.base id b c (own id b c ht g m).1 m
        · rw [more id ht] at g
          exact I.rel.base id b c (Rg _ _ g) (muT _ _ _ ht m)
      top := fun id b g c hg m => by
        rw [get_cur hs old] at hg
        by_cases ht : Touches σ D x id
        · exact A.rel.top id b g c ((ha id ht).symm.trans hg) m
        · rw [more id ht] at hg
          exact I.rel.top id b g c (Rg _ _ hg) (muT _ _ _ ht m)
      old := fun id b hg => by
        rw [get_cur hs old] at hg
        exact cur_lt hs old n (Nat.le_refl _) hg
      fz := A.rel.fz
      nofz := fun id b c g m => by
        rw [get_cur hs old] at g
        by_cases ht : Touches σ D x id
        · exact A.rel.nofz id b c (own id b c ht g m).1 m
        · rw [more id ht] at g
          have m := muT _ _ _ ht m
          have h3 := I.rel.nofz id b c (Rg _ _ g) m
          have h5 := I.rel.lt (Rg _ _ g) m
          cases hq : Δ.fz c.1 with
          | none => rfl
          | some A' =>
            rcases A.fzn c.1 A' hq with h4 | h4
            · rw [h3] at h4; cases h4
            · omega
      glob := A.rel.glob }
    hole := fun i hi hni id g h3 h4 => by
      have hne : i ≠ x := fun e => hni (.inr e)
      have hnL : ¬ L i := fun e => hni (.inl e)
      cases hm : Δ.mu id g with
      | none => rfl
      | some c =>
        exfalso
        rcases A.mu id g c hm with h | h | h
        · rw [I.hole i hi hnL id g h3 h4] at h; cases h
        · rcases Nat.lt_or_gt_of_ne hne with hlt | hlt
          · have := hle x (i + 1) (by omega) (by omega); omega
          · have := hle i (x + 1) (by omega) (by omega); omega
        · obtain ⟨b, c', e1, e2⟩ := D_of _ h.2 h.1
          have e2 : Γ.mu id b.gen = some c' := e2
          rw [I.hole i hi hnL id _ h3 h4] at e2; cases e2
    know := fun y hy hLy d hd hlt => by
      rcases hLy with hLy | rfl
      · rcases I.know y hy hLy d hd hlt with h | ⟨z, h3, h4, h5⟩
        · exact .inl h
        · exact .inr ⟨z, h3, .inl h4, h5⟩
      · by_cases h0 : d.1 < (σ 0).h.next
        · exact .inl h0
        · obtain ⟨z, h3, h4, h5⟩ := range_of hs y (by omega) (by omega) hlt
          refine .inr ⟨z, by omega, ?_, h4, h5⟩
          by_cases hz : L z
          · exact .inl hz
          · obtain ⟨b, c', e1, e2⟩ := D_of _ hd (by omega)
            rw [I.hole z (by omega) hz d.1 _ h4 h5] at e2; cases e2
    le := I.le.trans A.le
    size := Nat.le_trans I.size A.size
    frame := fun b hb' hk => by
      rw [A.frame b (Nat.lt_of_lt_of_le hb' I.size) ?_, I.frame b hb' fun id blk c g m ⟨y, hy, hLy, hd⟩ => hk id blk c g m ⟨y, hy, .inl hLy, hd⟩]
      rintro id blk c g m ⟨d, hd, rfl⟩ e
      have hc := hb _ _ g ⟨_, _, m⟩
      by_cases h0 : d.1 < (σ 0).h.next
      · obtain ⟨b0, c0, e1, e2, e3⟩ := I.was d.1 blk c hc m h0
        rcases e3 with e3 | e3
        · exact hk d.1 b0 c0 e1 e2 ⟨x, hx, .inr rfl, d, hd, rfl⟩ (by omega)
        · omega
      · have := I.new d.1 blk c hc m (by omega); omega
    mu := fun id g c m => by
      rcases A.mu id g c m with h | h | h
      · rcases I.mu id g c h with h | h | ⟨h, y, hy, hLy, hd⟩
        · exact .inl h
        · exact .inr (.inl h)
        · exact .inr (.inr ⟨h, y, hy, .inl hLy, hd⟩)
      · exact .inr (.inl (by omega))
      · by_cases h0 : id < (σ 0).h.next
        · exact .inr (.inr ⟨h0, x, hx, .inr rfl, h.2⟩)
        · exact .inr (.inl (by omega))
    was := fun id b' c' g m h0 => by
      by_cases ht : Touches σ D x id
      · rcases (own id b' c' ht g m).2 with ⟨_, b0, c0, _, e2, e3, e4⟩ | ⟨e3, e4⟩
        · obtain ⟨b, c, f1, f2, f3⟩ := I.was id b0 c0 e2 e3 h0
          refine ⟨b, c, f1, f2, ?_⟩
          have := I.size
          omega
        · omega
      · rw [more id ht] at g
        exact I.was id b' c' g (muT _ _ _ ht m) h0
    new := fun id b' c' g m h0 => by
      have := I.size
      by_cases ht : Touches σ D x id
      · rcases (own id b' c' ht g m).2 with ⟨_, b0, c0, _, e2, e3, e4⟩ | ⟨e3, e4⟩
        · have := I.new id b0 c0 e2 e3 h0; omega
        · omega
      · rw [more id ht] at g
        exact I.new id b' c' g (muT _ _ _ ht m) h0
    dom := fun y hy hLy d hd h0 => by
      rcases hLy with hLy | rfl
      · exact I.dom y hy hLy d hd h0
      · obtain ⟨b, c, e1, e2⟩ := D_of _ hd (by omega)
        obtain ⟨b0, c0, f1, f2, _⟩ := I.was d.1 b c e1 e2 h0
        exact ⟨b0, c0, f1, f2⟩
    fzn := fun b A' hb' => by
      have := I.size
      rcases A.fzn b A' hb' with h | h
      · exact I.fzn b A' h
      · exact .inr (by omega) }

/-- None is done. -/
theorem Inv.start (R : Rel w0 T Γ0 (σ 0).h wS) (hf : Fresh Γ0 (σ 0).h.next (σ n).h.next) : Inv w0 wS T Γ0 n σ D (fun _ => False) Γ0 wS where
  rel := {
    ext := R.ext
    blk := fun id b c g => R.blk id b c (by rwa [get_cur hs old, cur_none (fun _ h => h)] at g)
    inj := fun i₁ i₂ b₁ b₂ c₁ c₂ g₁ g₂ => R.inj i₁ i₂ b₁ b₂ c₁ c₂ (by rwa [get_cur hs old, cur_none (fun _ h => h)] at g₁) (by rwa [get_cur hs old, cur_none (fun _ h => h)] at g₂)
    base := fun id b c g => R.base id b c (by rwa [get_cur hs old, cur_none (fun _ h => h)] at g)
    top := fun id b g' c g => R.top id b g' c (by rwa [get_cur hs old, cur_none (fun _ h => h)] at g)
    old := fun id b g => by rw [get_cur hs old] at g; exact cur_lt hs old n (Nat.le_refl _) g
    fz := R.fz
    nofz := fun id b c g => R.nofz id b c (by rwa [get_cur hs old, cur_none (fun _ h => h)] at g)
    glob := R.glob }
  hole := fun i hi _ => hf.sub (next_le hs i 0 (by omega) (by omega)) (next_le hs n (i + 1) (by omega) (by omega))
  know := fun y _ h => h.elim
  le := .refl _
  size := Nat.le_refl _
  frame := fun _ _ _ => rfl
  mu := fun _ _ _ h => .inl h
  was := fun id b c g m _ => ⟨b, c, by rwa [cur_none (fun _ h => h)] at g, m, .inl rfl⟩
  new := fun id b c g m h0 => by rw [cur_none (fun _ h => h)] at g; have := old 0 (by omega) id b g; omega
  dom := fun y _ h => h.elim
  fzn := fun _ _ h => .inl h

/-- All are done. -/
theorem Inv.done (I : Inv w0 wS T Γ0 n σ D (fun i => i < n) Γ w) : ∃ DD, Adv w0 T Γ0 (σ 0).h wS Γ (σ n).h w DD := by
  have all : ∀ m, m ≤ n → ∃ DD, (σ m).h.dirty = DD ++ (σ 0).h.dirty ∧ Log (σ 0).h (σ m).h DD ∧ ∀ d, d ∈ DD ↔ ∃ y, y < m ∧ d ∈ D y := by
    intro m
    induction m with
    | zero => exact fun _ => ⟨[], rfl, .refl _, fun d => ⟨fun h => (by cases h), fun ⟨y, h, _⟩ => (by omega)⟩⟩
    | succ m ih =>
      intro hm
      obtain ⟨DD, h1, h2, h3⟩ := ih (by omega)
      refine ⟨D m ++ DD, ?_, .trans (next_le hs m 0 (by omega) (by omega)) h2 (hs m (by omega)).log, fun d => ?_⟩
      · rw [(hs m (by omega)).dirty, h1, List.append_assoc]
      · rw [List.mem_append, h3]
        constructor
        · rintro (h | ⟨y, h, k⟩)
          · exact ⟨m, by omega, h⟩
          · exact ⟨y, by omega, k⟩
        · rintro ⟨y, h, k⟩
          by_cases e : y = m
          · subst e; exact .inl k
          · exact .inr ⟨y, by omega, k⟩
  obtain ⟨DD, h1, h2, h3⟩ := all n (Nat.le_refl _)
  have hc : ∀ id, cur σ D (fun i => i < n) n id = (σ n).h.get id := fun id => cur_all hs old n (Nat.le_refl _) fun i hi _ => hi
  have hg : ∀ id b, (σ n).h.get id = some b → (heapOf (cur σ D (fun i => i < n) n) (σ n).h.next).get id = some b := fun id b h => by rw [get_cur hs old, hc]; exact h
  refine ⟨DD, {
    le := I.le
    rel := I.rel.part (fun id b g _ => hg id b g) (old n (Nat.le_refl _))
    next := next_le hs n 0 (by omega) (Nat.le_refl _)
    size := I.size
    frame := fun b hb hk => I.frame b hb fun id blk c g m ⟨y, hy, _, d, hd, e⟩ => hk id blk c g m ⟨d, (h3 d).2 ⟨y, hy, hd⟩, e⟩
    mu := fun id g c m => by
      rcases I.mu id g c m with h | h | ⟨h, y, hy, _, hd⟩
      · exact .inl h
      · exact .inr (.inl h)
      · exact .inr (.inr ⟨h, (h3 _).2 ⟨y, hy, hd⟩⟩)
    was := fun id b' c' g m h0 => I.was id b' c' ((hc id).trans g) m h0
    new := fun id b' c' g m h0 => I.new id b' c' ((hc id).trans g) m h0
    dirty := h1
    log := h2
    dom := fun d hd h0 => by
      obtain ⟨y, hy, hd⟩ := (h3 d).1 hd
      exact I.dom y hy hy d hd h0
    fzn := I.fzn }⟩
end
end Go.B
end
