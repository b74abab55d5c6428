/- A part of the proof that scrim/scrimlaw21.QueryPixels returns true at every input. -/
import Derived.Test.YtcchpcpanogbpaaGreatDoorB8
set_option linter.unusedSimpArgs false
set_option linter.unusedVariables false
section
/- What an operation does in B hangs on the temporaries that it looks at. -/
namespace Go.B
open Go Go.RowKit

section
variable {C : Conf} {env env' : Env}

theorem evalL_congr : ∀ {l : List Operand}, (∀ x ∈ l, evalO env x = evalO env' x) → evalL env l = evalL env' l
  | [], _ => rfl
  | x :: l, h => by simp only [evalL, h x (by simp), evalL_congr (l := l) fun y hy => h y (by simp [hy])]

theorem evalP_congr : ∀ {l : List (Nat × Operand)}, (∀ x ∈ l.map (·.2), evalO env x = evalO env' x) → evalP env l = evalP env' l
  | [], _ => rfl
  | (i, x) :: l, h => by simp only [evalP, h x (by simp), evalP_congr (l := l) fun y hy => h y (by simp at hy ⊢; exact .inr hy)]

theorem evalM_congr {o : Option Operand} (h : ∀ x ∈ o.toArray, evalO env x = evalO env' x) : evalM env o = evalM env' o := by
  cases o with
  | none => rfl
  | some x => simp only [evalM, h x (by simp)]

theorem step_congr (h : Heap) : ∀ (op : Op), (∀ x ∈ op.operands, evalO env x = evalO env' x) → stepV C env h op = stepV C env' h op := by
  intro op hx
  cases op with
  | move x => simp only [stepV, hx x (by simp [Op.operands])]
  | assign x => simp only [stepV, hx x (by simp [Op.operands])]
  | box t x => simp only [stepV, hx x (by simp [Op.operands])]
  | load t x => simp only [stepV, hx x (by simp [Op.operands])]
  | nilCheck x => simp only [stepV, hx x (by simp [Op.operands])]
  | unOp o t x => simp only [stepV, hx x (by simp [Op.operands])]
  | convert s d x => simp only [stepV, hx x (by simp [Op.operands])]
  | makeInterface t x => simp only [stepV, hx x (by simp [Op.operands])]
  | fieldAddr t x f => simp only [stepV, hx x (by simp [Op.operands])]
  | field t x f => simp only [stepV, hx x (by simp [Op.operands])]
  | range t x => simp only [stepV, hx x (by simp [Op.operands])]
  | typeAssert x a b c => simp only [stepV, hx x (by simp [Op.operands])]
  | extract x i => simp only [stepV, hx x (by simp [Op.operands])]
  | store t x y => simp only [stepV, hx x (by simp [Op.operands]), hx y (by simp [Op.operands])]
  | binOp o t x y u => simp only [stepV, hx x (by simp [Op.operands]), hx y (by simp [Op.operands])]
  | makeSlice t x y => simp only [stepV, hx x (by simp [Op.operands]), hx y (by simp [Op.operands])]
  | indexAddr t x y => simp only [stepV, hx x (by simp [Op.operands]), hx y (by simp [Op.operands])]
  | index t x y => simp only [stepV, hx x (by simp [Op.operands]), hx y (by simp [Op.operands])]
  | lookup t x y k => simp only [stepV, hx x (by simp [Op.operands]), hx y (by simp [Op.operands])]
  | pick x y z => simp only [stepV, hx x (by simp [Op.operands]), hx y (by simp [Op.operands]), hx z (by simp [Op.operands])]
  | insert t x y z => simp only [stepV, hx x (by simp [Op.operands]), hx y (by simp [Op.operands]), hx z (by simp [Op.operands])]
  | mapUpdate t x y z => simp only [stepV, hx x (by simp [Op.operands]), hx y (by simp [Op.operands]), hx z (by simp [Op.operands])]
  | next x b =>
    cases b with
    | true => simp only [stepV, hx x (by simp [Op.operands])]
    | false => rfl
  | build t ps => simp only [stepV, evalP_congr (l := ps.toList) (fun x h => hx x (by simpa [Op.operands] using h))]
  | buildSlice t n ps => simp only [stepV, evalP_congr (l := ps.toList) (fun x h => hx x (by simpa [Op.operands] using h))]
  | makeFunc f a b => simp only [stepV, evalL_congr (l := a.toList) (fun x h => hx x (by simp [Op.operands]; left; simpa using h)), evalL_congr (l := b.toList) (fun x h => hx x (by simp [Op.operands]; right; simpa using h))]
  | slice t x l h m => simp only [stepV, hx x (by simp [Op.operands]), evalM_congr (o := l) (fun y q => hx y (by simp only [Op.operands, Array.mem_append]; exact .inl (.inl (.inr q)))), evalM_congr (o := h) (fun y q => hx y (by simp only [Op.operands, Array.mem_append]; exact .inl (.inr q))), evalM_congr (o := m) (fun y q => hx y (by simp only [Op.operands, Array.mem_append]; exact .inr q))]
  | makeMap t r => cases r <;> rfl
  | _ => rfl

theorem call_congr {c : Call} (hx : ∀ x ∈ c.operands, evalO env x = evalO env' x) : evalL env c.args.toList = evalL env' c.args.toList ∧ (∀ f, c.callee = .value f → evalO env f = evalO env' f) ∧ (∀ r n, c.callee = .invoke r n → evalO env r = evalO env' r) := by
  refine ⟨evalL_congr fun x h => hx x (by simp only [Call.operands, Array.mem_append]; exact .inr (by simpa using h)), fun f hf => hx f ?_, fun r n hr => hx r ?_⟩
  · simp [Call.operands, hf]
  · simp [Call.operands, hr]

theorem target_congr (h : Heap) {c : Call} (hx : ∀ x ∈ c.operands, evalO env x = evalO env' x) : target C h env c = target C h env' c := by
  obtain ⟨h1, h2, h3⟩ := call_congr hx
  unfold target
  rw [h1]
  cases hc : c.callee with
  | value f => simp only [h2 f hc]
  | invoke r n => simp only [h3 r n hc]
  | builtin b => rfl

theorem deferred_congr {c : Call} (hx : ∀ x ∈ c.operands, evalO env x = evalO env' x) : deferred env c = deferred env' c := by
  obtain ⟨h1, h2, h3⟩ := call_congr hx
  unfold deferred
  rw [h1]
  cases hc : c.callee with
  | value f => cases evalL env' c.args.toList <;> simp [h2 f hc]
  | invoke r n => rfl
  | builtin b => rfl

theorem oper_congr (call : CallF) {s s' : St} {o : Oper} (hx : ∀ x ∈ o.op.operands, evalO s.env x = evalO s'.env x) (h1 : s.h = s'.h) (h2 : s.ds = s'.ds) (h3 : s.rd = s'.rd) : operV C call s o = operV C call s' o := by
  unfold operV
  rw [h1, h2, h3]
  cases ho : o.op with
  | call c =>
    rw [ho] at hx
    have hx : ∀ x ∈ c.operands, evalO s.env x = evalO s'.env x := hx
    simp only [(call_congr hx).1, target_congr s'.h hx]
  | defer c =>
    rw [ho] at hx
    have hx : ∀ x ∈ c.operands, evalO s.env x = evalO s'.env x := hx
    simp only [deferred_congr hx]
  | _ => simp only [step_congr s'.h _ (ho ▸ hx)]
end
end Go.B
end
section
/- The chain of a region's operations in the order of the text. -/
namespace Go.B
open Go Go.RowKit

section
variable {P : Program} {C : Conf} {w0 : World} {N : Nat}

/-- What may be reached is reached. -/
theorem wpIn_reach {ro : Option Nat} {o : Oper} {a : Act} {w : World} {K : Act → World → Prop} (h : o.wpIn (Fat ro) 0 P a w K fun _ _ _ => False) : ∃ a' w', K a' w' := by
  obtain ⟨_, h⟩ := h
  have room : ∀ n, (Fat ro).room n := fun n d hd => by cases hd
  generalize (o.semAt (Fat ro).round a.eval).run P w = r at h
  cases r with
  | ok x w' =>
    cases x <;> simp only [Oper.uponIn] at h
    case value v => exact ⟨_, _, h⟩
    case skip => exact ⟨_, _, h⟩
    case defer d => exact ⟨_, _, h⟩
    case enter f args =>
      obtain ⟨e, w'', fr, hR, _⟩ := h.2.2 [] (room _)
      cases e with
      | returned v => exact ⟨_, _, hR⟩
      | panicked c => exact hR.elim
      | outgrown => obtain ⟨_, _, hR⟩ := hR; exact hR.elim
    case row row args =>
      obtain ⟨v, w'', hR, _⟩ := h.2 default [] (room _)
      exact ⟨_, _, hR⟩
    case round l f t b c =>
      obtain ⟨e, w'', hR, _⟩ := h.2.2 default [] (room _)
      cases e with
      | returned v => exact ⟨_, _, hR⟩
      | panicked c => exact hR.elim
      | outgrown => obtain ⟨_, _, hR⟩ := hR; exact hR.elim
  | halt x w' =>
    cases x <;> simp only [Oper.uponIn] at h

/-- One step of the region: its value, whether it was wanted, what it changed. -/
structure Link (C : Conf) (call : CallF) (ops : Array Oper) (o : Oper) (s : St) (wd : Bool) (v : Val) (D : List (Nat × Option (Nat × Nat))) (s' : St) : Prop where
  wanted : wantedV ops s.env o = some wd
  env : s'.env = putV s.env o.dst v
  rd : s'.rd = s.rd
  step : wd = true → ∃ h', operV C call { s with h := { s.h with dirty := [] } } o = some (v, h', s'.ds) ∧ h'.dirty = D ∧ s'.h = { h' with dirty := h'.dirty ++ s.h.dirty }
  skip : wd = false → v = .tup [] ∧ D = [] ∧ s'.h = s.h ∧ s'.ds = s.ds

/-- The whole region. -/
structure Chain (C : Conf) (call : CallF) (ops : Array Oper) (k n : Nat) (σ : Nat → St) (wd : Nat → Bool) (v : Nat → Val) (D : Nat → List (Nat × Option (Nat × Nat))) (ds : List Did) : Prop where
  link : ∀ i o, k ≤ i → i < n → ops[i]? = some o → Link C call ops o (σ i) (wd i) (v i) (D i) (σ (i + 1))
  did : ∀ i o, k ≤ i → i < n → ops[i]? = some o → wd i = true → ∃ d ∈ ds, d.at_ = i ∧ d.touch = touchOf C.tab (σ i).env o ∧ d.dirty = (D i).filter (fun q => Nat.blt q.1 (σ i).h.next)

theorem chain_of {call : CallF} {ops : Array Oper} : ∀ (l : List Oper) (k : Nat), (∀ j, l[j]? = ops[k + j]?) → ∀ (s s' : St) (ds : List Did), opsT C call ops l k s = some (s', ds) →
    ∃ σ wd v D, σ k = s ∧ σ (k + l.length) = s' ∧ Chain C call ops k (k + l.length) σ wd v D ds
  | [], k, _, s, s', ds, h => by
    simp only [opsT, Option.some.injEq, Prod.mk.injEq] at h
    obtain ⟨rfl, rfl⟩ := h
    exact ⟨fun _ => s, fun _ => false, fun _ => .dead, fun _ => [], rfl, rfl, ⟨fun i o h1 h2 => by simp at h2; omega, fun i o h1 h2 => by simp at h2; omega⟩⟩
  | o :: l, k, hl, s, s', ds, h => by
    have h0 : ops[k]? = some o := by simpa using (hl 0).symm
    have hl' : ∀ j, l[j]? = ops[k + 1 + j]? := fun j => by have := hl (j + 1); simpa [Nat.add_assoc, Nat.add_comm 1 j] using this
    have key : ∀ (s1 : St) (b : Bool) (v0 : Val) (D0 : List (Nat × Option (Nat × Nat))) (ds1 : List Did), opsT C call ops l (k + 1) s1 = some (s', ds1) → Link C call ops o s b v0 D0 s1 → (∀ d ∈ ds1, d ∈ ds) →
        (b = true → ∃ d ∈ ds, d.at_ = k ∧ d.touch = touchOf C.tab s.env o ∧ d.dirty = D0.filter (fun q => Nat.blt q.1 s.h.next)) →
        ∃ σ wd v D, σ k = s ∧ σ (k + (o :: l).length) = s' ∧ Chain C call ops k (k + (o :: l).length) σ wd v D ds := by
      intro s1 b v0 D0 ds1 h1 hlink hsub hdid
      obtain ⟨σ, wd, v, D, e1, e2, hc⟩ := chain_of l (k + 1) hl' s1 s' ds1 h1
      have hn : k + 1 + l.length = k + (o :: l).length := by simp; omega
      rw [hn] at e2 hc
      refine ⟨fun i => if i = k then s else σ i, fun i => if i = k then b else wd i, fun i => if i = k then v0 else v i, fun i => if i = k then D0 else D i, by simp, ?_, ⟨fun i x h2 h3 hx => ?_, fun i x h2 h3 hx hw => ?_⟩⟩
      · show (if k + (o :: l).length = k then s else σ (k + (o :: l).length)) = s'
        rw [if_neg (by simp)]; exact e2
      · by_cases hi : i = k
        · subst hi
          rw [h0] at hx; injection hx with hx; subst hx
          simp only [if_true, if_neg (show ¬ i + 1 = i by omega), e1]
          exact hlink
        · simp only [if_neg hi, if_neg (show ¬ i + 1 = k by omega)]
          exact hc.link i x (by omega) h3 hx
      · by_cases hi : i = k
        · subst hi
          rw [h0] at hx; injection hx with hx; subst hx
          simp only [if_true] at hw ⊢
          exact hdid hw
        · simp only [if_neg hi] at hw ⊢
          obtain ⟨d, g1, g2⟩ := hc.did i x (by omega) h3 hx hw
          exact ⟨d, hsub d g1, g2⟩
    simp only [opsT] at h
    split at h
    · rename_i hw
      split at h
      · rename_i v0 h1 ds0 hv
        split at h
        · rename_i s2 l2 hrest
          simp only [Option.some.injEq, Prod.mk.injEq] at h
          obtain ⟨rfl, rfl⟩ := h
          refine key _ true v0 h1.dirty _ hrest ⟨hw, rfl, rfl, fun _ => ⟨h1, hv, rfl, rfl⟩, fun q => (by cases q)⟩ (fun d hd => List.mem_cons_of_mem _ hd) fun _ => ⟨_, List.mem_cons_self .., rfl, rfl, rfl⟩
        · cases h
      · cases h
    · rename_i hw
      exact key _ false (.tup []) [] _ h ⟨hw, rfl, rfl, fun q => (by cases q), fun _ => ⟨rfl, rfl, rfl, rfl⟩⟩ (fun d hd => hd) fun q => (by cases q)
    · cases h
end
end Go.B
end
section
/- The chain in the model: what it tells of B's own heaps. -/
namespace Go.B
open Go Go.RowKit

section
variable {P : Program} {C : Conf} {w0 : World} {N : Nat} {Γ Δ : Ctx} {h : Heap} {w : World} {T : Tab}

theorem Rel.dirty (R : Rel w0 T Γ h w) (x : List (Nat × Option (Nat × Nat))) : Rel w0 T Γ { h with dirty := x } w := ⟨R.ext, R.blk, R.inj, R.base, R.top, R.old, R.fz, R.nofz, R.glob⟩

theorem SRel.dirty {s : St} {ro : Option Nat} {a : Act} (S : SRel C w0 N Γ s ro a w) (x : List (Nat × Option (Nat × Nat))) : SRel C w0 N Γ { s with h := { s.h with dirty := x } } ro a w :=
  ⟨S.rel.dirty x, S.env, S.ds, S.big, S.rd⟩

/-- What the chain tells of the heaps. -/
structure Steps (h h' : Heap) (D : List (Nat × Option (Nat × Nat))) : Prop where
  log : Log h h' D
  next : h.next ≤ h'.next
  dirty : h'.dirty = D ++ h.dirty

theorem link_model (hT : TabOk P C.tab) {call : CallF} (hc : CallOk C P w0 call) {ops : Array Oper} {o : Oper} {s s' : St} {wd : Bool} {v : Val} {D : List (Nat × Option (Nat × Nat))} (L : Link C call ops o s wd v D s')
    {ro : Option Nat} {a : Act} (S : SRel C w0 N Γ s ro a w) (hf : Fresh Γ s.h.next s'.h.next) : (∃ Δ a' w', SRel C w0 N Δ s' ro a' w' ∧ ∀ M, Fresh Γ s.h.next M → Fresh Δ s'.h.next M) ∧ Steps s.h s'.h D := by
  cases wd with
  | true =>
    obtain ⟨h', h1, h2, h3⟩ := L.step rfl
    have S0 := S.dirty []
    have hf' : Fresh Γ s.h.next h'.next := by rw [h3] at hf; exact hf
    have := oper_wp hT hc h1 S0 hf' (K := fun a' w' => ∃ Δ E, SRel C w0 N Δ { env := putV s.env o.dst v, h := h', ds := s'.ds, rd := s.rd } ro a' w' ∧ Adv w0 C.tab Γ { s.h with dirty := [] } w Δ h' w' E) (Q := fun _ _ _ => False)
      fun Δ a' w' E S' A => ⟨Δ, E, S', A⟩
    obtain ⟨a', w', Δ, E, S', A⟩ := wpIn_reach this
    have hE : D = E := by rw [← h2, A.dirty]; simp
    refine ⟨⟨Δ, a', w', ?_, fun M hM => by rw [h3]; exact A.fresh hM⟩, ?_⟩
    · have e : s' = { env := putV s.env o.dst v, h := { h' with dirty := h'.dirty ++ s.h.dirty }, ds := s'.ds, rd := s.rd } := by
        cases s' with
        | mk e1 e2 e3 e4 => simp only [St.mk.injEq]; exact ⟨L.env, h3, trivial, L.rd⟩
      rw [e]
      exact ⟨S'.rel.dirty _, S'.env, S'.ds, S'.big, S'.rd⟩
    · rw [h3]
      refine ⟨⟨fun id hi hD => A.log.same id hi (by rw [← hE]; exact hD), fun id off n hi hD => A.log.seg id off n hi (by rw [← hE]; exact hD)⟩, A.next, ?_⟩
      rw [h2]
  | false =>
    obtain ⟨h1, h2, h3, h4⟩ := L.skip rfl
    subst h2
    refine ⟨⟨Γ, a.put o.dst undef, w, ?_, fun M hM => by rw [h3]; exact hM⟩, ?_⟩
    · refine ⟨by rw [h3]; exact S.rel, ?_, ?_, S.big, by rw [L.rd]; exact S.rd⟩
      · rw [L.env, h1]; exact putV_rel S.env undef_rel o.dst
      · rw [h4, put_defers]; exact S.ds
    · rw [h3]
      exact ⟨.refl _, Nat.le_refl _, rfl⟩

theorem link_next {call : CallF} (hgr : Grows call) {ops : Array Oper} {o : Oper} {s s' : St} {wd : Bool} {v : Val} {D : List (Nat × Option (Nat × Nat))} (L : Link C call ops o s wd v D s') : s.h.next ≤ s'.h.next := by
  cases wd with
  | true =>
    obtain ⟨h', h1, h2, h3⟩ := L.step rfl
    have hn := oper_next hgr h1
    simp only at hn
    rw [h3]
    exact hn
  | false =>
    obtain ⟨h1, h2, h3, h4⟩ := L.skip rfl
    rw [h3]; exact Nat.le_refl _

section
variable {call : CallF} {ops : Array Oper} {σ : Nat → St} {wd : Nat → Bool} {v : Nat → Val} {D : Nat → List (Nat × Option (Nat × Nat))} {ds : List Did}

theorem chain_next (hgr : Grows call) (K : Chain C call ops 0 ops.size σ wd v D ds) : ∀ (j i : Nat), i ≤ j → j ≤ ops.size → (σ i).h.next ≤ (σ j).h.next
  | 0, i, h, _ => by have : i = 0 := by omega
                     subst this; exact Nat.le_refl _
  | j + 1, i, h, hn => by
    by_cases e : i = j + 1
    · subst e; exact Nat.le_refl _
    · exact Nat.le_trans (chain_next hgr K j i (by omega) (by omega)) (link_next hgr (K.link j _ (by omega) (by omega) (Array.getElem?_eq_getElem (by omega))))

theorem chain_model (hT : TabOk P C.tab) (hc : CallOk C P w0 call) (hgr : Grows call) (K : Chain C call ops 0 ops.size σ wd v D ds) {ro : Option Nat} {a : Act} (S : SRel C w0 N Γ (σ 0) ro a w) (hf : Fresh Γ (σ 0).h.next (σ ops.size).h.next) :
    ∀ i, i ≤ ops.size → ∃ Γi ai wi, SRel C w0 N Γi (σ i) ro ai wi ∧ Fresh Γi (σ i).h.next (σ ops.size).h.next
  | 0, _ => ⟨Γ, a, w, S, hf⟩
  | i + 1, hi => by
    obtain ⟨Γi, ai, wi, Si, hfi⟩ := chain_model hT hc hgr K S hf i (by omega)
    have hn := chain_next hgr K ops.size (i + 1) hi (Nat.le_refl _)
    obtain ⟨Δ, a', w', h1, h2⟩ := (link_model hT hc (K.link i _ (by omega) (by omega) (Array.getElem?_eq_getElem (by omega))) Si (hfi.sub (Nat.le_refl _) hn)).1
    exact ⟨Δ, a', w', h1, h2 _ hfi⟩

theorem chain_steps (hT : TabOk P C.tab) (hc : CallOk C P w0 call) (hgr : Grows call) (K : Chain C call ops 0 ops.size σ wd v D ds) {ro : Option Nat} {a : Act} (S : SRel C w0 N Γ (σ 0) ro a w) (hf : Fresh Γ (σ 0).h.next (σ ops.size).h.next)
    (i : Nat) (hi : i < ops.size) : Steps (σ i).h (σ (i + 1)).h (D i) := by
  obtain ⟨Γi, ai, wi, Si, hfi⟩ := chain_model hT hc hgr K S hf i (by omega)
  have hn := chain_next hgr K ops.size (i + 1) hi (Nat.le_refl _)
  exact (link_model hT hc (K.link i _ (by omega) hi (Array.getElem?_eq_getElem hi)) Si (hfi.sub (Nat.le_refl _) hn)).2
end

/-! ### Order -/

def oneOf (look : Nat → Nat) (o : Oper) : Nat := o.after.foldl (fun s e => if Region.binds .any e then s ||| 2 ^ e.on ||| look e.on else s) 0

theorem foldl_bit (look : Nat → Nat) (i : Nat) : ∀ (l : List Edge) (s0 : Nat), (l.foldl (fun s e => if Region.binds .any e then s ||| 2 ^ e.on ||| look e.on else s) s0).testBit i = true →
    s0.testBit i = true ∨ ∃ e ∈ l, Region.binds .any e = true ∧ (e.on = i ∨ (look e.on).testBit i = true)
  | [], s0, h => .inl h
  | e :: l, s0, h => by
    simp only [List.foldl_cons] at h
    rcases foldl_bit look i l _ h with h | ⟨e', h1, h2⟩
    · split at h
      · rename_i hb
        simp only [Nat.testBit_or, Bool.or_eq_true, Nat.testBit_two_pow, decide_eq_true_eq] at h
        rcases h with (h | h) | h
        · exact .inl h
        · exact .inr ⟨e, by simp, hb, .inl h⟩
        · exact .inr ⟨e, by simp, hb, .inr h⟩
      · exact .inl h
    · exact .inr ⟨e', by simp [h1], h2⟩

theorem before_fold : ∀ (l : List Oper) (A : Array Nat),
    (∀ j, j < A.size → (l.foldl (fun acc o => acc.push (oneOf (fun i => acc.getD i 0) o)) A).getD j 0 = A.getD j 0) ∧
    (∀ k o, l[k]? = some o → (l.foldl (fun acc o => acc.push (oneOf (fun i => acc.getD i 0) o)) A).getD (A.size + k) 0 =
      oneOf (fun i => if i < A.size + k then (l.foldl (fun acc o => acc.push (oneOf (fun i => acc.getD i 0) o)) A).getD i 0 else 0) o)
  | [], A => ⟨fun _ _ => rfl, fun k o h => by simp at h⟩
  | x :: l, A => by
    obtain ⟨h1, h2⟩ := before_fold l (A.push (oneOf (fun i => A.getD i 0) x))
    simp only [List.foldl_cons]
    have h3 : ∀ j, j < A.size → (l.foldl (fun acc o => acc.push (oneOf (fun i => acc.getD i 0) o)) (A.push (oneOf (fun i => A.getD i 0) x))).getD j 0 = A.getD j 0 := fun j hj => by
      rw [h1 j (by simp; omega)]
      simp [Array.getD, Array.getElem_push, hj, Nat.lt_succ_of_lt hj]
    refine ⟨h3, fun k o hk => ?_⟩
    cases k with
    | zero =>
      simp only [List.getElem?_cons_zero, Option.some.injEq] at hk
      subst hk
      rw [Nat.add_zero, h1 A.size (by simp)]
      have e : (fun i => if i < A.size then (l.foldl (fun acc o => acc.push (oneOf (fun i => acc.getD i 0) o)) (A.push (oneOf (fun i => A.getD i 0) x))).getD i 0 else 0) = fun i => A.getD i 0 := funext fun i => by
        by_cases hi : i < A.size
        · rw [if_pos hi]; exact h3 i hi
        · rw [if_neg hi]; simp [Array.getD, hi]
      rw [e]
      simp [Array.getD]
    | succ k =>
      have := h2 k o (by simpa using hk)
      simp only [Array.size_push] at this
      rw [show A.size + (k + 1) = A.size + 1 + k by omega]
      exact this

theorem before_eq (ops : Array Oper) : Region.before ops = ops.toList.foldl (fun acc o => acc.push (oneOf (fun i => acc.getD i 0) o)) #[] := by
  unfold Region.before
  rw [← Array.foldl_toList]
  rfl

/-- Who stands ahead: by an edge, or ahead of one that has an edge. -/
theorem before_bit {ops : Array Oper} {i j : Nat} (h : ((Region.before ops).getD j 0).testBit i = true) :
    ∃ o, ops[j]? = some o ∧ ∃ e ∈ o.after, Region.binds .any e = true ∧ (e.on = i ∨ (e.on < j ∧ ((Region.before ops).getD e.on 0).testBit i = true)) := by
  have hB := before_fold ops.toList #[]
  rw [← before_eq] at hB
  cases ho : ops[j]? with
  | none =>
    exfalso
    have hsz : ∀ (l : List Oper) (A : Array Nat), (l.foldl (fun acc o => acc.push (oneOf (fun i => acc.getD i 0) o)) A).size = A.size + l.length := by
      intro l
      induction l with
      | nil => intro A; rfl
      | cons x l ih => intro A; simp only [List.foldl_cons, ih]; simp; omega
    have h1 : (Region.before ops).size = ops.size := by rw [before_eq, hsz]; simp
    have h2 : ops.size ≤ j := by simpa using ho
    have h3 : ¬ j < (Region.before ops).size := by omega
    simp [Array.getD, h3] at h
  | some o =>
    have h1 := hB.2 j o (by simpa using ho)
    simp only [List.size_toArray, List.length_nil, Nat.zero_add] at h1
    rw [h1] at h
    unfold oneOf at h
    rw [← Array.foldl_toList] at h
    rcases foldl_bit (fun i => if i < j then (Region.before ops).getD i 0 else 0) i o.after.toList 0 h with h2 | ⟨e, h3, h4, h5⟩
    · simp at h2
    · refine ⟨o, rfl, e, by simpa using h3, h4, ?_⟩
      rcases h5 with h5 | h5
      · exact .inl h5
      · by_cases hlt : e.on < j
        · simp only [if_pos hlt] at h5; exact .inr ⟨hlt, h5⟩
        · simp [if_neg hlt] at h5
end
end Go.B
end
section
/- What a drawn region's heap is when some operations were done. -/
namespace Go.B
open Go Go.RowKit

section
variable {ops : Array Oper}

theorem drawOk_spec (h : drawOk ops = true) : (∀ i o, ops[i]? = some o → ∀ e ∈ o.after, Region.binds .any e = true → e.on < i) ∧
    (∀ i o j x d, ops[i]? = some o → ops[j]? = some x → o.dst = some d → i ≠ j → (d ∈ looksOf ops x ∨ x.dst = some d) → ordered (Region.before ops) i j = true) := by
  unfold drawOk at h
  simp only [List.all_eq_true, Bool.and_eq_true] at h
  have hm : ∀ i o, ops[i]? = some o → (o, i) ∈ ops.toList.zipIdx := fun i o hi => by
    rw [List.mem_zipIdx_iff_getElem?]
    simpa using hi
  refine ⟨fun i o hi e he hb => ?_, fun i o j x d hi hj hd hij hl => ?_⟩
  · have := (h (o, i) (hm i o hi)).1
    simp only [Array.all_eq_true'] at this
    have := this e he
    simp only [hb, Bool.not_true, Bool.false_or, Nat.blt_eq] at this
    exact this
  · have := (h (o, i) (hm i o hi)).2
    simp only [hd, List.all_eq_true] at this
    have := this (x, j) (hm j x hj)
    simp only [Bool.or_eq_true, Bool.and_eq_true, Bool.not_eq_true'] at this
    rcases this with (h1 | h1) | ⟨h1, h2⟩
    · exact absurd (nat_beq_eq h1) hij
    · exact h1
    · exfalso
      rcases hl with hl | hl
      · simp only [List.contains_eq_mem, decide_eq_false_iff_not] at h1; exact h1 hl
      · rw [hl] at h2; simp at h2

variable (hlt : ∀ i o, ops[i]? = some o → ∀ e ∈ o.after, Region.binds .any e = true → e.on < i)
include hlt

theorem before_lt : ∀ (j i : Nat), ((Region.before ops).getD j 0).testBit i = true → i < j := by
  intro j
  induction j using Nat.strongRecOn with
  | _ j ih =>
    intro i h
    obtain ⟨o, ho, e, he, hb, h1⟩ := before_bit h
    have := hlt j o ho e he hb
    rcases h1 with rfl | ⟨_, h1⟩
    · exact this
    · have := ih e.on this i h1; omega

variable {L : Nat → Prop} (hL : ∀ j o, ops[j]? = some o → L j → ∀ e ∈ o.after, Region.binds .any e = true → L e.on)
include hL

theorem down_closed : ∀ (j i : Nat), L j → ((Region.before ops).getD j 0).testBit i = true → L i := by
  intro j
  induction j using Nat.strongRecOn with
  | _ j ih =>
    intro i hj h
    obtain ⟨o, ho, e, he, hb, h1⟩ := before_bit h
    have h2 := hlt j o ho e he hb
    have h3 := hL j o ho hj e he hb
    rcases h1 with rfl | ⟨_, h1⟩
    · exact h3
    · exact ih e.on h2 i h3 h1

/-- One that is next: who is in order with it is done, or waits. -/
theorem next_order {x : Nat} {o : Oper} (ho : ops[x]? = some o) (hx : ∀ e ∈ o.after, Region.binds .any e = true → L e.on) (hn : ¬ L x) {y : Nat} (hy : ordered (Region.before ops) x y = true ∨ ordered (Region.before ops) y x = true) : (y < x → L y) ∧ (x < y → ¬ L y) := by
  have hy : ((Region.before ops).getD x 0).testBit y = true ∨ ((Region.before ops).getD y 0).testBit x = true := by
    unfold ordered at hy
    simp only [Bool.or_eq_true] at hy
    rcases hy with (h | h) | (h | h)
    · exact .inl h
    · exact .inr h
    · exact .inr h
    · exact .inl h
  refine ⟨fun h => ?_, fun h hLy => ?_⟩
  · rcases hy with h1 | h1
    · obtain ⟨o', ho', e, he, hb, h2⟩ := before_bit h1
      rw [ho] at ho'; injection ho' with ho'; subst ho'
      have h3 := hx e he hb
      rcases h2 with rfl | ⟨_, h2⟩
      · exact h3
      · exact down_closed hlt hL e.on y h3 h2
    · have := before_lt hlt y x h1; omega
  · rcases hy with h1 | h1
    · have := before_lt hlt x y h1; omega
    · exact hn (down_closed hlt hL y x hLy h1)
end

section
variable {n : Nat} {σ : Nat → St} {D : Nat → List (Nat × Option (Nat × Nat))}

/-- Does operation 'p' change or lay that block? -/
def Touches (σ : Nat → St) (D : Nat → List (Nat × Option (Nat × Nat))) (p id : Nat) : Prop := ((∃ d ∈ D p, d.1 = id) ∧ id < (σ p).h.next) ∨ ((σ p).h.next ≤ id ∧ id < (σ (p + 1)).h.next)

open Classical in
/-- A block, as the operations that were done left it. -/
noncomputable def cur (σ : Nat → St) (D : Nat → List (Nat × Option (Nat × Nat))) (L : Nat → Prop) : Nat → Nat → Option Blk
  | 0, id => (σ 0).h.get id
  | p + 1, id => if L p ∧ Touches σ D p id then (σ (p + 1)).h.get id else cur σ D L p id

variable (hs : ∀ i, i < n → Steps (σ i).h (σ (i + 1)).h (D i)) (old : ∀ i, i ≤ n → ∀ id b, (σ i).h.get id = some b → id < (σ i).h.next)
include hs

theorem next_le : ∀ (j i : Nat), i ≤ j → j ≤ n → (σ i).h.next ≤ (σ j).h.next
  | 0, i, h, _ => by have : i = 0 := by omega
                     subst this; exact Nat.le_refl _
  | j + 1, i, h, hn => by
    by_cases e : i = j + 1
    · subst e; exact Nat.le_refl _
    · exact Nat.le_trans (next_le j i (by omega) (by omega)) (hs j (by omega)).next

include old

theorem untouched {i id : Nat} (hi : i < n) (ht : ¬ Touches σ D i id) : (σ (i + 1)).h.get id = (σ i).h.get id := by
  by_cases h1 : id < (σ i).h.next
  · exact (hs i hi).log.same id h1 fun d hd e => ht (.inl ⟨⟨d, hd, e⟩, h1⟩)
  · have h2 : ¬ id < (σ (i + 1)).h.next := fun h => ht (.inr ⟨by omega, h⟩)
    have e1 : (σ i).h.get id = none := by
      cases hq : (σ i).h.get id with
      | none => rfl
      | some b => exact absurd (old i (by omega) id b hq) h1
    have e2 : (σ (i + 1)).h.get id = none := by
      cases hq : (σ (i + 1)).h.get id with
      | none => rfl
      | some b => exact absurd (old (i + 1) (by omega) id b hq) h2
    rw [e1, e2]

theorem cur_all {L : Nat → Prop} {id : Nat} : ∀ (p : Nat), p ≤ n → (∀ i, i < p → Touches σ D i id → L i) → cur σ D L p id = (σ p).h.get id
  | 0, _, _ => rfl
  | p + 1, hp, h => by
    unfold cur
    by_cases ht : Touches σ D p id
    · rw [if_pos ⟨h p (by omega) ht, ht⟩]
    · rw [if_neg fun q => ht q.2, cur_all p (by omega) fun i hi => h i (by omega), untouched hs old (by omega) ht]

omit hs old in
theorem cur_same {L : Nat → Prop} {id p : Nat} : ∀ (q : Nat), p ≤ q → (∀ i, p ≤ i → i < q → L i → ¬ Touches σ D i id) → cur σ D L q id = cur σ D L p id
  | 0, h, _ => by have : p = 0 := by omega
                  subst this; rfl
  | q + 1, h, hk => by
    by_cases e : p = q + 1
    · subst e; rfl
    · conv => lhs; unfold cur
      rw [if_neg fun r => hk q (by omega) (by omega) r.1 r.2, cur_same q (by omega) fun i h1 h2 => hk i h1 (by omega)]

omit hs old in
theorem cur_more {L : Nat → Prop} {id x : Nat} (hx : ¬ Touches σ D x id) : ∀ (p : Nat), cur σ D (fun i => L i ∨ i = x) p id = cur σ D L p id
  | 0 => rfl
  | p + 1 => by
    unfold cur
    rw [cur_more hx p]
    by_cases ht : Touches σ D p id
    · by_cases hl : L p
      · rw [if_pos ⟨.inl hl, ht⟩, if_pos ⟨hl, ht⟩]
      · have hno : ¬ ((L p ∨ p = x) ∧ Touches σ D p id) := by
          rintro ⟨h1 | h1, _⟩
          · exact hl h1
          · subst h1; exact hx ht
        rw [if_neg hno, if_neg (fun r => hl r.1)]
    · rw [if_neg (fun r => ht r.2), if_neg (fun r => ht r.2)]

theorem cur_lt {L : Nat → Prop} {id : Nat} {b : Blk} : ∀ (p : Nat), p ≤ n → cur σ D L p id = some b → id < (σ p).h.next
  | 0, _, h => old 0 (by omega) id b h
  | p + 1, hp, h => by
    unfold cur at h
    split at h
    · exact old (p + 1) hp id b h
    · have := cur_lt p (by omega) h
      have := (hs p (by omega)).next
      omega

theorem seg_of_touch {i id off m : Nat} (hi : i < n) (ht : Touches σ D i id → id < (σ i).h.next ∧ ∀ d ∈ D i, d.1 = id → Off d off m) : ((σ (i + 1)).h.get id).bind (·.seg off m) = ((σ i).h.get id).bind (·.seg off m) := by
  by_cases h : Touches σ D i id
  · obtain ⟨h1, h2⟩ := ht h
    exact (hs i hi).log.seg id off m h1 h2
  · rw [untouched hs old hi h]

theorem cur_seg {L : Nat → Prop} {id off m : Nat} : ∀ (p : Nat), p ≤ n → (∀ i, i < p → Touches σ D i id → L i ∨ (id < (σ i).h.next ∧ ∀ d ∈ D i, d.1 = id → Off d off m)) →
    (cur σ D L p id).bind (·.seg off m) = ((σ p).h.get id).bind (·.seg off m)
  | 0, _, _ => rfl
  | p + 1, hp, h => by
    have ih := cur_seg p (by omega) fun i hi => h i (by omega)
    unfold cur
    by_cases ht : Touches σ D p id
    · by_cases hl : L p
      · rw [if_pos ⟨hl, ht⟩]
      · rw [if_neg fun r => hl r.1, ih]
        exact (seg_of_touch hs old (by omega) fun ht => (h p (by omega) ht).resolve_left hl).symm
    · rw [if_neg fun r => ht r.2, ih, untouched hs old (by omega) ht]

theorem seg_range {id off m x : Nat} : ∀ (q : Nat), x ≤ q → q ≤ n → (∀ j, x ≤ j → j < q → Touches σ D j id → id < (σ j).h.next ∧ ∀ d ∈ D j, d.1 = id → Off d off m) →
    ((σ q).h.get id).bind (·.seg off m) = ((σ x).h.get id).bind (·.seg off m)
  | 0, h, _, _ => by have : x = 0 := by omega
                     subst this; rfl
  | q + 1, h, hn, hk => by
    by_cases e : x = q + 1
    · subst e; rfl
    · rw [seg_of_touch hs old (by omega) (hk q (by omega) (by omega)), seg_range q (by omega) (by omega) fun j h1 h2 => hk j h1 (by omega)]

theorem cur_seg_above {L : Nat → Prop} {id off m x : Nat} (h0 : (cur σ D L x id).bind (·.seg off m) = ((σ x).h.get id).bind (·.seg off m)) : ∀ (q : Nat), x ≤ q → q ≤ n →
    (∀ i, x ≤ i → i < q → L i → Touches σ D i id → ∀ j, x ≤ j → j ≤ i → Touches σ D j id → id < (σ j).h.next ∧ ∀ d ∈ D j, d.1 = id → Off d off m) →
    (cur σ D L q id).bind (·.seg off m) = ((σ x).h.get id).bind (·.seg off m)
  | 0, h, _, _ => by have : x = 0 := by omega
                     subst this; exact h0
  | q + 1, h, hn, hk => by
    by_cases e : x = q + 1
    · subst e; exact h0
    · have ih := cur_seg_above h0 q (by omega) (by omega) fun i h1 h2 => hk i h1 (by omega)
      conv => lhs; unfold cur
      split
      · rename_i hq
        exact seg_range hs old (q + 1) (by omega) hn fun j h1 h2 => hk q (by omega) (by omega) hq.1 hq.2 j h1 (by omega)
      · exact ih
end
end Go.B
end
