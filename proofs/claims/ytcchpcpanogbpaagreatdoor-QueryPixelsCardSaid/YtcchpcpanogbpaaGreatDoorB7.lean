/- A part of the proof that scrim/scrimlaw21.QueryPixels returns true at every input. -/
import Derived.Test.YtcchpcpanogbpaaGreatDoorB6
import Derived.Test.YtcchpcpanogbpaaGreatDoorB1
import Derived.RangeFuncLeaves
import Derived.Scope
import Derived.LoopNIn
import Derived.TacticsIn
set_option linter.unusedSimpArgs false
set_option linter.unusedVariables false
section
/- One operation in B and in the model, calls met by a rule that is given. -/
namespace Go.B
open Go Go.RowKit

/-- Whoever's round it is. -/
def Fat (ro : Option Nat) : Fence := { Fence.wide with round := ro }

theorem callsIn_fat {ro : Option Nat} {n : Nat} {P : Program} {f : FuncId} {args : Array Value} {w : World} {R : Ending → World → Prop} : CallsIn (Fat ro) n P f args w R = CallsIn Fence.wide n P f args w R := rfl
theorem roundIn_fat {ro : Option Nat} {n : Nat} {P : Program} {l : Nat} {f : FuncId} {t : Array Value} {a b : Code} {w : World} {R : Ending → World → Prop} : RoundIn (Fat ro) n P l f t a b w R = RoundIn Fence.wide n P l f t a b w R := rfl

/-- What comes next tells a value, in the end. -/
def NextOk (P : Program) (s : Sem Next) (w : World) (K : Value → World → Prop) : Prop :=
  match s.run P w with
  | .ok (.value v) w' => K v w'
  | .ok .skip w' => K undef w'
  | .ok (.enter f args) w' => CallsIn Fence.wide 0 P f args w' fun e w'' => ∃ v, e = .returned v ∧ K v w''
  | .ok (.round l f tmps assign body) w' => RoundIn Fence.wide 0 P l f tmps assign body w' fun e w'' => ∃ v, e = .returned v ∧ K v w''
  | _ => False

theorem NextOk.mono {P : Program} {s : Sem Next} {w : World} {K K' : Value → World → Prop} (h : NextOk P s w K) (hk : ∀ v w, K v w → K' v w) : NextOk P s w K' := by
  unfold NextOk at *
  generalize s.run P w = r at *
  cases r with
  | ok x w' =>
    cases x <;> simp only at h ⊢
    case value v => exact hk _ _ h
    case skip => exact hk _ _ h
    case enter f args => exact h.mono fun e w'' ⟨v, h1, h2⟩ => ⟨v, h1, hk _ _ h2⟩
    case round l f t a b => exact h.mono fun e w'' ⟨v, h1, h2⟩ => ⟨v, h1, hk _ _ h2⟩
  | halt x w' => exact h

theorem NextOk.of_eq {P : Program} {s s' : Sem Next} {w w' : World} {K : Value → World → Prop} (he : s.run P w = s'.run P w') (h : NextOk P s' w' K) : NextOk P s w K := by
  unfold NextOk at *
  rw [he]; exact h

section
variable {P : Program} {w0 : World} {T : Tab} {Γ : Ctx} {h : Heap} {w : World}

def Gives (P : Program) (w0 : World) (T : Tab) (Γ : Ctx) (h : Heap) (w : World) (s : Sem Next) (v : Val) (h' : Heap) : Prop :=
  NextOk P s w fun v' w' => ∃ Δ D, VRel Δ v v' ∧ Adv w0 T Γ h w Δ h' w' D

theorem Gives.of_comes {s : Sem Next} {v : Val} {h' : Heap} (hc : Comes P w0 T Γ h w s v h') : Gives P w0 T Γ h w s v h' := by
  obtain ⟨Δ, v', w', D, h1, h2, h3⟩ := hc
  unfold Gives NextOk
  rcases h1 with h1 | ⟨h1, rfl⟩
  · rw [h1]; exact ⟨Δ, D, h2, h3⟩
  · rw [h1]; exact ⟨Δ, D, h2, h3⟩

/-- An operation that is no defer in a round. -/
theorem wpIn_of_next {ro : Option Nat} {o : Oper} {a : Act} {K : Value → World → Prop} {K' : Act → World → Prop} {Q : Exit → Act → World → Prop} (hd : ∀ c, o.op ≠ .defer c) (hn : NextOk P (execOp a.eval o) w K)
    (hk : ∀ v w, K v w → K' (a.put o.dst v) w) : o.wpIn (Fat ro) 0 P a w K' Q := by
  refine ⟨fun f _ => trivial, ?_⟩
  rw [Oper.semAt_eq _ _ _ hd]
  unfold NextOk at hn
  generalize (execOp a.eval o).run P w = r at *
  cases r with
  | ok x w' =>
    cases x <;> simp only at hn <;> simp only [Oper.uponIn]
    case value v => exact hk _ _ hn
    case skip => exact hk _ _ hn
    case enter f args =>
      refine ⟨fun h => (by cases h), ?_⟩
      rw [callsIn_fat]
      exact CallsIn.mono hn fun e w'' ⟨v, h1, h2⟩ => by subst h1; exact hk _ _ h2
    case round l f t b c =>
      refine ⟨fun h => (by cases h), ?_⟩
      rw [roundIn_fat]
      exact RoundIn.mono hn fun e w'' ⟨v, h1, h2⟩ => by subst h1; exact hk _ _ h2
  | halt x w' => exact hn.elim

/-- Nothing stands for what is not there yet. -/
def Top (Γ : Ctx) (n : Nat) : Prop := ∀ id g, n ≤ id → Γ.mu id g = none

theorem Top.fresh {n m : Nat} (h : Top Γ n) : Fresh Γ n m := fun id g h1 _ => h id g h1

theorem _root_.Go.B.Adv.top {Δ : Ctx} {h' : Heap} {w' : World} {D : List (Nat × Option (Nat × Nat))} (A : Adv w0 T Γ h w Δ h' w' D) (ht : Top Γ h.next) : Top Δ h'.next := by
  intro id g hi
  have := A.next
  cases hm : Δ.mu id g with
  | none => rfl
  | some c =>
    rcases A.mu id g c hm with h1 | h1 | h1
    · rw [ht id g (by omega)] at h1; cases h1
    · omega
    · omega

/-- How calls are met. -/
structure CallOk (C : Conf) (P : Program) (w0 : World) (call : CallF) : Prop where
  fn : ∀ f args h v h', call (.fn f) args h = some (v, h') → ∀ Γ w (args' : Array Value), Rel w0 C.tab Γ h w → LRel Γ args args'.toList → Fresh Γ h.next h'.next →
    Gives P w0 C.tab Γ h w (callFunc f args') v h'
  yld : ∀ l args h v h', call (.yld l) args h = some (v, h') → ∀ Γ w (args' : Array Value) lw r, Rel w0 C.tab Γ h w → Γ.mu l 0 = some (lw, r) → LRel Γ args args'.toList → Fresh Γ h.next h'.next →
    Gives P w0 C.tab Γ h w (Instr.yield lw args') v h'

theorem evalA_rel {env : Env} {a : Act} (he : ERel Γ env a.tmps) {as : Array Operand} {vs : List Val} (h : evalL env as.toList = some vs) : LRel Γ vs (as.map a.eval).toList := by
  simpa using evalL_rel he h

theorem callMethod_run (hT : TabOk P T) (R : Rel w0 T Γ h w) {t : TypeId} {v r : Val} {v' : Value} (hv : VRel Γ v v') {name : String} {f : FuncId} (hm : methodV T h t v name = some (f, r)) (args' : Array Value) :
    ∃ r', (callMethod (.iface t v') name args').run P w = (callFunc f (#[r'] ++ args')).run P w ∧ VRel Γ r r' := by
  have hk : ∀ m, m + Made.depth = (m + (Made.depth - 1)) + 1 := fun m => by
    have : Made.depth = (Made.depth - 1) + 1 := rfl
    omega
  obtain ⟨r', h1, h2⟩ := method_run (P := P) hT R hv hm (P.types.size + (Made.depth - 1))
  refine ⟨r', ?_, h2⟩
  simp [callMethod, hk, h1]

theorem invoke_method (n : String) (x : Value) (cap l : Array Value) (w : World) : (invoke (.fn (.method n) cap) (#[x] ++ l)).run P w = (callMethod x n l).run P w := by
  have h0 : (#[x] ++ l)[0]? = some x := by rw [Array.getElem?_append_left (by simp)]; rfl
  have h1 : (#[x] ++ l).extract 1 (#[x] ++ l).size = l := by
    rw [← Array.toList_inj]
    simp
  simp only [invoke, h0, h1]

/-- Who is called. -/
theorem target_run (C : Conf) (hT : TabOk P C.tab) (R : Rel w0 C.tab Γ h w) {env : Env} {a : Act} (he : ERel Γ env a.tmps) {c : Call} {t : Tgt} {args : List Val} (ht : target C h env c = some (t, args)) (ty : TypeId) :
    (∃ f args', t = .fn f ∧ LRel Γ args args'.toList ∧ (do let d ← resolve a.eval c ty; invoke d.target d.args : Sem Next).run P w = (callFunc f args').run P w) ∨
    (∃ l lw r args', t = .yld l ∧ Γ.mu l 0 = some (lw, r) ∧ LRel Γ args args'.toList ∧ (do let d ← resolve a.eval c ty; invoke d.target d.args : Sem Next).run P w = (Instr.yield lw args').run P w) := by
  unfold target at ht
  split at ht
  · cases ht
  · rename_i as has
    have has := evalA_rel he has
    split at ht
    · rename_i f hf
      split at ht
      · rename_i g fs cs hv
        simp only [Option.some.injEq, Prod.mk.injEq] at ht
        obtain ⟨rfl, rfl⟩ := ht
        obtain ⟨x, y, h1, h2, h3⟩ := VRel.fn_iff.1 (evalO_rel he hv)
        left
        refine ⟨g, (x ++ c.args.map a.eval) ++ y, rfl, ?_, ?_⟩
        · simp only [Array.toList_append, List.append_assoc]
          exact h2.append (has.append h3)
        · simp [resolve, hf, h1, Deferred.ofValue, invoke]
      · rename_i l hv
        simp only [Option.some.injEq, Prod.mk.injEq] at ht
        obtain ⟨rfl, rfl⟩ := ht
        have hv := evalO_rel he hv
        right
        generalize hq : a.eval f = fv at hv
        cases hv with
        | @yld _ _ b r hm =>
          exact ⟨l, b, r, c.args.map a.eval, rfl, hm, has, by simp [resolve, hf, hq, Deferred.ofValue, invoke]⟩
      · rename_i n t v hv
        split at ht
        · rename_i g r hm
          simp only [Option.some.injEq, Prod.mk.injEq] at ht
          obtain ⟨rfl, rfl⟩ := ht
          have hv := evalO_rel he hv
          left
          generalize hq : a.eval f = fv at hv
          cases hv with
          | mth hv =>
            cases hv with
            | @ifc _ _ _ v' hv =>
              obtain ⟨r', h1, h2⟩ := callMethod_run hT R hv hm (c.args.map a.eval)
              refine ⟨g, #[r'] ++ c.args.map a.eval, rfl, ?_, ?_⟩
              · simp only [Array.toList_append]
                exact .cons h2 has
              · rw [← h1, ← invoke_method n _ #[]]
                simp only [resolve, hf, hq, Deferred.ofValue, Sem.run_bind, Sem.run_pure, Result.andThen_ok]
        · cases ht
      · cases ht
    · rename_i x n hx
      split at ht
      · rename_i t v hv
        split at ht
        · rename_i g r hm
          simp only [Option.some.injEq, Prod.mk.injEq] at ht
          obtain ⟨rfl, rfl⟩ := ht
          have hv := evalO_rel he hv
          left
          generalize hq : a.eval x = fv at hv
          cases hv with
          | @ifc _ _ _ v' hv =>
            obtain ⟨r', h1, h2⟩ := callMethod_run hT R hv hm (c.args.map a.eval)
            refine ⟨g, #[r'] ++ c.args.map a.eval, rfl, ?_, ?_⟩
            · simp only [Array.toList_append]
              exact .cons h2 has
            · rw [← h1, ← invoke_method n _ #[]]
              simp only [resolve, hx, hq, Sem.run_bind, Sem.run_pure, Result.andThen_ok]
        · cases ht
      · cases ht
    · cases ht

theorem resolve_builtin {b : Builtin} {c : Call} (hc : c.callee = .builtin b) (a : Act) (ty : TypeId) (w : World) :
    ∃ consts, (do let d ← resolve a.eval c ty; invoke d.target d.args : Sem Next).run P w = (builtin b c.argTypes ty consts (c.args.map a.eval)).run P w :=
  ⟨_, by simp only [resolve, hc, Sem.run_bind, Sem.run_pure, Result.andThen_ok, invoke]; rfl⟩

theorem gives_of_eq {s s' : Sem Next} {v : Val} {h' : Heap} (he : s.run P w = s'.run P w) (h0 : Gives P w0 T Γ h w s' v h') : Gives P w0 T Γ h w s v h' := NextOk.of_eq he h0

/-- One operation. -/
theorem oper_sound (C : Conf) (hT : TabOk P C.tab) {call : CallF} (hc : CallOk C P w0 call) {s : St} {o : Oper} {v : Val} {h' : Heap} {ds : List (Option (FuncId × List Val))} (hv : operV C call s o = some (v, h', ds)) (hd : ∀ c, o.op ≠ .defer c)
    (R : Rel w0 C.tab Γ s.h w) {a : Act} (he : ERel Γ s.env a.tmps) (hf : Fresh Γ s.h.next h'.next) : Gives P w0 C.tab Γ s.h w (execOp a.eval o) v h' ∧ ds = s.ds := by
  unfold operV at hv
  split at hv
  · rename_i c ho
    have hexec : execOp a.eval o = (do let d ← resolve a.eval c o.type; invoke d.target d.args) := by simp [execOp, ho]
    rw [hexec]
    split at hv
    · rename_i b hb
      split at hv
      · rename_i as has
        split at hv
        · rename_i v1 h1 hbv
          simp only [Option.some.injEq, Prod.mk.injEq] at hv
          obtain ⟨rfl, rfl, rfl⟩ := hv
          obtain ⟨consts, e⟩ := resolve_builtin (P := P) hb a o.type w
          exact ⟨gives_of_eq e (.of_comes (builtin_sound C hT R (evalA_rel he has) hbv hf)), rfl⟩
        · cases hv
      · cases hv
    · split at hv
      · rename_i t as htg
        split at hv
        · rename_i v1 h1 hcall
          simp only [Option.some.injEq, Prod.mk.injEq] at hv
          obtain ⟨rfl, rfl, rfl⟩ := hv
          rcases target_run C hT R he htg o.type with ⟨f, args', rfl, h2, h3⟩ | ⟨l, lw, r, args', rfl, hm, h2, h3⟩
          · exact ⟨gives_of_eq h3 (hc.fn _ _ _ _ _ hcall _ _ _ R h2 hf), rfl⟩
          · exact ⟨gives_of_eq h3 (hc.yld _ _ _ _ _ hcall _ _ _ _ _ R hm h2 hf), rfl⟩
        · cases hv
      · cases hv
  · rename_i c ho
    exact absurd ho (hd c)
  · split at hv
    · rename_i v1 h1 hs
      simp only [Option.some.injEq, Prod.mk.injEq] at hv
      obtain ⟨rfl, rfl, rfl⟩ := hv
      exact ⟨.of_comes (step_sound C hT R he hs hf), rfl⟩
    · cases hv
end
end Go.B
end
section
/- Regions in the order of the text, in B and in the model. -/
namespace Go.B
open Go Go.RowKit

/-- Whose round it is. -/
def RdRel (Γ : Ctx) (rd ro : Option Nat) : Prop :=
  match rd, ro with
  | none, none => True
  | some id, some lw => ∃ r, Γ.mu id 0 = some (lw, r)
  | _, _ => False

/-- What is deferred, and the marks: their blocks were laid since this activation began ('N'), each behind those below it. -/
inductive DsRel (Γ : Ctx) (w : World) (N : Nat) : Nat → List (Option (FuncId × List Val)) → List Deferred → Prop
  | nil {B : Nat} : DsRel Γ w N B [] []
  | mark {B r : Nat} {as : Array Value} {ds : List (Option (FuncId × List Val))} {df : List Deferred} (h : w.heap[r]? = some (.deferred (some []))) (h1 : N ≤ r) (h2 : r < B) (t : DsRel Γ w N r ds df) :
      DsRel Γ w N B (none :: ds) (⟨.collected r, as⟩ :: df)
  | call {B : Nat} {f : FuncId} {args : List Val} {cap as : Array Value} {ds : List (Option (FuncId × List Val))} {df : List Deferred} (h : LRel Γ args (as.toList ++ cap.toList)) (t : DsRel Γ w N B ds df) :
      DsRel Γ w N B (some (f, args) :: ds) (⟨.fn (.func f) cap, as⟩ :: df)

structure SRel (C : Conf) (w0 : World) (N : Nat) (Γ : Ctx) (s : St) (ro : Option Nat) (a : Act) (w : World) : Prop where
  rel : Rel w0 C.tab Γ s.h w
  env : ERel Γ s.env a.tmps
  ds : DsRel Γ w N w.heap.size s.ds a.defers
  big : N ≤ w.heap.size
  rd : RdRel Γ s.rd ro

theorem RdRel.mono {Γ Δ : Ctx} (hle : Γ.Le Δ) {rd ro : Option Nat} (h : RdRel Γ rd ro) : RdRel Δ rd ro := by
  unfold RdRel at *
  split at h
  · trivial
  · obtain ⟨r, h⟩ := h; exact ⟨r, hle.mu _ _ _ h⟩
  · exact h.elim

section
variable {P : Program} {C : Conf} {w0 : World} {N : Nat} {Γ Δ : Ctx} {h h' : Heap} {w w' : World} {T : Tab} {D : List (Nat × Option (Nat × Nat))}

/-- A block of deferred calls stays. -/
theorem Adv.deferred (R : Rel w0 T Γ h w) (A : Adv w0 T Γ h w Δ h' w' D) {r : Nat} {x : Option (List Deferred)} (hr : w.heap[r]? = some (.deferred x)) : w'.heap[r]? = some (.deferred x) := by
  rw [A.frame r (Array.getElem?_eq_some_iff.1 hr).1 ?_]
  · exact hr
  · rintro id blk c h1 h2 _ rfl
    have hb := R.blk id blk c h1 h2
    cases blk with
    | row cells g opn fz sz elem st => obtain ⟨C, fr, hb⟩ := hb; rw [hb.heap] at hr; cases hr
    | map es clock => obtain ⟨es', h1, _⟩ := hb; rw [h1] at hr; cases hr
    | iter s pos => have hb : w.heap[c.1]? = _ := hb; rw [hb] at hr; cases hr
    | loop st pending env ps assign body => obtain ⟨L, h1, _⟩ := hb; rw [h1] at hr; cases hr

theorem DsRel.adv (R : Rel w0 T Γ h w) (A : Adv w0 T Γ h w Δ h' w' D) {N B B' : Nat} (hB : B ≤ B') {x : List (Option (FuncId × List Val))} {d : List Deferred} (hd : DsRel Γ w N B x d) : DsRel Δ w' N B' x d := by
  induction hd generalizing B' with
  | nil => exact .nil
  | mark hr h1 h2 _ ih => exact .mark (A.deferred R hr) h1 (by omega) (ih (Nat.le_refl _))
  | call hl _ ih => exact .call (hl.mono A.le) (ih hB)

theorem wanted_rel {env : Env} {a : Act} (he : ERel Γ env a.tmps) {ops : Array Oper} {o : Oper} {b : Bool} (h : wantedV ops env o = some b) : Region.wanted o (yielded ops a.tmps) = b := by
  unfold wantedV at h
  unfold Region.wanted
  split at h
  · rename_i hg; simp only [hg]; injection h
  · rename_i j want hg
    simp only [hg]
    split at h
    · rename_i d hd
      have hr := he.get d
      unfold yielded
      rw [hd]
      simp only [Option.bind_some]
      cases hv : (env[d]?).getD .dead with
      | dead => rw [hv] at h; cases h
      | bool b0 =>
        rw [hv] at h hr
        simp only [Option.some.injEq] at h
        have hsome : ∃ x, a.tmps[d]? = some x ∧ x = .bool b0 := by
          cases hx : env[d]? with
          | none => rw [hx] at hv; simp at hv
          | some x =>
            rw [hx] at hv
            simp only [Option.getD_some] at hv
            subst hv
            obtain ⟨y, hy, hyr⟩ := F2.get he d _ hx
            simp only [Array.getElem?_toList] at hy
            cases hyr
            exact ⟨_, hy, rfl⟩
        obtain ⟨x, hx, rfl⟩ := hsome
        rw [hx]
        simp only
        rw [← h]
        cases b0 <;> cases want <;> rfl
      | _ =>
        rw [hv] at h hr
        simp only [Option.some.injEq] at h
        subst h
        have hsome : ∀ x, a.tmps[d]? = some x → ∀ b, x ≠ .bool b := by
          intro x hx b hb
          subst hb
          have : a.tmps.getD d undef = .bool b := by
            simp [Array.getD]
            rw [Array.getElem?_eq_some_iff] at hx
            obtain ⟨h1, h2⟩ := hx
            simp [h1, h2]
          rw [this] at hr
          cases hr
        cases hx : a.tmps[d]? with
        | none => simp
        | some x =>
          have := hsome x hx
          cases x <;> first | exact absurd rfl (this _) | simp
    · rename_i hd
      injection h with h; subst h
      unfold yielded
      rw [hd]
      simp

theorem putV_rel {env : Env} {a : Act} (he : ERel Γ env a.tmps) {v : Val} {v' : Value} (hv : VRel Γ v v') (d : Option Tmp) : ERel Γ (putV env d v) (a.put d v').tmps := by
  cases d with
  | none => exact he
  | some d => exact he.set hv d

theorem put_defers (a : Act) (d : Option Tmp) (v : Value) : (a.put d v).defers = a.defers := by cases d <;> rfl

theorem undef_rel : VRel Γ (.tup []) undef := VRel.tup_iff.2 ⟨_, rfl, .nil⟩

/-- One operation, wanted. -/
theorem oper_wp (hT : TabOk P C.tab) {call : CallF} (hc : CallOk C P w0 call) {s : St} {o : Oper} {v : Val} {h' : Heap} {ds : List (Option (FuncId × List Val))} (hv : operV C call s o = some (v, h', ds))
    {ro : Option Nat} {a : Act} (S : SRel C w0 N Γ s ro a w) (hf : Fresh Γ s.h.next h'.next) {K : Act → World → Prop} {Q : Exit → Act → World → Prop}
    (hk : ∀ Δ a' w' D, SRel C w0 N Δ { env := putV s.env o.dst v, h := h', ds, rd := s.rd } ro a' w' → Adv w0 C.tab Γ s.h w Δ h' w' D → K a' w') : o.wpIn (Fat ro) 0 P a w K Q := by
  by_cases hd : ∃ c, o.op = .defer c
  · obtain ⟨c, ho⟩ := hd
    unfold operV at hv
    rw [ho] at hv
    simp only at hv
    split at hv
    · rename_i f args hrd hdf
      obtain ⟨hb, hv⟩ := bif_some hv
      simp only [Option.some.injEq, Prod.mk.injEq] at hv
      obtain ⟨rfl, rfl, rfl⟩ := hv
      have hro : ro = none := by
        have := S.rd
        rw [hrd] at this
        cases ro with
        | none => rfl
        | some l => exact this.elim
      subst hro
      refine ⟨fun f _ => trivial, ?_⟩
      show o.uponIn (Fat none) 0 P a K Q ((execOp a.eval o).run P w)
      unfold deferred at hdf
      split at hdf
      · rename_i x as hcal has
        split at hdf
        · rename_i g fs cs hx
          simp only [Option.some.injEq, Prod.mk.injEq] at hdf
          obtain ⟨rfl, rfl⟩ := hdf
          obtain ⟨fs', cs', e1, e2, e3⟩ := VRel.fn_iff.1 (evalO_rel S.env hx)
          have hexec : (execOp a.eval o).run P w = .ok (.defer ⟨.fn (.func g) cs', fs' ++ c.args.map a.eval⟩) w := by
            simp [execOp, ho, resolve, hcal, e1, Deferred.ofValue]
          rw [hexec]
          simp only [Oper.uponIn]
          refine hk Γ _ w [] ⟨S.rel, ?_, ?_, S.big, S.rd⟩ (.refl S.rel)
          · exact putV_rel (a := { a with defers := _ :: a.defers }) S.env undef_rel o.dst
          · rw [put_defers]
            refine .call ?_ S.ds
            simp only [Array.toList_append, List.append_assoc]
            exact e2.append ((evalA_rel S.env has).append e3)
        · cases hdf
      · cases hdf
    · cases hv
  · have hd : ∀ c, o.op ≠ .defer c := fun c h => hd ⟨c, h⟩
    obtain ⟨hg, rfl⟩ := oper_sound C hT hc hv hd S.rel S.env hf
    refine wpIn_of_next hd hg fun v' w' ⟨Δ, D, h1, h2⟩ => ?_
    refine hk Δ _ w' D ⟨h2.rel, ?_, ?_, Nat.le_trans S.big h2.size, S.rd.mono h2.le⟩ h2
    · exact putV_rel (S.env.mono h2.le) h1 o.dst
    · rw [put_defers]
      exact S.ds.adv S.rel h2 h2.size

theorem ops_wp (hT : TabOk P C.tab) {call : CallF} (hc : CallOk C P w0 call) (hgr : Grows call) {ro : Option Nat} {ops : Array Oper} {Q : Exit → Act → World → Prop} :
    ∀ (l : List Oper) (k : Nat), (∀ j, l[j]? = ops[k + j]?) → ∀ (Γ : Ctx) (s s' : St) (a : Act) (w : World), opsV C call ops l s = some s' → SRel C w0 N Γ s ro a w → Fresh Γ s.h.next s'.h.next →
      (∀ Δ a' w' D, SRel C w0 N Δ s' ro a' w' → Adv w0 C.tab Γ s.h w Δ s'.h w' D → Q .normal a' w') → wpOpsIn (Fat ro) 0 P ops Q (List.range' k l.length) a w
  | [], _, _, Γ, s, s', a, w, h, S, hf, hk => by
    simp only [opsV, Option.some.injEq] at h
    subst h
    exact hk Γ a w [] S (.refl S.rel)
  | o :: l, k, hl, Γ, s, s', a, w, h, S, hf, hk => by
    have h0 : ops[k]? = some o := by simpa using (hl 0).symm
    have hl' : ∀ j, l[j]? = ops[k + 1 + j]? := fun j => by have := hl (j + 1); simpa [Nat.add_assoc, Nat.add_comm 1 j] using this
    simp only [List.length_cons, List.range'_succ, wpOpsIn, h0]
    simp only [opsV] at h
    split at h
    · rename_i hw
      rw [wanted_rel S.env hw, if_pos rfl]
      split at h
      · rename_i v h1 ds hv
        have n2 := ops_next hgr h
        exact oper_wp hT hc hv S (hf.sub (Nat.le_refl _) n2) fun Δ a' w' D S' A => ops_wp hT hc hgr l (k + 1) hl' Δ _ s' a' w' h S' (A.fresh hf) fun Θ a'' w'' E S'' B => hk Θ a'' w'' _ S'' (A.trans B)
      · cases h
    · rename_i hw
      rw [wanted_rel S.env hw]
      simp only [Bool.false_eq_true, if_false]
      refine ⟨fun f _ => trivial, ops_wp hT hc hgr l (k + 1) hl' Γ _ s' _ w h ⟨S.rel, putV_rel S.env undef_rel o.dst, ?_, S.big, S.rd⟩ hf hk⟩
      rw [put_defers]
      exact S.ds
    · cases h
end
end Go.B
end
section
/- Code in B and in the model; regions that draw their order, and calls, met by rules that are given. -/
namespace Go.B
open Go Go.RowKit

def Ex.to : Ex → Exit
  | .norm => .normal
  | .exit id => .exit id
  | .ret => .ret

/-- What is reached. -/
def Post (C : Conf) (w0 : World) (N : Nat) (Γ : Ctx) (h : Heap) (w : World) (ro : Option Nat) (ex : Ex) (s' : St) : Exit → Act → World → Prop :=
  fun e a' w' => e = ex.to ∧ ∃ Δ D, SRel C w0 N Δ s' ro a' w' ∧ Adv w0 C.tab Γ h w Δ s'.h w' D

def DrawOk (C : Conf) (P : Program) (w0 : World) (call : CallF) : Prop :=
  ∀ ops s s', drawV C call ops s = some s' → ∀ N Γ ro a w, SRel C w0 N Γ s ro a w → Fresh Γ s.h.next s'.h.next → ∀ id, (Code.region id ops true).wpIn (Fat ro) 0 P (Post C w0 N Γ s.h w ro .norm s') a w

section
variable {P : Program} {F : Fence} {n : Nat} {b : Frame} {a : Act} {k : List Item} {cs : List Frame} {w : World} {Q : Exit → Act → World → Prop}

theorem stepR_scope {c : Code} : step P (lone (b.atR a (.code (.scope c) :: k)) cs w) = .next (lone (b.atR a (.code c :: .inScope c :: k)) cs w) :=
  step_lone_go (by simp [stepG, stepG.exec, Frame.atR])
theorem stepR_inScope {c : Code} : step P (lone (b.atR a (.inScope c :: k)) cs w) = .next (lone (b.atR a k) cs w) :=
  step_lone_go (by simp [stepG, stepG.exec, Frame.atR])

/-- A scope through which the run goes without a goto. -/
theorem wpIn_scope_straight {c : Code} (h : c.wpIn F n P (Exit.noGoto Q) a w) : (Code.scope c).wpIn F n P Q a w := by
  intro b k cs hro hb hr
  have h0 : (lone (b.atR a (.code (.scope c) :: k)) cs w).fenced P F := fenced_calm hb hr rfl
  obtain ⟨e, a₁, w₁, hq, harr⟩ := h b (.inScope c :: k) cs hro hb hr
  cases e with
  | normal => exact ⟨.normal, a₁, w₁, hq, .head h0 stepR_scope (StepsIn.trans harr (.one (fenced_calm hb hr rfl) stepR_inScope))⟩
  | exit id' =>
    have hx : exitTo id' (.inScope c :: k) = exitTo id' k := by simp [exitTo]
    exact ⟨.exit id', a₁, w₁, hq, fun k' hk => .head h0 stepR_scope (harr.1 k' (by rw [hx]; exact hk)),
      fun hr' hk => let ⟨k₁, h1, h2⟩ := harr.2 hr' (by rw [hx]; exact hk); ⟨k₁, h1, .head h0 stepR_scope h2⟩⟩
  | goto l => exact hq.elim
  | ret => exact ⟨_, a₁, w₁, hq, .of_steps (.one h0 stepR_scope) harr⟩
  | panic ch => exact ⟨_, a₁, w₁, hq, .of_steps (.one h0 stepR_scope) harr⟩
  | outgrown => exact ⟨_, a₁, w₁, hq, .of_steps (.one h0 stepR_scope) harr⟩
end

section
variable {P : Program} {C : Conf} {w0 : World} {N : Nat} {Γ Δ : Ctx} {h h' : Heap} {w w' : World} {T : Tab} {D : List (Nat × Option (Nat × Nat))}

theorem Post.trans {h1 : Heap} {w1 : World} (A : Adv w0 C.tab Γ h w Δ h1 w1 D) {ro : Option Nat} {ex : Ex} {s' : St} {e : Exit} {a : Act} (p : Post C w0 N Δ h1 w1 ro ex s' e a w') : Post C w0 N Γ h w ro ex s' e a w' := by
  obtain ⟨h1, Θ, E, h2, h3⟩ := p
  exact ⟨h1, Θ, _, h2, A.trans h3⟩

/-- A block that stands for nothing here. -/
theorem Adv.junk (R : Rel w0 T Γ h w) (o : Obj) : Adv w0 T Γ h w Γ h (w.alloc o) [] := by
  have keep : ∀ k, k < w.heap.size → (w.alloc o).heap[k]? = w.heap[k]? := fun k hk => Below.heap_alloc _ _ _ (by omega)
  exact {
    le := .refl _
    next := Nat.le_refl _
    size := by simp
    frame := fun k hk _ => keep k hk
    mu := fun _ _ _ h => .inl h
    was := fun id b c h1 h2 _ => ⟨b, c, h1, h2, .inl rfl⟩
    new := fun id b c h1 _ h3 => by have := R.old id b h1; omega
    dirty := rfl
    log := .refl _
    dom := fun d h => by cases h
    fzn := fun _ _ h => .inl h
    rel := {
      ext := R.ext.alloc R.ext.size o
      blk := fun id b c h1 h2 => (R.blk id b c h1 h2).keep (.refl _) (keep _ (R.lt h1 h2))
      inj := R.inj
      base := R.base
      top := R.top
      old := R.old
      fz := fun b C hb => by
        obtain ⟨e, fr, h1⟩ := R.fz b C hb
        exact ⟨e, fr, by rw [keep b (Array.getElem?_eq_some_iff.1 h1).1]; exact h1⟩
      nofz := R.nofz
      glob := R.glob } }

theorem callFunc_enter (hT : TabOk P T) {f : FuncId} {F : Func} (hf : T.fn f = some F) (hb : F.body.isSome = true) (args : Array Value) (w : World) : (callFunc f args).run P w = .ok (.enter f args) w := by
  obtain ⟨h1, h2⟩ := hT.fn f F hf
  have h2 : F.name ≠ "runtime.NumGoroutine" := by simpa using h2
  have h3 : F.body ≠ none := by intro h; rw [h] at hb; cases hb
  simp [callFunc, h1, h2, h3]

theorem hasBody_spec {f : FuncId} (h : hasBody C f = true) : ∃ F, C.tab.fn f = some F ∧ F.body.isSome = true := by
  unfold hasBody at h
  split at h
  · exact ⟨_, by assumption, h⟩
  · cases h

/-- The loop's record is laid. -/
theorem enterLoop_run {s : St} {ro : Option Nat} {a : Act} (S : SRel C w0 N Γ s ro a w) (hf : Fresh Γ s.h.next (s.h.next + 1)) (hl : inLoop s = true) (fn : FuncId) (ps : Array Tmp) (assign body : Code) :
    ∃ (l : Nat) (mark : List Deferred) (w1 : World), (Instr.enterLoop fn a.tmps ps assign body ro).run P w = .ok (l, mark) w1 ∧
      Adv w0 C.tab Γ s.h w (Γ.add s.h.next 0 (l, 0)) (s.h.new (.loop .ready none s.env ps.toList assign body)) w1 [] ∧
      DsRel (Γ.add s.h.next 0 (l, 0)) w1 N w1.heap.size (match s.rd with | none => none :: s.ds | some _ => s.ds) (mark ++ a.defers) := by
  have mk : ∀ (w' : World) (fnn : FuncId) (dd : Nat), ∀ Δ, (Γ.Le Δ) → BlkRel Δ (w'.alloc (.loop { state := .ready, pending := none, fn := fnn, tmps := a.tmps, params := ps, assign := assign, body := body, defers := dd })) (.loop .ready none s.env ps.toList assign body) (w'.heap.size, 0) := by
    intro w' fnn dd Δ hle
    exact ⟨_, heap_alloc_new w' _, rfl, rfl, fun _ => ⟨S.env.mono hle, rfl, rfl, rfl⟩⟩
  cases ro with
  | none =>
    have hrd : s.rd = none := by
      cases hq : s.rd with
      | none => rfl
      | some x => have := S.rd; rw [hq] at this; exact this.elim
    have A := Adv.junk S.rel (.deferred (some []))
    have B := Adv.alloc A.rel hf (.loop .ready none s.env ps.toList assign body) 0 (.loop { state := .ready, pending := none, fn := fn, tmps := a.tmps, params := ps, assign := assign, body := body, defers := w.heap.size }) rfl rfl rfl rfl
      (mk (w.alloc (.deferred (some []))) fn w.heap.size)
    refine ⟨(w.alloc (.deferred (some []))).heap.size, [{ target := .collected w.heap.size, args := #[] }], _, ?_, A.trans B, ?_⟩
    · simp [Instr.enterLoop, World.alloc_eq]
    · rw [hrd]
      have C1 := A.trans B
      refine .mark (B.deferred A.rel (heap_alloc_new w _)) S.big (by simp; omega) ?_
      have := S.ds.adv S.rel C1 (Nat.le_refl _)
      exact this
  | some lw =>
    cases hq : s.rd with
    | none => have := S.rd; rw [hq] at this; exact this.elim
    | some id =>
      have hrd := S.rd
      rw [hq] at hrd
      obtain ⟨r, hm⟩ := hrd
      unfold inLoop at hl
      rw [hq] at hl
      simp only at hl
      split at hl
      · rename_i st pending env0 ps0 as0 bd0 hg
        obtain ⟨L, h1, h2⟩ := S.rel.blk id _ _ hg hm
        have h1 : w.heap[lw]? = some (.loop L) := h1
        have B := Adv.alloc S.rel hf (.loop .ready none s.env ps.toList assign body) 0 (.loop { state := .ready, pending := none, fn := fn, tmps := a.tmps, params := ps, assign := assign, body := body, defers := L.defers }) rfl rfl rfl rfl
          (mk w fn L.defers)
        refine ⟨w.heap.size, [], _, ?_, B, ?_⟩
        · simp [Instr.enterLoop, Instr.getLoop, run_getObj_of h1, World.alloc_eq]
        · exact S.ds.adv S.rel B B.size
      · cases hl

theorem Adv.fresh_le {h' : Heap} (A : Adv w0 T Γ h w Δ h' w' D) : h.next ≤ h'.next := A.next

/-- The loop is over. -/
theorem endLoop_run {l : Nat} {lw r : Nat} (R : Rel w0 T Γ h w) {st : LoopState} {pending : Option Code} {env : Env} {ps : List Tmp} {assign body : Code} (hg : h.get l = some (.loop st pending env ps assign body))
    (hm : Γ.mu l 0 = some (lw, r)) (hst : st ≠ .busy) :
    ∃ w' D, (Instr.endLoop lw).run P w = .ok pending w' ∧ Adv w0 T Γ h w Γ (h.put l (.loop .exhausted pending [] [] .skip .skip)) w' D := by
  obtain ⟨L, h1, h2, h3, h4⟩ := R.blk l _ _ hg hm
  have h1 : w.heap[lw]? = some (.loop L) := h1
  have hlt : lw < w.heap.size := (Array.getElem?_eq_some_iff.1 h1).1
  refine ⟨_, _, ?_, Adv.put (b' := .loop .exhausted pending [] [] .skip .skip) (h' := h.put l (.loop .exhausted pending [] [] .skip .skip)) (w' := { w with heap := w.heap.setIfInBounds lw (.loop { L with state := .exhausted }) }) R hg hm rfl
    (fun j hj => put_heap w lw _ j hj) (by simp) rfl rfl rfl ?_ (d := (l, none)) rfl rfl (fun i => by rw [get_put, hg]; rfl) rfl⟩
  · have hb : ¬ L.state = LoopState.busy := by rw [h2]; exact hst
    simp [Instr.endLoop, Instr.getLoop, run_getObj_of h1, run_setObj_of _ h1, hb, h3]
  · refine ⟨{ L with state := .exhausted }, by simp [hlt], rfl, h3, fun h => absurd rfl h⟩

theorem rangeFunc_wp (hT : TabOk P C.tab) {call : CallF} (hc : CallOk C P w0 call) {f : Operand} {ps : Array Tmp} {assign body : Code} {s s' : St} {ex : Ex} (h : codeV C call (.rangeFunc f ps assign body) s = some (ex, s'))
    {ro : Option Nat} {a : Act} (S : SRel C w0 N Γ s ro a w) (hgr : Grows call) (hfr : Fresh Γ s.h.next s'.h.next) : (Code.rangeFunc f ps assign body).wpIn (Fat ro) 0 P (Post C w0 N Γ s.h w ro ex s') a w := by
  simp only [codeV] at h
  split at h
  · rename_i g fs cs hf
    obtain ⟨hb, h⟩ := bif_some h
    simp only [Bool.and_eq_true] at hb
    obtain ⟨hb, hin⟩ := hb
    obtain ⟨F, hF, hFb⟩ := hasBody_spec hb
    obtain ⟨fs', cs', e1, e2, e3⟩ := VRel.fn_iff.1 (evalO_rel S.env hf)
    split at h
    · rename_i v1 h2 hcall
      split at h
      · rename_i st pending env2 ps2 as2 bd2 hg
        refine wpIn_rangeFunc fun fn _ => ?_
        have n1 := hgr _ _ _ _ _ hcall
        rw [new_next] at n1
        have n2 : h2.next = s'.h.next := by
          split at h
          · cases h
          · split at h
            all_goals first
              | cases h; done
              | (simp only [Option.some.injEq, Prod.mk.injEq] at h; obtain ⟨_, rfl⟩ := h; rfl)
        obtain ⟨l, mark, w1, hE, A, hds⟩ := enterLoop_run (P := P) S (hfr.sub (Nat.le_refl _) (by omega)) hin fn ps assign body
        have hmu : (Γ.add s.h.next 0 (l, 0)).mu s.h.next 0 = some (l, 0) := Ctx.add_same _ _ _ _
        have hargs : LRel (Γ.add s.h.next 0 (l, 0)) (fs ++ (.yld s.h.next :: cs)) (((fs' ++ #[Value.func (.yield l) #[] #[]]) ++ cs').toList) := by
          simp only [Array.toList_append, List.append_assoc]
          exact (e2.mono A.le).append (.cons (.yld hmu) (e3.mono A.le))
        have hgives := hc.fn _ _ _ _ _ hcall _ w1 _ A.rel hargs (by rw [n2]; exact A.fresh hfr)
        unfold Gives NextOk at hgives
        rw [callFunc_enter hT hF hFb] at hgives
        simp only at hgives
        refine ⟨l, mark, w1, ⟨.fn (.func g) cs', fs' ++ #[Value.func (.yield l) #[] #[]]⟩, w1, g, (fs' ++ #[Value.func (.yield l) #[] #[]]) ++ cs', w1, hE, ?_, fun _ _ => trivial, ?_, fun h => (by cases h), ?_⟩
        · have hm : (#[Operand.const (.func (.yield l) #[] #[])]).map a.eval = #[Value.func (.yield l) #[] #[]] := by simp [Act.eval]
          simp only [resolve, rangeCall, e1, Deferred.ofValue, Sem.run_pure, hm]
        · simp only [invoke]
          exact callFunc_enter hT hF hFb _ _
        · rw [callsIn_fat]
          refine CallsIn.mono hgives fun e w3 ⟨v', he, Δ, D, hvr, B⟩ => ?_
          subst he
          have hst : st ≠ .busy := by rintro rfl; cases h
          have hm2 := B.le.mu _ _ _ hmu
          obtain ⟨w4, E, hend, B2⟩ := endLoop_run (P := P) B.rel hg hm2 hst
          have A3 := (A.trans B).trans B2
          have S' : SRel C w0 N Δ { s with h := h2.put s.h.next (.loop .exhausted pending [] [] .skip .skip), ds := (match s.rd with | none => none :: s.ds | some _ => s.ds) } ro { a with defers := mark ++ a.defers } w4 := by
            refine ⟨B2.rel, S.env.mono (A.le.trans B.le), ?_, Nat.le_trans S.big A3.size, S.rd.mono (A.le.trans B.le)⟩
            have B3 := B.trans B2
            exact hds.adv A.rel B3 B3.size
          refine ⟨pending, w4, hend, ?_⟩
          cases st with
          | busy => exact absurd rfl hst
          | _ =>
            simp only at h
            split at h
            · simp only [Option.some.injEq, Prod.mk.injEq] at h
              obtain ⟨rfl, rfl⟩ := h
              exact ⟨rfl, Δ, _, S', A3⟩
            · simp only [Option.some.injEq, Prod.mk.injEq] at h
              obtain ⟨rfl, rfl⟩ := h
              exact wpIn_exit ⟨rfl, Δ, _, S', A3⟩
            · simp only [Option.some.injEq, Prod.mk.injEq] at h
              obtain ⟨rfl, rfl⟩ := h
              exact wpIn_ret ⟨rfl, Δ, _, S', A3⟩
            · cases h
      · cases h
    · cases h
  · cases h

theorem loop_next {call : CallF} (hc : Grows call) {x : Code} {s' : St} {ex : Ex} : ∀ (n : Nat) (s : St), loopV (codeV C call x) n s = some (ex, s') → s.h.next ≤ s'.h.next := by
  intro n
  induction n with
  | zero => intro s h; simp [loopV] at h
  | succ n ih =>
    intro s h
    simp only [loopV] at h
    split at h
    · rename_i s1 h1
      exact Nat.le_trans (code_next hc x s s1 _ h1) (ih s1 h)
    · exact code_next hc x s s' ex h

theorem range_eq (n : Nat) : List.range n = List.range' 0 n := List.range_eq_range'

theorem code_wp (hT : TabOk P C.tab) {call : CallF} (hc : CallOk C P w0 call) (hgr : Grows call) (hdr : DrawOk C P w0 call) : ∀ (c : Code) (s s' : St) (ex : Ex), codeV C call c s = some (ex, s') →
    ∀ (Γ : Ctx) (ro : Option Nat) (a : Act) (w : World), SRel C w0 N Γ s ro a w → Fresh Γ s.h.next s'.h.next → c.wpIn (Fat ro) 0 P (Post C w0 N Γ s.h w ro ex s') a w
  | .skip, s, s', ex, h, Γ, ro, a, w, S, hf => by
    simp only [codeV, Option.some.injEq, Prod.mk.injEq] at h
    obtain ⟨rfl, rfl⟩ := h
    exact wpIn_skip ⟨rfl, Γ, _, S, .refl S.rel⟩
  | .label l, s, s', ex, h, Γ, ro, a, w, S, hf => by
    simp only [codeV, Option.some.injEq, Prod.mk.injEq] at h
    obtain ⟨rfl, rfl⟩ := h
    exact wpIn_label ⟨rfl, Γ, _, S, .refl S.rel⟩
  | .region id ops false, s, s', ex, h, Γ, ro, a, w, S, hf => by
    simp only [codeV, Option.map_eq_some_iff, Prod.mk.injEq] at h
    obtain ⟨s1, h1, rfl, rfl⟩ := h
    refine wpIn_region ?_
    rw [range_eq]
    have := ops_wp (P := P) (Q := Post C w0 N Γ s.h w ro .norm s1) hT hc hgr (ro := ro) (ops := ops) ops.toList 0 (fun j => by simp) Γ s s1 a w h1 S hf (fun Δ a' w' D S' A => ⟨rfl, Δ, D, S', A⟩)
    simpa using this
  | .region id ops true, s, s', ex, h, Γ, ro, a, w, S, hf => by
    simp only [codeV, Option.map_eq_some_iff, Prod.mk.injEq] at h
    obtain ⟨s1, h1, rfl, rfl⟩ := h
    exact hdr ops s s1 h1 _ Γ ro a w S hf id
  | .seq x y, s, s', ex, h, Γ, ro, a, w, S, hf => by
    simp only [codeV] at h
    refine wpIn_seq ?_
    split at h
    · rename_i s1 h1
      refine Code.wpIn_mono ?_ (code_wp hT hc hgr hdr x s s1 .norm h1 Γ ro a w S (hf.sub (Nat.le_refl _) (code_next hgr y s1 s' ex h)))
      rintro e a1 w1 ⟨rfl, Δ, D, S1, A⟩
      exact Code.wpIn_mono (fun e a2 w2 p => Post.trans A p) (code_wp hT hc hgr hdr y s1 s' ex h Δ ro a1 w1 S1 (A.fresh hf))
    · rename_i hn
      refine Code.wpIn_mono ?_ (code_wp hT hc hgr hdr x s s' ex h Γ ro a w S hf)
      rintro e a1 w1 ⟨rfl, p⟩
      cases ex with
      | norm => exact absurd h (hn s')
      | exit id => exact ⟨rfl, p⟩
      | ret => exact ⟨rfl, p⟩
  | .cond c x y, s, s', ex, h, Γ, ro, a, w, S, hf => by
    simp only [codeV] at h
    split at h
    · rename_i hv
      have hv := evalO_rel S.env hv
      generalize hq : a.eval c = cv at hv
      cases hv
      exact wpIn_cond_true hq (code_wp hT hc hgr hdr x s s' ex h Γ ro a w S hf)
    · rename_i hv
      have hv := evalO_rel S.env hv
      generalize hq : a.eval c = cv at hv
      cases hv
      exact wpIn_cond_false hq (code_wp hT hc hgr hdr y s s' ex h Γ ro a w S hf)
    · cases h
  | .block id x, s, s', ex, h, Γ, ro, a, w, S, hf => by
    simp only [codeV] at h
    refine wpIn_block ?_
    split at h
    · rename_i i s1 h1
      have hs1 : s1.h.next = s'.h.next := by rcases bif_or h with h | h <;> (simp only [Option.some.injEq, Prod.mk.injEq] at h; rw [h.2])
      refine Code.wpIn_mono ?_ (code_wp hT hc hgr hdr x s s1 (.exit i) h1 Γ ro a w S (by rw [hs1]; exact hf))
      rintro e a1 w1 ⟨rfl, p⟩
      by_cases hi : i = id
      · subst hi
        rw [Nat.beq_refl, cond_true] at h
        simp only [Option.some.injEq, Prod.mk.injEq] at h
        obtain ⟨rfl, rfl⟩ := h
        simp only [Ex.to, Exit.inBlock, if_true]
        exact ⟨rfl, p⟩
      · rw [nat_beq_ne hi, cond_false] at h
        simp only [Option.some.injEq, Prod.mk.injEq] at h
        obtain ⟨rfl, rfl⟩ := h
        simp only [Ex.to, Exit.inBlock, if_neg hi]
        exact ⟨rfl, p⟩
    · rename_i hn
      refine Code.wpIn_mono ?_ (code_wp hT hc hgr hdr x s s' ex h Γ ro a w S hf)
      rintro e a1 w1 ⟨rfl, p⟩
      cases ex with
      | norm => exact ⟨rfl, p⟩
      | exit id => exact absurd h (hn id s')
      | ret => exact ⟨rfl, p⟩
  | .loop x, s, s', ex, h, Γ, ro, a, w, S, hf => by
    simp only [codeV] at h
    have key : ∀ (n : Nat) (s : St) (Γ1 : Ctx) (a : Act) (w1 : World) (D : List (Nat × Option (Nat × Nat))), loopV (codeV C call x) n s = some (ex, s') → SRel C w0 N Γ1 s ro a w1 → Fresh Γ1 s.h.next s'.h.next → ∀ (h0 : Heap), Adv w0 C.tab Γ h0 w Γ1 s.h w1 D →
        Code.roundsIn (Fat ro) 0 P x (Post C w0 N Γ h0 w ro ex s') n a w1 := by
      intro n
      induction n with
      | zero => intro s Γ1 a w1 D h; simp [loopV] at h
      | succ n ih =>
        intro s Γ1 a w1 D h S hf h0 A
        simp only [loopV] at h
        rw [roundsIn_succ]
        split at h
        · rename_i s1 h1
          have n2 : s1.h.next ≤ s'.h.next := loop_next hgr n s1 h
          refine Code.wpIn_mono ?_ (code_wp hT hc hgr hdr x s s1 .norm h1 Γ1 ro a w1 S (hf.sub (Nat.le_refl _) n2))
          rintro e a1 w2 ⟨rfl, Δ, E, S1, B⟩
          exact ih s1 Δ a1 w2 _ h S1 (B.fresh hf) h0 (A.trans B)
        · rename_i hn
          refine Code.wpIn_mono ?_ (code_wp hT hc hgr hdr x s s' ex h Γ1 ro a w1 S hf)
          rintro e a1 w2 p
          have p' := Post.trans A p
          obtain ⟨rfl, q⟩ := p
          cases ex with
          | norm => exact absurd h (hn s')
          | exit id => exact p'
          | ret => exact p'
    exact wpIn_loop_rounds C.rounds (key C.rounds s Γ a w [] h S hf s.h (.refl S.rel))
  | .scope x, s, s', ex, h, Γ, ro, a, w, S, hf => by
    simp only [codeV] at h
    refine wpIn_scope_straight (Code.wpIn_mono ?_ (code_wp hT hc hgr hdr x s s' ex h Γ ro a w S hf))
    rintro e a1 w1 ⟨rfl, p⟩
    cases ex <;> exact ⟨rfl, p⟩
  | .exit id, s, s', ex, h, Γ, ro, a, w, S, hf => by
    simp only [codeV, Option.some.injEq, Prod.mk.injEq] at h
    obtain ⟨rfl, rfl⟩ := h
    exact wpIn_exit ⟨rfl, Γ, _, S, .refl S.rel⟩
  | .ret, s, s', ex, h, Γ, ro, a, w, S, hf => by
    simp only [codeV, Option.some.injEq, Prod.mk.injEq] at h
    obtain ⟨rfl, rfl⟩ := h
    exact wpIn_ret ⟨rfl, Γ, _, S, .refl S.rel⟩
  | .rangeFunc f ps assign body, s, s', ex, h, Γ, ro, a, w, S, hf => rangeFunc_wp hT hc h S hgr hf
  | .goto l, s, s', ex, h, Γ, ro, a, w, S, hf => by simp only [codeV] at h; cases h
  | .refuse r, s, s', ex, h, Γ, ro, a, w, S, hf => by simp only [codeV] at h; cases h
end
end Go.B
end
section
/- Functions' bodies, with what they defer, in B and in the model. -/
namespace Go.B
open Go Go.RowKit

section
variable {P : Program} {C : Conf} {w0 : World} {N : Nat} {Γ Δ : Ctx} {h h' : Heap} {w w' : World} {T : Tab} {D : List (Nat × Option (Nat × Nat))}

def resultOf (tmps : Array Value) : ResultVar → Sem Value
  | .tmp t => pure (tmps.getD t undef)
  | .cell a t => do loadVar t (← asAddr (tmps.getD a undef))

theorem resultVars_run (hT : TabOk P T) (R : Rel w0 T Γ h w) {env : Env} {tmps : Array Value} (he : ERel Γ env tmps) : ∀ {l : List ResultVar} {vs : List Val}, resultsV T h env l = some vs →
    ∃ vs', (l.mapM (resultOf tmps)).run P w = .ok vs' w ∧ LRel Γ vs vs'
  | [], vs, h => by
    simp only [resultsV, Option.some.injEq] at h; subst h
    exact ⟨[], by simp, .nil⟩
  | .tmp t :: l, vs, h => by
    simp only [resultsV] at h
    split at h
    · rename_i ws hw
      injection h with h; subst h
      obtain ⟨vs', h1, h2⟩ := resultVars_run hT R he hw
      exact ⟨_, by simp [List.mapM_cons, resultOf, h1], .cons (he.get t) h2⟩
    · cases h
  | .cell a t :: l, vs, h => by
    simp only [resultsV] at h
    split at h
    · rename_i v ws hv hw
      injection h with h; subst h
      obtain ⟨vs', h1, h2⟩ := resultVars_run hT R he hw
      obtain ⟨ad, v', e1, e2, e3⟩ := load_run hT R (he.get a) hv
      exact ⟨v' :: vs', by simp [List.mapM_cons, resultOf, e1, asAddr, e2, h1], .cons e3 h2⟩
    · cases h

/-- What a function hands back. -/
def handed : List Val → Val
  | [v] => v
  | vs => .tup vs

theorem results_run (hT : TabOk P T) (R : Rel w0 T Γ h w) {env : Env} {tmps : Array Value} (he : ERel Γ env tmps) {fn : Func} {vs : List Val} (hr : resultsV T h env fn.results.toList = some vs) :
    ∃ v', (results fn tmps).run P w = .ok v' w ∧ VRel Γ (handed vs) v' := by
  obtain ⟨vs', h1, h2⟩ := resultVars_run hT R he hr
  have hm : (fn.results.mapM (resultOf tmps) : Sem (Array Value)).run P w = .ok vs'.toArray w := by
    rw [Array.mapM_eq_mapM_toList]
    simp [h1]
  have hdef : results fn tmps = (do
    let vs ← fn.results.mapM (resultOf tmps)
    pure (if h : vs.size = 1 then vs[0] else .tuple vs)) := rfl
  rw [hdef]
  simp only [Sem.run_bind, hm, Result.andThen_ok, Sem.run_pure]
  refine ⟨_, rfl, ?_⟩
  have hl := h2.length
  unfold handed
  split
  · rename_i v
    obtain ⟨v', l, rfl, h3, h4⟩ := F2.cons_left h2
    have h4 := F2.nil_left h4
    subst h4
    simpa using h3
  · rename_i hn
    have : ¬ vs'.toArray.size = 1 := by
      intro hs
      simp at hs
      rw [hs] at hl
      match vs, hl with
      | [v], _ => exact hn v rfl
    rw [dif_neg this]
    exact VRel.tup_iff.2 ⟨_, rfl, by simpa using h2⟩

/-- A block of deferred calls of one's own is shut. -/
theorem Adv.shut {Γe : Ctx} {he : Heap} {we : World} (Re : Rel w0 T Γe he we) (A : Adv w0 T Γe he we Γ h w D) {r : Nat} {x : Option (List Deferred)} (hr : w.heap[r]? = some (.deferred x)) (hN : we.heap.size ≤ r) :
    Adv w0 T Γe he we Γ h { w with heap := w.heap.setIfInBounds r (.deferred none) } D := by
  have keep : ∀ k, k ≠ r → (w.heap.setIfInBounds r (.deferred none))[k]? = w.heap[k]? := fun k hk => put_heap w r _ k hk
  have hno : ∀ id b c, h.get id = some b → Γ.mu id b.gen = some c → c.1 ≠ r := by
    rintro id blk c h1 h2 rfl
    have hb := A.rel.blk id blk c h1 h2
    cases blk with
    | row cells g opn fz sz elem st => obtain ⟨C, fr, hb⟩ := hb; rw [hb.heap] at hr; cases hr
    | map es clock => obtain ⟨es', h1, _⟩ := hb; rw [h1] at hr; cases hr
    | iter s pos => have hb : w.heap[c.1]? = _ := hb; rw [hb] at hr; cases hr
    | loop st pending env ps assign body => obtain ⟨L, h1, _⟩ := hb; rw [h1] at hr; cases hr
  have R := A.rel
  exact {
    le := A.le
    next := A.next
    size := by simpa using A.size
    frame := fun b hb hD => by
      have := A.frame b hb hD
      rw [← this]
      exact keep b (by omega)
    mu := A.mu
    was := A.was
    new := A.new
    dirty := A.dirty
    log := A.log
    dom := A.dom
    fzn := A.fzn
    rel := {
      ext := R.ext.trans ⟨rfl, rfl, rfl, by simp, fun k hk => keep k (by have := Re.ext.size; omega)⟩
      blk := fun id b c h1 h2 => (R.blk id b c h1 h2).keep (.refl _) (keep _ (hno id b c h1 h2))
      inj := R.inj
      base := R.base
      top := R.top
      old := R.old
      fz := fun b C hb => by
        obtain ⟨e, fr, h1⟩ := R.fz b C hb
        refine ⟨e, fr, ?_⟩
        rw [keep b ?_]; exact h1
        rintro rfl
        rw [h1] at hr; cases hr
      nofz := R.nofz
      glob := R.glob } }

theorem DsRel.under {B : Nat} {x : List (Option (FuncId × List Val))} {d : List Deferred} (hd : DsRel Γ w N B x d) {w' : World} (hw : ∀ k, k < B → w'.heap[k]? = w.heap[k]?) : DsRel Γ w' N B x d := by
  induction hd with
  | nil => exact .nil
  | mark hr h1 h2 _ ih => exact .mark (by rw [hw _ h2]; exact hr) h1 h2 (ih fun k hk => hw k (by omega))
  | call hl _ ih => exact .call hl (ih hw)

theorem env0_rel {args : List Val} {args' : Array Value} (ha : LRel Γ args args'.toList) (n : Nat) : ERel Γ (args ++ List.replicate (n - args.length) (.tup [])) (args' ++ Array.replicate (n - args'.size) undef) := by
  have hl : args.length = args'.size := by simpa using ha.length
  unfold ERel
  rw [Array.toList_append, Array.toList_replicate, hl]
  exact ha.append (.replicate undef_rel _)

/-- From a function's head to where it leaves. -/
theorem enter_wp (hT : TabOk P C.tab) {call : CallF} (hc : CallOk C P w0 call) (hgr : Grows call) (hdr : DrawOk C P w0 call) {fn : Func} {c : Code} {args : List Val} {s : St} (h0 : enterV C call fn c args h = some s)
    (R : Rel w0 C.tab Γ h w) (ht : Fresh Γ h.next s.h.next) {args' : Array Value} (ha : LRel Γ args args'.toList) :
    c.wpIn Fence.wide 0 P (fun e a' w' => (e = .normal ∨ e = .ret) ∧ ∃ Δ D, SRel C w0 w.heap.size Δ s none a' w' ∧ Adv w0 C.tab Γ h w Δ s.h w' D) { tmps := args' ++ Array.replicate (fn.ntmps - args'.size) undef, defers := [] } w := by
  unfold enterV at h0
  have S : SRel C w0 w.heap.size Γ { env := args ++ List.replicate (fn.ntmps - args.length) (.tup []), h, ds := [], rd := none } none { tmps := args' ++ Array.replicate (fn.ntmps - args'.size) undef, defers := [] } w :=
    ⟨R, env0_rel ha _, .nil, Nat.le_refl _, trivial⟩
  split at h0
  · cases h0
  · rename_i ex s1 hne hcode
    injection h0 with h0; subst h0
    refine Code.wpIn_mono ?_ (code_wp hT hc hgr hdr c _ s1 ex hcode Γ none _ w S ht)
    rintro e a' w' ⟨rfl, p⟩
    refine ⟨?_, p⟩
    cases ex with
    | norm => exact .inl rfl
    | exit id => exact absurd rfl (hne id)
    | ret => exact .inr rfl
  · cases h0

theorem leaves_ok (hT : TabOk P C.tab) {call : CallF} (hc : CallOk C P w0 call) (hgr : Grows call) (hdr : DrawOk C P w0 call) {fn : Func} {tmps : Array Value} {R0 : Ending → World → Prop} {Γe : Ctx} {he : Heap} {we : World} (Re : Rel w0 C.tab Γe he we) :
    ∀ (ds : List (Option (FuncId × List Val))) (h h' : Heap), deferV C call ds h = some h' → ∀ (Γ : Ctx) (w : World) (df : List Deferred) (B : Nat) (D : List (Nat × Option (Nat × Nat))), DsRel Γ w we.heap.size B ds df → Adv w0 C.tab Γe he we Γ h w D → Fresh Γ h.next h'.next →
      (∀ Δ w' D', Adv w0 C.tab Γe he we Δ h' w' D' → Γ.Le Δ → ∃ v, (results fn tmps).run P w' = .ok v w' ∧ R0 (.returned v) w') → LeavesInM Fence.wide 0 P fn tmps R0 df .returning w
  | [], h, h', h0, Γ, w, df, B, D, hd, A, ht, hk => by
    cases hd
    simp only [deferV, Option.some.injEq] at h0
    subst h0
    exact hk Γ w D A (.refl _)
  | none :: ds, h, h', h0, Γ, w, df, B, D, hd, A, ht, hk => by
    cases hd with
    | @mark _ r as _ df hr h1 h2 t =>
      simp only [deferV] at h0
      refine ⟨by simp, .inl ⟨r, { w with heap := w.heap.setIfInBounds r (.deferred none) }, rfl, ?_, ?_⟩⟩
      · simp [Instr.takeDeferred, run_getObj_of hr, run_setObj_of _ hr]
      · refine leaves_ok hT hc hgr hdr Re ds h h' h0 Γ _ df r D (t.under fun k hk => put_heap w r _ k (by omega)) (A.shut Re hr h1) ht hk
  | some (f, args) :: ds, h, h', h0, Γ, w, df, B, D, hd, A, ht, hk => by
    cases hd with
    | @call _ _ _ cap as _ df hl t =>
      simp only [deferV] at h0
      split at h0
      · rename_i F hF
        split at h0
        · rename_i c hb
          split at h0
          · rename_i s1 hen
            split at h0
            · rename_i vs hds hres
              have hb' : F.body.isSome = true := by rw [hb]; rfl
              have hl' : LRel Γ args (as ++ cap).toList := by simpa using hl
              refine ⟨by simp, .inr ⟨fun h => (by cases h), .func f, cap, f, as ++ cap, rfl, ?_, fun _ _ => trivial, ?_⟩⟩
              · simp only [invoke]
                exact callFunc_enter hT hF hb' _ _
              · have n1 := defer_next hgr ds s1.h h' h0
                have hwp := enter_wp hT hc hgr hdr hen A.rel (ht.sub (Nat.le_refl _) n1) hl'
                refine CallsDIn.mono (callsDIn_of_wp (R := fun e w' => ∃ v, e = .returned v ∧ ∃ Δ E, Adv w0 C.tab Γ h w Δ s1.h w' E) (hT.fn f F hF).1 hb trivial (Code.wpIn_mono ?_ hwp)) ?_
                · rintro e a' w' ⟨he, Δ, E, S, A2⟩
                  have hdf := S.ds
                  rw [hds] at hdf
                  obtain ⟨v', hv, _⟩ := results_run hT S.rel S.env hres
                  have hnil : a'.defers = [] := by
                    generalize a'.defers = q at hdf
                    cases hdf; rfl
                  rcases he with rfl | rfl
                  · exact ⟨hnil, v', hv, v', rfl, Δ, E, A2⟩
                  · exact ⟨hnil, v', hv, v', rfl, Δ, E, A2⟩
                · rintro e u' w' ⟨rfl, v, rfl, Δ, E, A2⟩
                  simp only [settle]
                  refine leaves_ok hT hc hgr hdr Re ds s1.h h' h0 Δ w' df B _ ?_ (A.trans A2) (A2.fresh ht) fun Θ w'' D' A3 hle => hk Θ w'' D' A3 (A2.le.trans hle)
                  exact t.adv A.rel A2 (Nat.le_refl _)
            · cases h0
          · cases h0
        · cases h0
      · cases h0
end
end Go.B
end
section
/- A round of a range over a function, in B and in the model. -/
namespace Go.B
open Go Go.RowKit

section
variable {P : Program} {C : Conf} {w0 : World} {N : Nat} {Γ Δ : Ctx} {h h' : Heap} {w w' : World} {T : Tab} {D : List (Nat × Option (Nat × Nat))}

theorem putAll_rel : ∀ {env : Env} {tmps : Array Value} {ps : List Tmp} {args : List Val} {args' : List Value}, ERel Γ env tmps → LRel Γ args args' → ps.length = args.length →
    ERel Γ (putAll env (ps.zip args)) ((ps.zip args').foldl (fun tmps (x : Tmp × Value) => tmps.setIfInBounds x.1 x.2) tmps)
  | env, tmps, [], args, args', he, ha, hl => by
    cases ha with
    | nil => exact he
    | cons _ _ => simp at hl
  | env, tmps, p :: ps, args, args', he, ha, hl => by
    cases ha with
    | nil => simp at hl
    | cons hv t =>
      simp only [List.zip_cons_cons, putAll, List.foldl_cons]
      exact putAll_rel (he.set hv p) t (by simpa using hl)

theorem yield_run {L : Loop} {lw : Nat} (h1 : w.heap[lw]? = some (.loop L)) {args : Array Value} (hs : args.size = L.params.size) :
    (Instr.yield lw args).run P w = .ok (.round lw L.fn ((L.params.toList.zip args.toList).foldl (fun tmps (x : Tmp × Value) => tmps.setIfInBounds x.1 x.2) L.tmps) L.assign L.body) w := by
  simp only [Instr.yield, Instr.getLoop, Sem.run_bind, run_getObj_of h1 (by simp), Result.andThen_ok, Sem.run_pure]
  simp only [hs, ne_eq, not_true_eq_false, if_false, Sem.run_pure, Sem.run_bind, Result.andThen_ok]
  rw [← Array.foldl_toList, Array.toList_zip]

/-- The record of a loop, where it is changed. -/
theorem Adv.loop {id : Nat} {lw r : Nat} (R : Rel w0 T Γ h w) {st : LoopState} {pending : Option Code} {env : Env} {ps : List Tmp} {assign body : Code} (hg : h.get id = some (.loop st pending env ps assign body))
    (hm : Γ.mu id 0 = some (lw, r)) (hst : st ≠ .exhausted) (st' : LoopState) (pending' : Option Code) {L : Loop} (h1 : w.heap[lw]? = some (.loop L)) :
    ∃ D, Adv w0 T Γ h w Γ (h.put id (.loop st' pending' env ps assign body)) { w with heap := w.heap.setIfInBounds lw (.loop { L with state := st', pending := pending' }) } D := by
  obtain ⟨L', h2, h3, h4, h5⟩ := R.blk id _ _ hg hm
  have h2 : w.heap[lw]? = some (.loop L') := h2
  rw [h1] at h2
  cases h2
  have hlt : lw < w.heap.size := (Array.getElem?_eq_some_iff.1 h1).1
  refine ⟨_, Adv.put (b' := .loop st' pending' env ps assign body) (h' := h.put id (.loop st' pending' env ps assign body)) (w' := { w with heap := w.heap.setIfInBounds lw (.loop { L with state := st', pending := pending' }) }) R hg hm rfl
    (fun j hj => put_heap w lw _ j hj) (by simp) rfl rfl rfl ?_ (d := (id, none)) rfl rfl (fun i => by rw [get_put, hg]; rfl) rfl⟩
  exact ⟨{ L with state := st', pending := pending' }, by simp [hlt], rfl, rfl, fun _ => h5 hst⟩

theorem Rel.loop {id lw r : Nat} (R : Rel w0 T Γ h w) {st : LoopState} {pending : Option Code} {env : Env} {ps : List Tmp} {assign body : Code} (hg : h.get id = some (.loop st pending env ps assign body))
    (hm : Γ.mu id 0 = some (lw, r)) : ∃ L : Loop, w.heap[lw]? = some (.loop L) ∧ L.state = st ∧ L.pending = pending ∧ (st ≠ .exhausted → ERel Γ env L.tmps ∧ L.params.toList = ps ∧ L.assign = assign ∧ L.body = body) :=
  R.blk id _ _ hg hm

theorem round_ok (hT : TabOk P C.tab) {call : CallF} (hc : CallOk C P w0 call) (hgr : Grows call) (hdr : DrawOk C P w0 call) {l : Nat} {args : List Val} {v : Val} (h0 : roundV C call l args h = some (v, h'))
    (R : Rel w0 C.tab Γ h w) (ht : Fresh Γ h.next h'.next) {lw r : Nat} (hm : Γ.mu l 0 = some (lw, r)) {args' : Array Value} (ha : LRel Γ args args'.toList) :
    Gives P w0 C.tab Γ h w (Instr.yield lw args') v h' := by
  unfold roundV at h0
  split at h0
  · rename_i pd0 env0 ps0 assign0 body0 hg
    obtain ⟨hb, h0⟩ := bif_some h0
    have hb := nat_beq_eq hb
    obtain ⟨L, g1, g2, g3, g4⟩ := R.loop hg hm
    obtain ⟨k1, k2, k3, k4⟩ := g4 (by simp)
    have hsz : args'.size = L.params.size := by
      have e1 := ha.length
      have e2 := congrArg List.length k2
      simp at e1 e2
      omega
    unfold Gives NextOk
    rw [yield_run g1 hsz]
    simp only
    split at h0
    · rename_i s1 hassign
      split at h0
      · rename_i pd1 env1 ps1 assign1 body1 hg1
        split at h0
        · rename_i ex s2 hbody
          split at h0
          · rename_i pd2 env2 ps2 assign2 body2 hds hg2
            have n2 : s2.h.next = h'.next := by
              split at h0 <;> (simp only [Option.some.injEq, Prod.mk.injEq] at h0; rw [← h0.2]; rfl)
            have n1 := code_next hgr _ _ _ _ hbody
            simp only [put_next] at n1
            refine roundIn_of_wpIn trivial ?_
            have S : SRel C w0 w.heap.size Γ { env := putAll env0 (ps0.zip args), h, ds := [], rd := some l } (some lw)
                { tmps := (L.params.toList.zip args'.toList).foldl (fun tmps (x : Tmp × Value) => tmps.setIfInBounds x.1 x.2) L.tmps, defers := [] } w :=
              ⟨R, by rw [k2]; exact putAll_rel k1 ha hb, .nil, Nat.le_refl _, ⟨r, hm⟩⟩
            rw [k3, k4]
            refine Code.wpIn_mono ?_ (code_wp hT hc hgr hdr assign0 _ s1 .norm hassign Γ (some lw) _ w S (ht.sub (Nat.le_refl _) (by omega)))
            rintro e a1 w1 ⟨rfl, Δ1, D1, S1, A1⟩
            have hm1 := A1.le.mu _ _ _ hm
            obtain ⟨L1, q1, q2, q3, q4⟩ := S1.rel.loop hg1 hm1
            obtain ⟨E1, B1⟩ := Adv.loop S1.rel hg1 hm1 (by simp) .busy pd1 q1
            refine ⟨{ w1 with heap := w1.heap.setIfInBounds lw (.loop { L1 with state := .busy, pending := pd1 }) }, ?_, ?_⟩
            · simp only [Instr.beginRound, Instr.getLoop, Sem.run_bind, run_getObj_of q1 (by simp), Result.andThen_ok, Sem.run_pure, run_setObj_of _ q1 (by simp), q2, ← q3]
            · have S1' : SRel C w0 w.heap.size Δ1 { s1 with h := s1.h.put l (.loop .busy pd1 env1 ps1 assign1 body1) } (some lw) a1 { w1 with heap := w1.heap.setIfInBounds lw (.loop { L1 with state := .busy, pending := pd1 }) } :=
                ⟨B1.rel, S1.env, S1.ds.adv S1.rel B1 B1.size, Nat.le_trans S1.big B1.size, S1.rd⟩
              refine Code.wpIn_mono ?_ (code_wp hT hc hgr hdr body0 _ s2 ex hbody Δ1 (some lw) a1 _ S1' (by rw [n2]; exact (A1.trans B1).fresh ht))
              rintro e a2 w2 ⟨rfl, Δ2, D2, S2, A2⟩
              have hm2 := A2.le.mu _ _ _ hm1
              obtain ⟨L2, p1, p2, p3, p4⟩ := S2.rel.loop hg2 hm2
              have A := (A1.trans B1).trans A2
              cases ex with
              | norm =>
                simp only [Option.some.injEq, Prod.mk.injEq] at h0
                obtain ⟨rfl, rfl⟩ := h0
                obtain ⟨E2, B2⟩ := Adv.loop S2.rel hg2 hm2 (by simp) .ready none p1
                refine ⟨.bool true, _, ?_, .bool true, rfl, Δ2, _, .bool true, A.trans B2⟩
                simp [Instr.endRound, Instr.getLoop, run_getObj_of p1, run_setObj_of _ p1]
              | ret =>
                simp only [Option.some.injEq, Prod.mk.injEq] at h0
                obtain ⟨rfl, rfl⟩ := h0
                obtain ⟨E2, B2⟩ := Adv.loop S2.rel hg2 hm2 (by simp) .done (some .ret) p1
                refine ⟨.bool false, _, ?_, .bool false, rfl, Δ2, _, .bool false, A.trans B2⟩
                simp [Instr.endRound, Instr.getLoop, run_getObj_of p1, run_setObj_of _ p1]
              | exit id =>
                simp only [Option.some.injEq, Prod.mk.injEq] at h0
                obtain ⟨rfl, rfl⟩ := h0
                obtain ⟨E2, B2⟩ := Adv.loop S2.rel hg2 hm2 (by simp) .done (some (.exit id)) p1
                refine ⟨.bool false, _, ?_, .bool false, rfl, Δ2, _, .bool false, A.trans B2⟩
                simp [Instr.endRound, Instr.getLoop, run_getObj_of p1, run_setObj_of _ p1]
          · cases h0
        · cases h0
      · cases h0
    · cases h0
  · cases h0
end
end Go.B
end
