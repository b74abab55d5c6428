/- A part of the proof that scrim/scrimlaw21.QueryPixels returns true at every input. -/
import Derived.Test.YtcchpcpanogbpaaGreatDoorB7
set_option linter.unusedSimpArgs false
set_option linter.unusedVariables false
section
/- Frozen values: what they stand for. -/
namespace Go.B
open Go Go.RowKit

section
variable {P : Program} {C : Conf} {w0 : World} {Γ Δ : Ctx} {h h' : Heap} {w w' : World} {T : Tab}

/-- Is it a row's block? -/
def RowAt (Γ : Ctx) (h : Heap) (b : Nat) : Prop := ∃ id cells g o fz sz e st c, h.get id = some (.row cells g o fz sz e st) ∧ Γ.mu id g = some c ∧ c.1 = b

open Classical in
/-- What is known and is not written any more: what was so, and the rows as they are. -/
noncomputable def Ctx.frozen (Γ : Ctx) (h : Heap) (w : World) : Ctx where
  mu := fun _ _ => none
  fz := fun b => match Γ.fz b with
    | some C => some C
    | none => if RowAt Γ h b then (match w.heap[b]? with
      | some (.cells C _ _) => some C
      | _ => none) else none

theorem frozen_le (Γ : Ctx) (h : Heap) (w : World) : Γ.noMu.Le (Γ.frozen h w) := ⟨fun _ _ _ q => (by cases q), fun b C q => by
  have q : Γ.fz b = some C := q
  simp [Ctx.frozen, q]⟩

theorem frozen_row (R : Rel w0 T Γ h w) {id : Nat} {cells : List Val} {g : Nat} {o : Bool} {fz sz : Nat} {e : TypeId} {st : Bool} {c : Nat × Nat} (hg : h.get id = some (.row cells g o fz sz e st)) (hm : Γ.mu id g = some c)
    {A : Array Value} {el : TypeId} {fr : Nat × Nat} (hw : w.heap[c.1]? = some (.cells A el fr)) : (Γ.frozen h w).fz c.1 = some A := by
  have h1 : Γ.fz c.1 = none := R.nofz id _ c hg hm
  have h2 : RowAt Γ h c.1 := ⟨id, cells, g, o, fz, sz, e, st, c, hg, hm, rfl⟩
  simp [Ctx.frozen, h1, h2, hw]

theorem frzL_rel {f : Val → Option Val} (hf : ∀ v v2 v', f v = some v2 → VRel Γ v v' → VRel Δ v2 v') : ∀ {l l2 : List Val} {l' : List Value}, frzL f l = some l2 → LRel Γ l l' → LRel Δ l2 l'
  | [], l2, _, h, .nil => by simp only [frzL, Option.some.injEq] at h; subst h; exact .nil
  | v :: l, l2, _, h, .cons hv t => by
    simp only [frzL] at h
    split at h
    · rename_i x xs h1 h2
      injection h with h; subst h
      exact .cons (hf _ _ _ h1 hv) (frzL_rel hf h2 t)
    · cases h

theorem row_frozen (R : Rel w0 T Γ h w) {id g : Nat} {cells cs : List Val} {o : Bool} {fz sz : Nat} {e : TypeId} {st : Bool} {c : Nat × Nat} (hg : h.get id = some (.row cells g o fz sz e st)) (hm : Γ.mu id g = some c)
    {f : Val → Option Val} (hf : ∀ v v2 v', f v = some v2 → VRel Γ v v' → VRel (Γ.frozen h w) v2 v') (hc : frzL f cells = some cs) :
    ∃ A : Array Value, (Γ.frozen h w).fz c.1 = some A ∧ (∀ (i : Nat) (v : Val), cs[i]? = some v → A[0 + i]? = some ((A[i]?).getD undef)) ∧ ∀ (i : Nat) (v : Val), cs[i]? = some v → VRel (Γ.frozen h w).noMu v ((A[i]?).getD undef) := by
  obtain ⟨A, fr, hrow⟩ := R.blk id _ c hg hm
  have hl := frzL_rel hf hc hrow.rel
  refine ⟨A, frozen_row R hg hm hrow.heap, fun i v hi => ?_, fun i v hi => ?_⟩
  · obtain ⟨v', h1, _⟩ := hl.get i v hi
    rw [List.getElem?_take] at h1
    split at h1
    · rw [Nat.zero_add, ← Array.getElem?_toList, h1]; rfl
    · cases h1
  · obtain ⟨v', h1, h2⟩ := hl.get i v hi
    rw [List.getElem?_take] at h1
    split at h1
    · rw [← Array.getElem?_toList, h1]; exact h2
    · cases h1

theorem frz_rel (R : Rel w0 T Γ h w) : ∀ (n : Nat) (v v2 : Val) (v' : Value), frz h n v = some v2 → VRel Γ v v' → VRel (Γ.frozen h w) v2 v'
  | 0, v, v2, v', h0, hv => by simp [frz] at h0
  | n + 1, v, v2, v', h0, hv => by
    have hle := frozen_le Γ h w
    simp only [frz] at h0
    cases hv <;> simp only [reduceCtorEq, Option.some.injEq] at h0
    case bool => subst h0; exact .bool _
    case int => subst h0; exact .int _ _
    case str => subst h0; exact .str _
    case nilp => subst h0; exact .nilp
    case nils => subst h0; exact .nils
    case nilf => subst h0; exact .nilf
    case nili => subst h0; exact .nili
    case nilm => subst h0; exact .nilm
    case gptr => subst h0; exact .gptr _ _
    case esl => subst h0; exact .esl _ _
    case fptr f hc q hv => subst h0; exact .fptr f (hle.fz _ _ q) hc fun i v hi => (hv i v hi).mono hle
    case fsl f hk hc q hv => subst h0; exact .fsl f (hle.fz _ _ q) hk hc fun i v hi => (hv i v hi).mono hle
    case ptr id g off b r hm =>
      split at h0
      · rename_i cells g' o fz sz e st hg
        obtain ⟨hb, hq⟩ := bif_some h0
        clear h0
        have hb := nat_beq_eq hb
        subst hb
        simp only [Option.map_eq_some_iff] at hq
        obtain ⟨cs, hcs, rfl⟩ := hq
        obtain ⟨A, h1, h2, h3⟩ := row_frozen R hg hm (fun v v2 v' a b => frz_rel R n v v2 v' a b) hcs
        have := VRel.fptr (off := off) (fun i => (A[i]?).getD undef) h1 h2 h3
        simpa using this
      · cases h0
    case sl id g off len c b r cap hk hm =>
      split at h0
      · rename_i cells g' o fz sz e st hg
        obtain ⟨hb, hq⟩ := bif_some h0
        clear h0
        have hb := nat_beq_eq hb
        subst hb
        simp only [Option.map_eq_some_iff] at hq
        obtain ⟨cs, hcs, rfl⟩ := hq
        obtain ⟨A, h1, h2, h3⟩ := row_frozen R hg hm (fun v v2 v' a b => frz_rel R n v v2 v' a b) hcs
        cases cap with
        | exact m =>
          have := VRel.fsl (off := off) (cap := .exact m) (fun i => (A[i]?).getD undef) h1 hk h2 h3
          simpa using this
        | opn =>
          have hk' : CapOk .unk c 1 len 0 := by obtain ⟨q1, q2, q3⟩ := hk; show len ≤ c; omega
          have := VRel.fsl (off := off) (cap := .unk) (fun i => (A[i]?).getD undef) h1 hk' h2 h3
          simpa using this
        | unk =>
          have := VRel.fsl (off := off) (cap := .unk) (fun i => (A[i]?).getD undef) h1 hk h2 h3
          simpa using this
      · cases h0
    case agg cs cs' h1 hc =>
      simp only [Option.map_eq_some_iff] at h0
      obtain ⟨cs2, h2, rfl⟩ := h0
      exact VRel.agg_iff.2 ⟨_, rfl, frzL_rel (fun v v2 v' a b => frz_rel R n v v2 v' a b) h2 (LRel.of_arr h1 hc)⟩
    case tup cs cs' h1 hc =>
      simp only [Option.map_eq_some_iff] at h0
      obtain ⟨cs2, h2, rfl⟩ := h0
      exact VRel.tup_iff.2 ⟨_, rfl, frzL_rel (fun v v2 v' a b => frz_rel R n v v2 v' a b) h2 (LRel.of_arr h1 hc)⟩
    case ifc t v v' hv =>
      simp only [Option.map_eq_some_iff] at h0
      obtain ⟨v3, h2, rfl⟩ := h0
      exact .ifc (frz_rel R n v v3 v' h2 hv)
    case fn f fs cs fs' cs' h1 h2 hf hc =>
      split at h0
      · rename_i fs2 cs2 q1 q2
        simp only [Option.some.injEq] at h0
        subst h0
        exact VRel.fn_iff.2 ⟨_, _, rfl, frzL_rel (fun v v2 v' a b => frz_rel R n v v2 v' a b) q1 (LRel.of_arr h1 hf), frzL_rel (fun v v2 v' a b => frz_rel R n v v2 v' a b) q2 (LRel.of_arr h2 hc)⟩
      · cases h0

theorem frzL_same {f : Val → Option Val} : ∀ {l l2 : List Val}, (∀ v ∈ l, ∀ v2, f v = some v2 → v2 = v) → frzL f l = some l2 → l2 = l
  | [], l2, _, h => by simp only [frzL, Option.some.injEq] at h; exact h.symm
  | v :: l, l2, hv, h => by
    simp only [frzL] at h
    split at h
    · rename_i x xs h1 h2
      injection h with h; subst h
      rw [hv v (by simp) x h1, frzL_same (fun u hu => hv u (by simp [hu])) h2]
    · cases h

theorem idFree_same : ∀ (n : Nat) (v v2 : Val), idFree n v = true → frz h n v = some v2 → v2 = v
  | 0, v, v2, h0, _ => by simp [idFree] at h0
  | n + 1, v, v2, h0, h1 => by
    cases v <;> simp only [idFree, frz, Bool.false_eq_true, Option.some.injEq, reduceCtorEq] at h0 h1 <;> first
      | exact h1.symm
      | (simp only [Option.map_eq_some_iff] at h1
         obtain ⟨x, hx, rfl⟩ := h1
         simp only [List.all_eq_true] at h0
         rw [frzL_same (fun v hv v2 h => idFree_same n v v2 (h0 v hv) h) hx])
      | (simp only [Option.map_eq_some_iff] at h1
         obtain ⟨x, hx, rfl⟩ := h1
         rw [idFree_same n _ x h0 hx])
      | (split at h1
         · rename_i fs cs q1 q2
           simp only [Option.some.injEq] at h1
           subst h1
           simp only [Bool.and_eq_true, List.all_eq_true] at h0
           rw [frzL_same (fun v hv v2 h => idFree_same n v v2 (h0.1 v hv) h) q1, frzL_same (fun v hv v2 h => idFree_same n v v2 (h0.2 v hv) h) q2]
         · cases h1)

theorem idFree_rel : ∀ (n : Nat) (v : Val) (v' : Value), idFree n v = true → VRel Γ v v' → VRel Γ.noMu v v'
  | 0, v, v', h0, _ => by simp [idFree] at h0
  | n + 1, v, v', h0, hv => by
    cases hv <;> simp only [idFree, Bool.false_eq_true] at h0
    case bool => exact .bool _
    case int => exact .int _ _
    case str => exact .str _
    case nilp => exact .nilp
    case nils => exact .nils
    case nilf => exact .nilf
    case nili => exact .nili
    case nilm => exact .nilm
    case gptr => exact .gptr _ _
    case esl => exact .esl _ _
    case fptr f hc q hv => exact .fptr f q hc hv
    case fsl f hk hc q hv => exact .fsl f q hk hc hv
    case agg cs cs' h1 hc =>
      simp only [List.all_eq_true] at h0
      exact .agg h1 fun i v v' a b => idFree_rel n v v' (h0 v (List.mem_of_getElem? a)) (hc i v v' a b)
    case tup cs cs' h1 hc =>
      simp only [List.all_eq_true] at h0
      exact .tup h1 fun i v v' a b => idFree_rel n v v' (h0 v (List.mem_of_getElem? a)) (hc i v v' a b)
    case ifc t v v' hv => exact .ifc (idFree_rel n v v' h0 hv)
    case fn f fs cs fs' cs' h1 h2 hf hc =>
      simp only [Bool.and_eq_true, List.all_eq_true] at h0
      exact .fn h1 h2 (fun i v v' a b => idFree_rel n v v' (h0.1 v (List.mem_of_getElem? a)) (hf i v v' a b)) fun i v v' a b => idFree_rel n v v' (h0.2 v (List.mem_of_getElem? a)) (hc i v v' a b)

theorem plain_rel : ∀ (n : Nat) (v : Val) (v' : Value), plainV n v = true → VRel Γ v v' → VRel Δ v v'
  | 0, v, v', h0, _ => by simp [plainV] at h0
  | n + 1, v, v', h0, hv => by
    cases hv <;> simp only [plainV, Bool.false_eq_true] at h0
    case bool => exact .bool _
    case int => exact .int _ _
    case str => exact .str _
    case nilp => exact .nilp
    case nils => exact .nils
    case nilf => exact .nilf
    case nili => exact .nili
    case nilm => exact .nilm
    case agg cs cs' h1 hc =>
      simp only [List.all_eq_true] at h0
      exact .agg h1 fun i v v' a b => plain_rel n v v' (h0 v (List.mem_of_getElem? a)) (hc i v v' a b)
    case tup cs cs' h1 hc =>
      simp only [List.all_eq_true] at h0
      exact .tup h1 fun i v v' a b => plain_rel n v v' (h0 v (List.mem_of_getElem? a)) (hc i v v' a b)
    case ifc t v v' hv => exact .ifc (plain_rel n v v' h0 hv)
    case fn f fs cs fs' cs' h1 h2 hf hc =>
      simp only [Bool.and_eq_true, List.all_eq_true] at h0
      exact .fn h1 h2 (fun i v v' a b => plain_rel n v v' (h0.1 v (List.mem_of_getElem? a)) (hf i v v' a b)) fun i v v' a b => plain_rel n v v' (h0.2 v (List.mem_of_getElem? a)) (hc i v v' a b)
end
end Go.B
end
section
/- Calls in B and in the model. -/
namespace Go.B
open Go Go.RowKit

section
variable {P : Program} {C : Conf} {w0 : World} {Γ Δ : Ctx} {h h' : Heap} {w w' : World} {T : Tab}

theorem gives_enter (hT : TabOk P T) {f : FuncId} {F : Func} (hF : T.fn f = some F) (hb : F.body.isSome = true) {args : Array Value} {v : Val} (hcall : CallsIn Fence.wide 0 P f args w fun e w'' => ∃ v', e = .returned v' ∧ ∃ Δ D, VRel Δ v v' ∧ Adv w0 T Γ h w Δ h' w'' D) :
    Gives P w0 T Γ h w (callFunc f args) v h' := by
  unfold Gives NextOk
  rw [callFunc_enter hT hF hb]
  exact hcall

theorem body_ok (hT : TabOk P C.tab) {call : CallF} (hc : CallOk C P w0 call) (hgr : Grows call) (hdr : DrawOk C P w0 call) {f : FuncId} {F : Func} (hF : C.tab.fn f = some F) {args : List Val} {v : Val} (h0 : bodyV C call f F args h = some (v, h'))
    (R : Rel w0 C.tab Γ h w) (ht : Fresh Γ h.next h'.next) {args' : Array Value} (ha : LRel Γ args args'.toList) : Gives P w0 C.tab Γ h w (callFunc f args') v h' := by
  unfold bodyV at h0
  split at h0
  · rename_i hb
    split at h0
    · rename_i e he
      have X := hT.ext f F e hF he
      obtain ⟨Δ, v', w', D, h1, h2, h3⟩ := extern_sound (P := P) hT R ha h0
      have hrun := run_callFunc_extern (P := P) (hT.fn f F hF).1 X.name X.body X.next X.row args' w
      rw [h1, Result.andThen_ok] at hrun
      exact .of_comes ⟨Δ, v', w', D, .inl hrun, h2, h3⟩
    · cases h0
  · rename_i c hb
    have hb' : F.body.isSome = true := by rw [hb]; rfl
    split at h0
    · rename_i s hen
      split at h0
      · rename_i h1 hdef
        refine gives_enter hT hF hb' ?_
        have hres : ∃ vs, resultsV C.tab h1 s.env F.results.toList = some vs ∧ v = handed vs ∧ h' = h1 := by
          split at h0
          · rename_i v1 hr
            simp only [Option.some.injEq, Prod.mk.injEq] at h0
            obtain ⟨rfl, rfl⟩ := h0
            exact ⟨_, hr, rfl, rfl⟩
          · rename_i vs hne hr
            simp only [Option.some.injEq, Prod.mk.injEq] at h0
            obtain ⟨rfl, rfl⟩ := h0
            refine ⟨_, hr, ?_, rfl⟩
            unfold handed
            split
            · exact absurd rfl (hne _)
            · rfl
          · cases h0
        obtain ⟨vs, hr, rfl, rfl⟩ := hres
        have n1 := defer_next hgr _ _ _ hdef
        refine callsIn_of_wp_marks (hT.fn f F hF).1 hb trivial (Code.wpIn_mono ?_ (enter_wp hT hc hgr hdr hen R (ht.sub (Nat.le_refl _) n1) ha))
        rintro e a' w' ⟨he, Δ, D, S, A⟩
        have hl : LeavesInM Fence.wide 0 P F a'.tmps (fun e w'' => ∃ v', e = .returned v' ∧ ∃ Δ D, VRel Δ (handed vs) v' ∧ Adv w0 C.tab Γ h w Δ h' w'' D) a'.defers .returning w' := by
          refine leaves_ok hT hc hgr hdr R s.ds s.h h' hdef Δ w' a'.defers w'.heap.size D S.ds A (A.fresh ht) fun Θ w'' D' A' hle => ?_
          obtain ⟨v', h2, h3⟩ := results_run (P := P) hT A'.rel (S.env.mono hle) hr
          exact ⟨v', h2, v', rfl, Θ, D', h3, A'⟩
        rcases he with rfl | rfl
        · exact hl
        · exact hl
      · cases h0
    · cases h0

theorem get_nil (id : Nat) : Heap.nil.get id = none := rfl

/-- A heap of its own. -/
theorem rel_nil {Γ' : Ctx} (hfz : ∀ b A, Γ'.fz b = some A → ∃ e fr, w.heap[b]? = some (.cells A e fr)) (hglob : ∀ g cells, T.glob g = some cells → ∃ A, Γ'.fz g = some A ∧ LRel Γ'.noMu cells (A.toList.take cells.length)) : Rel w T Γ' .nil w where
  ext := .refl _ _
  blk := fun id b c h1 => by rw [get_nil] at h1; cases h1
  inj := fun id _ b _ c _ h1 => by rw [get_nil] at h1; cases h1
  base := fun id b c h1 => by rw [get_nil] at h1; cases h1
  top := fun id b g c h1 => by rw [get_nil] at h1; cases h1
  old := fun id b h1 => by rw [get_nil] at h1; cases h1
  fz := hfz
  nofz := fun id b c h1 => by rw [get_nil] at h1; cases h1
  glob := hglob

theorem frozen_fz (R : Rel w0 T Γ h w) {b : Nat} {A : Array Value} (hq : (Γ.frozen h w).fz b = some A) : (Γ.fz b = some A ∨ RowAt Γ h b) ∧ ∃ e fr, w.heap[b]? = some (.cells A e fr) := by
  unfold Ctx.frozen at hq
  simp only at hq
  split at hq
  · rename_i A' h1
    injection hq with hq; subst hq
    exact ⟨.inl h1, R.fz b _ h1⟩
  · split at hq
    · rename_i hr
      split at hq
      · rename_i A' el fr hw
        injection hq with hq; subst hq
        exact ⟨.inr hr, _, _, hw⟩
      · cases hq
    · cases hq

/-- What is laid above leaves all as it was. -/
theorem Adv.over (R : Rel w0 T Γ h w) (hext : Below w.heap.size w w') (hmu : Δ.mu = Γ.mu) (hle : Γ.Le Δ) (hfzn : ∀ b A, Δ.fz b = some A → Γ.fz b = some A ∨ w.heap.size ≤ b)
    (hfz : ∀ b A, Δ.fz b = some A → ∃ e fr, w'.heap[b]? = some (.cells A e fr)) : Adv w0 T Γ h w Δ h w' [] where
  le := hle
  next := Nat.le_refl _
  size := hext.size
  frame := fun b hb _ => hext.block b hb
  mu := fun id g c hm => .inl (by rwa [hmu] at hm)
  was := fun id b c h1 h2 _ => ⟨b, c, h1, by rwa [hmu] at h2, .inl rfl⟩
  new := fun id b c h1 _ h3 => by have := R.old id b h1; omega
  dirty := rfl
  log := .refl _
  dom := fun d h => by cases h
  fzn := hfzn
  rel := {
    ext := R.ext.trans (hext.mono R.ext.size)
    blk := fun id b c h1 h2 => by
      rw [hmu] at h2
      exact (R.blk id b c h1 h2).keep hle (hext.block _ (R.lt h1 h2))
    inj := fun i₁ i₂ b₁ b₂ c₁ c₂ g₁ g₂ m₁ m₂ e => by rw [hmu] at m₁ m₂; exact R.inj _ _ _ _ _ _ g₁ g₂ m₁ m₂ e
    base := fun id b c h1 h2 => by rw [hmu] at h2; exact R.base id b c h1 h2
    top := fun id b g c h1 h2 => by rw [hmu] at h2; exact R.top id b g c h1 h2
    old := R.old
    fz := hfz
    nofz := fun id b c h1 h2 => by
      rw [hmu] at h2
      have h3 := R.nofz id b c h1 h2
      cases hq : Δ.fz c.1 with
      | none => rfl
      | some A =>
        rcases hfzn c.1 A hq with h4 | h4
        · rw [h3] at h4; cases h4
        · have := R.lt h1 h2; omega
    glob := fun g cells hg => by
      obtain ⟨A, h1, h2⟩ := R.glob g cells hg
      exact ⟨A, hle.fz _ _ h1, h2.mono (Ctx.noMu_mono hle)⟩ }

/-- A function that is run on a heap of its own. -/
theorem alone_ok {Good : World → Prop} (hgood : Good w) (hT : TabOk P C.tab) {call : CallF} (hc : ∀ w0, Good w0 → CallOk C P w0 call) (hgr : Grows call) (hdr : ∀ w0, Good w0 → DrawOk C P w0 call) {f : FuncId} {F : Func} (hF : C.tab.fn f = some F)
    {args args2 : List Val} {v v2 : Val} (ha2 : frzL (frz h 30) args = some args2) (h0 : bodyV C call f F args2 .nil = some (v, h')) (hv2 : frz h' 30 v = some v2) (hp : (args.all (fun a => idFree 30 a) || plainV 30 v2) = true)
    (R : Rel w0 C.tab Γ h w) {args' : Array Value} (ha : LRel Γ args args'.toList) : Gives P w0 C.tab Γ h w (callFunc f args') v2 h := by
  have top : ∀ Γ' : Ctx, Γ'.mu = (fun _ _ => none) → Fresh Γ' Heap.nil.next h'.next := fun Γ' e id g _ _ => by rw [e]
  by_cases hfree : args.all (fun a => idFree 30 a) = true
  · have hfree' : ∀ v ∈ args, idFree 30 v = true := by simpa using hfree
    have e : args2 = args := frzL_same (fun v hv v2 q => idFree_same 30 v v2 (hfree' v hv) q) ha2
    subst e
    have hn : LRel Γ.noMu args2 args'.toList := by
      have : ∀ {l : List Val} {l' : List Value}, (∀ v ∈ l, idFree 30 v = true) → LRel Γ l l' → LRel Γ.noMu l l' := by
        intro l l' hl hr
        induction hr with
        | nil => exact .nil
        | cons hv _ ih => exact .cons (idFree_rel 30 _ _ (hl _ (by simp)) hv) (ih fun v hv => hl v (by simp [hv]))
      exact this hfree' ha
    have R' : Rel w C.tab Γ.noMu .nil w := rel_nil (fun b A q => R.fz b A q) fun g cells hg => R.glob g cells hg
    have hG := body_ok hT (hc w hgood) hgr (hdr w hgood) hF h0 R' (top _ rfl) hn
    refine NextOk.mono hG ?_
    rintro v' w' ⟨Δ, D, hvr, A⟩
    have hq := frz_rel A.rel 30 v v2 v' hv2 hvr
    have hq' : VRel { mu := Γ.mu, fz := (Δ.frozen h' w').fz } v2 v' := by
      have hle : (Δ.frozen h' w').Le { mu := Γ.mu, fz := (Δ.frozen h' w').fz } := ⟨fun _ _ _ q => (by cases q), fun _ _ q => q⟩
      exact hq.mono hle
    refine ⟨{ mu := Γ.mu, fz := (Δ.frozen h' w').fz }, [], hq', Adv.over R A.rel.ext rfl ⟨fun _ _ _ q => q, fun b A' q => ?_⟩ (fun b A' q => ?_) fun b A' q => (frozen_fz A.rel q).2⟩
    · exact (frozen_le Δ h' w').fz b A' (A.le.fz b A' q)
    · rcases (frozen_fz A.rel q).1 with h1 | ⟨id, cells, g, o, fz, sz, e, st, c, h1, h2, rfl⟩
      · exact A.fzn b A' h1
      · exact .inr (A.rel.base id _ c h1 h2)
  · have hpl : plainV 30 v2 = true := by
      simp only [Bool.or_eq_true] at hp
      exact hp.resolve_left hfree
    have hn : LRel (Γ.frozen h w) args2 args'.toList := frzL_rel (fun v v2 v' => frz_rel R 30 v v2 v') ha2 ha
    have R' : Rel w C.tab (Γ.frozen h w) .nil w := rel_nil (fun b A q => (frozen_fz R q).2) fun g cells hg => by
      obtain ⟨A, h1, h2⟩ := R.glob g cells hg
      exact ⟨A, (frozen_le Γ h w).fz g A h1, h2.mono (frozen_le Γ h w)⟩
    have hG := body_ok hT (hc w hgood) hgr (hdr w hgood) hF h0 R' (top _ rfl) hn
    refine NextOk.mono hG ?_
    rintro v' w' ⟨Δ, D, hvr, A⟩
    have hq := frz_rel A.rel 30 v v2 v' hv2 hvr
    refine ⟨Γ, [], plain_rel 30 v2 v' hpl hq, Adv.over R A.rel.ext rfl (.refl _) (fun b A' q => .inl q) fun b A' q => ?_⟩
    obtain ⟨e, fr, h1⟩ := R.fz b A' q
    exact ⟨e, fr, by rw [A.rel.ext.block b (Array.getElem?_eq_some_iff.1 h1).1]; exact h1⟩

/-- What is asked of a configuration: its tables are the program's; its summaries are true; regions that draw are met. -/
structure ConfOk (C : Conf) (P : Program) (Good : World → Prop) : Prop where
  tab : TabOk P C.tab
  keep : ∀ w w', Good w → Below w.heap.size w w' → Good w'
  sum : ∀ w0, Good w0 → ∀ f args v, C.sum f args = some v → ∀ (Γ : Ctx) (h : Heap) (w : World) (args' : Array Value), Rel w0 C.tab Γ h w → LRel Γ args args'.toList → Gives P w0 C.tab Γ h w (callFunc f args') v h
  draw : ∀ w0, Good w0 → ∀ call, CallOk C P w0 call → Grows call → DrawOk C P w0 call

theorem call_ok {Good : World → Prop} (H : ConfOk C P Good) : ∀ (n : Nat) (w0 : World), Good w0 → CallOk C P w0 (callV C n)
  | 0, w0, hg => ⟨fun f args h v h' q => by simp [callV] at q, fun l args h v h' q => by simp [callV] at q⟩
  | n + 1, w0, hg => by
    have hc := fun w0 hg => call_ok H n w0 hg
    refine ⟨fun f args h v h' q Γ w args' R ha ht => ?_, fun l args h v h' q Γ w args' lw r R hm ha ht => ?_⟩
    · simp only [callV] at q
      split at q
      · rename_i v1 hs
        simp only [Option.some.injEq, Prod.mk.injEq] at q
        obtain ⟨rfl, rfl⟩ := q
        exact H.sum w0 hg f args v1 hs Γ h w args' R ha
      · split at q
        · cases q
        · rename_i F hF
          cases hal : C.alone f with
          | true =>
            rw [hal, cond_true] at q
            split at q
            · cases q
            · rename_i args2 ha2
              split at q
              · cases q
              · rename_i v1 h1 hb
                split at q
                · rename_i v2 hv2
                  obtain ⟨hp, q⟩ := bif_some q
                  simp only [Option.some.injEq, Prod.mk.injEq] at q
                  obtain ⟨rfl, rfl⟩ := q
                  exact alone_ok (Good := Good) (H.keep w0 w hg R.ext) H.tab hc (call_next n) (fun w0 hg => H.draw w0 hg _ (hc w0 hg) (call_next n)) hF ha2 hb hv2 hp R ha
                · cases q
          | false =>
            rw [hal, cond_false] at q
            exact body_ok H.tab (hc w0 hg) (call_next n) (H.draw w0 hg _ (hc w0 hg) (call_next n)) hF q R ht ha
    · simp only [callV] at q
      exact round_ok H.tab (hc w0 hg) (call_next n) (H.draw w0 hg _ (hc w0 hg) (call_next n)) q R ht hm ha
end
end Go.B
end
