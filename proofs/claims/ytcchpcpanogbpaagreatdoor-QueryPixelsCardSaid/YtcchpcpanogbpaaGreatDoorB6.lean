/- A part of the proof that scrim/scrimlaw21.QueryPixels returns true at every input. -/
import Derived.Test.YtcchpcpanogbpaaGreatDoorB5
import Derived.Lib.UnsafeStr
import Derived.Lib.Bytealg
set_option linter.unusedSimpArgs false
set_option linter.unusedVariables false
section
/- What an operation does in B it does in the model: all that call nothing. -/
namespace Go.B
open Go Go.RowKit

section
variable {P : Program} {w0 : World} {T : Tab} {Γ : Ctx} {h : Heap} {w : World}

/-- What an operation comes to. -/
def Comes (P : Program) (w0 : World) (T : Tab) (Γ : Ctx) (h : Heap) (w : World) (s : Sem Next) (v : Val) (h' : Heap) : Prop :=
  ∃ Δ v' w' D, (s.run P w = .ok (.value v') w' ∨ (s.run P w = .ok .skip w' ∧ v' = undef)) ∧ VRel Δ v v' ∧ Adv w0 T Γ h w Δ h' w' D

theorem Comes.of_run (R : Rel w0 T Γ h w) {s : Sem Value} {v : Val} (hr : ∃ v', s.run P w = .ok v' w ∧ VRel Γ v v') : Comes P w0 T Γ h w (do pure (.value (← s))) v h := by
  obtain ⟨v', h1, h2⟩ := hr
  exact ⟨Γ, v', w, [], .inl (by simp [h1]), h2, .refl R⟩

theorem Comes.of_pure (R : Rel w0 T Γ h w) {v : Val} {v' : Value} (hv : VRel Γ v v') : Comes P w0 T Γ h w (pure (.value v')) v h :=
  ⟨Γ, v', w, [], .inl (by simp), hv, .refl R⟩

theorem Comes.of_sound {s : Sem Value} {v : Val} {h' : Heap} (hr : ∃ Δ v' w' D, s.run P w = .ok v' w' ∧ VRel Δ v v' ∧ Adv w0 T Γ h w Δ h' w' D) : Comes P w0 T Γ h w (do pure (.value (← s))) v h' := by
  obtain ⟨Δ, v', w', D, h1, h2, h3⟩ := hr
  exact ⟨Δ, v', w', D, .inl (by simp [h1]), h2, h3⟩

theorem Comes.of_unit {s : Sem Unit} {h' : Heap} (hr : ∃ Δ w' D, s.run P w = .ok () w' ∧ Adv w0 T Γ h w Δ h' w' D) : Comes P w0 T Γ h w (do s; pure .skip) (.tup []) h' := by
  obtain ⟨Δ, w', D, h1, h3⟩ := hr
  exact ⟨Δ, undef, w', D, .inr ⟨by simp [h1], rfl⟩, VRel.tup_iff.2 ⟨_, rfl, .nil⟩, h3⟩

theorem opt_some {α : Type} {x : Option Val} {f : Val → Val × α} {v : Val} {r : α} (h : (match x with | some v => some (f v) | none => none) = some (v, r)) : ∃ y, x = some y ∧ f y = (v, r) := by
  cases x with
  | none => cases h
  | some y => exact ⟨y, rfl, by simpa using h⟩

theorem makeMap_sound (R : Rel w0 T Γ h w) {t : TypeId} (hf : Fresh Γ h.next (h.next + 1)) :
    ∃ Δ v' w' D, (Instr.makeMap t none).run P w = .ok v' w' ∧ VRel Δ (.mp h.next) v' ∧ Adv w0 T Γ h w Δ (h.new (.map [] 0)) w' D := by
  refine ⟨_, .map (some w.heap.size), w.alloc (.map #[] 0), _, by simp [Instr.makeMap, World.alloc_eq], .mp (r := 0) (Ctx.add_same _ _ _ _), Adv.alloc R hf (.map [] 0) 0 _ rfl rfl rfl rfl fun Δ _ => ?_⟩
  exact ⟨#[], heap_alloc_new w _, .nil⟩

theorem range_sound (hT : TabOk P T) (R : Rel w0 T Γ h w) {t : TypeId} (ht : T.under t = some .string) {s : List UInt8} {x' : Value} (hx : VRel Γ (.str s) x') (hf : Fresh Γ h.next (h.next + 1)) :
    ∃ Δ v' w' D, (Instr.range t x').run P w = .ok v' w' ∧ VRel Δ (.ptr h.next 0 0) v' ∧ Adv w0 T Γ h w Δ (h.new (.iter s 0)) w' D := by
  cases hx
  refine ⟨_, .pointer (some ⟨w.heap.size, 0, none⟩), w.alloc (.stringIter ⟨s.toArray⟩ 0), _, by simp [Instr.range, run_under hT ht, World.alloc_eq], .ptr (r := 0) (Ctx.add_same _ _ _ _), Adv.alloc R hf (.iter s 0) 0 _ rfl rfl rfl rfl fun Δ _ => ?_⟩
  exact heap_alloc_new w _

theorem next_sound (R : Rel w0 T Γ h w) {id g : Nat} {i' : Value} (hi : VRel Γ (.ptr id g 0) i') {s : List UInt8} {pos : Nat} (hg : h.get id = some (.iter s pos)) (hg0 : g = 0) {ty : TypeId} {v : Val} {h' : Heap}
    (hv : (match s[pos]? with
        | some b => bif Nat.blt b.toNat 128 then some (Val.tup [.bool true, .int .i64 pos, .int .i32 b.toNat], h.put id (.iter s (pos + 1))) else none
        | none => some (.tup [.bool false], h)) = some (v, h')) :
    ∃ Δ v' w' D, (Instr.next i' true ty).run P w = .ok v' w' ∧ VRel Δ v v' ∧ Adv w0 T Γ h w Δ h' w' D := by
  subst hg0
  cases hi with
  | @ptr _ _ _ _ b r hm =>
    have hb : w.heap[b]? = some (.stringIter ⟨s.toArray⟩ pos) := R.blk _ _ _ hg hm
    have hlt : b < w.heap.size := R.lt hg hm
    split at hv
    · rename_i c hc
      obtain ⟨hb1, hv⟩ := bif_some hv
      simp only [Option.some.injEq, Prod.mk.injEq] at hv
      obtain ⟨rfl, rfl⟩ := hv
      rw [Nat.blt_eq] at hb1
      have hp : pos < s.length := (List.getElem?_eq_some_iff.1 hc).1
      have hp' : pos < (⟨s.toArray⟩ : ByteArray).size := by show pos < s.toArray.size; simpa using hp
      have hget : (⟨s.toArray⟩ : ByteArray).get! pos = c := by
        show s.toArray[pos]! = c
        rw [getElem!_def]; simp [hc]
      have hdec : Utf8.decode ⟨s.toArray⟩ pos = (c.toNat, 1) := by
        simp only [Utf8.decode, Nat.add_zero, hget]
        rw [if_pos (by omega)]
      refine ⟨Γ, .tuple #[.bool true, goInt pos, .int .i32 c.toNat], _, _, ?_, ?_, Adv.put (b' := .iter s (pos + 1)) (h' := h.put id (.iter s (pos + 1))) (w' := { w with heap := w.heap.setIfInBounds b (.stringIter ⟨s.toArray⟩ (pos + 1)) }) R hg hm rfl
        (fun j hj => put_heap w b _ j hj) (by simp) rfl rfl rfl ?_ (d := (id, none)) rfl rfl (fun i => by rw [get_put, hg]; rfl) rfl⟩
      · simp [Instr.next, run_getObj_of hb, run_setObj_of _ hb, hdec, hp']
      · exact VRel.tup_iff.2 ⟨_, rfl, .cons (.bool _) (.cons (.int _ _) (.cons (.int _ _) .nil))⟩
      · simp [BlkRel, hlt]
    · rename_i hc
      simp only [Option.some.injEq, Prod.mk.injEq] at hv
      obtain ⟨rfl, rfl⟩ := hv
      have hp : ¬ pos < s.length := by
        intro hp
        rw [List.getElem?_eq_getElem hp] at hc; cases hc
      have hp' : ¬ pos < (⟨s.toArray⟩ : ByteArray).size := by show ¬ pos < s.toArray.size; simpa using hp
      refine ⟨Γ, .tuple #[.bool false], w, [], ?_, VRel.tup_iff.2 ⟨_, rfl, .cons (.bool _) .nil⟩, .refl R⟩
      simp [Instr.next, run_getObj_of hb, hp']

theorem nilAhead_run (hT : TabOk P T) {t : TypeId} {name : String} (h : ownMethod T t name = true) (v : Value) (k : Nat) (w : World) : (nilAhead (k + 1) t v name).run P w = .ok (some false) w := by
  unfold ownMethod at h
  split at h
  · rename_i i hi
    split at h
    · rename_i m hm
      split at h
      · rename_i f h1 h2
        unfold nilAhead
        simp [run_info hT hi, hm, h1, h2, followBlind]
      · cases h
    · cases h
  · cases h

theorem step_sound (C : Conf) (hT : TabOk P C.tab) (R : Rel w0 C.tab Γ h w) {env : Env} {a : Act} (he : ERel Γ env a.tmps) {o : Oper} {v : Val} {h' : Heap} (hs : stepV C env h o.op = some (v, h')) (hf : Fresh Γ h.next h'.next) :
    Comes P w0 C.tab Γ h w (execOp a.eval o) v h' := by
  unfold stepV at hs
  dsimp only at hs
  have pureC : ∀ {x : Option Val}, (match x with | some v => some (v, h) | none => none) = some (v, h') → x = some v ∧ h' = h := by
    intro x hx
    cases x with
    | none => cases hx
    | some y => simp only [Option.some.injEq, Prod.mk.injEq] at hx; exact ⟨by rw [hx.1], hx.2.symm⟩
  unfold execOp
  split at hs <;> rename_i ho <;> simp only [ho]
  · obtain ⟨h1, rfl⟩ := pureC hs
    exact .of_pure R (evalO_rel he h1)
  · obtain ⟨h1, rfl⟩ := pureC hs
    exact .of_pure R (evalO_rel he h1)
  · split at hs
    · rename_i c b1 b2 _ c' hc
      obtain ⟨h1, rfl⟩ := pureC hs
      have hc := evalO_rel he hc
      generalize hq : a.eval c = cv at hc
      cases hc
      refine ⟨Γ, if c' then a.eval b1 else a.eval b2, w, [], .inl (by simp [asBool]), ?_, .refl R⟩
      cases c' with
      | true => exact evalO_rel he h1
      | false => exact evalO_rel he h1
    · cases hs
  · split at hs
    · rename_i e z n hz hn
      obtain ⟨hb, hs⟩ := bif_some hs
      injection hs with hs
      simp only [Prod.mk.injEq, newRow] at hs
      obtain ⟨rfl, rfl⟩ := hs
      obtain ⟨Δ, v', w', D, h1, h2, h3⟩ := alloc_sound (a := a) hT R ho hz hf
      refine ⟨Δ, v', w', D, ?_, h2, h3⟩
      simpa [Does, execOp, ho] using h1
    · cases hs
  · split at hs
    · rename_i e x v0 n hv hn
      obtain ⟨hb, hs⟩ := bif_some hs
      simp only [Bool.and_eq_true] at hb
      injection hs with hs
      simp only [Prod.mk.injEq, newRow] at hs
      obtain ⟨rfl, rfl⟩ := hs
      obtain ⟨Δ, v', w', D, h1, h2, h3⟩ := box_sound (P := P) (a := a) (n := n) R ho (evalO_rel he hv) (alive_of_cells hb.2) hf
      refine ⟨Δ, v', w', D, ?_, h2, h3⟩
      simpa [Does, execOp, ho] using h1
    · cases hs
  · split at hs
    · rename_i t ps vs hv
      obtain ⟨h1, rfl⟩ := pureC hs
      refine .of_run R (build_run hT w (ps := vs) ?_ h1)
      simpa using evalP_rel he hv
    · cases hs
  · split at hs
    · rename_i t n ps vs hv
      refine .of_sound (buildSlice_sound hT R (ps := vs) ?_ hs hf)
      simpa using evalP_rel he hv
    · cases hs
  · split at hs
    · rename_i t x p hp
      obtain ⟨h1, rfl⟩ := pureC hs
      obtain ⟨ad, v', e1, e2, e3⟩ := load_run hT R (evalO_rel he hp) h1
      exact .of_run R ⟨v', by rw [e1]; simpa [Instr.loadAt, Instr.sureAddr] using e2, e3⟩
    · cases hs
  · split at hs
    · rename_i t x y p v0 hp hv
      split at hs
      · rename_i h1 hst
        simp only [Option.some.injEq, Prod.mk.injEq] at hs
        obtain ⟨rfl, rfl⟩ := hs
        obtain ⟨ad, w', id, off, e1, e2, e3⟩ := store_run hT R (evalO_rel he hp) (evalO_rel he hv) hst
        exact .of_unit ⟨Γ, w', _, by rw [e1]; simpa [Instr.storeAt, Instr.sureAddr] using e2, e3⟩
      · cases hs
    · cases hs
  · -- nilCheck
    split at hs
    all_goals first
      | (rename_i hx
         simp only [Option.some.injEq, Prod.mk.injEq] at hs
         obtain ⟨rfl, rfl⟩ := hs
         have hx := evalO_rel he hx
         refine ⟨Γ, _, w, [], .inl ?_, hx, .refl R⟩
         generalize a.eval _ = x' at hx
         cases hx <;> simp)
      | (cases hs; done)
      | skip
    rename_i hx
    obtain ⟨hb, hs⟩ := bif_some hs
    simp only [Option.some.injEq, Prod.mk.injEq] at hs
    obtain ⟨rfl, rfl⟩ := hs
    have hx := evalO_rel he hx
    refine ⟨Γ, _, w, [], .inl ?_, hx, .refl R⟩
    generalize a.eval _ = x' at hx
    cases hx with
    | mth hx =>
      cases hx with
      | ifc hx =>
        have hk : ∀ m, m + Made.depth = (m + (Made.depth - 1)) + 1 := fun m => by
          have : Made.depth = (Made.depth - 1) + 1 := rfl
          omega
        simp [hk, nilAhead_run hT hb]
  · split at hs
    · rename_i op t x y c x1 y1 hx hy
      obtain ⟨h1, rfl⟩ := pureC hs
      exact .of_run R (bin_run hT w (evalO_rel he hx) (evalO_rel he hy) h1)
    · cases hs
  · split at hs
    · rename_i op t x x1 hx
      obtain ⟨h1, rfl⟩ := pureC hs
      exact .of_run R (un_run w (evalO_rel he hx) h1)
    · cases hs
  · split at hs
    · rename_i s d x x1 hx
      exact .of_sound (conv_sound hT R (evalO_rel he hx) hs hf)
    · cases hs
  · split at hs
    · rename_i t x v0 hx
      split at hs
      · cases hs
      · rename_i d hn hu
        simp only [Option.some.injEq, Prod.mk.injEq] at hs
        obtain ⟨rfl, rfl⟩ := hs
        refine .of_run R ⟨.iface _ (a.eval _), ?_, .ifc (evalO_rel he hx)⟩
        simp only [Instr.makeInterface, Sem.run_bind, run_under hT hu, Result.andThen_ok]
        cases d <;> first | exact absurd hu (hn _) | simp
      · cases hs
    · cases hs
  · split at hs
    · rename_i fst cap _ _ _ f' fs cs hfs hcs
      simp only [Option.some.injEq, Prod.mk.injEq] at hs
      obtain ⟨rfl, rfl⟩ := hs
      refine .of_run R ⟨.func (.func f') (Array.map a.eval fst) (Array.map a.eval cap), by simp only [Instr.makeFunc, Sem.run_pure], VRel.fn_iff.2 ⟨_, _, rfl, ?_, ?_⟩⟩
      · simpa using evalL_rel he hfs
      · simpa using evalL_rel he hcs
    · rename_i f fst cap n r hfs hcs
      simp only [Option.some.injEq, Prod.mk.injEq] at hs
      obtain ⟨rfl, rfl⟩ := hs
      have h1 := evalL_rel he hfs
      have h2 := evalL_rel he hcs
      obtain ⟨r', l', e1, e2, e3⟩ := F2.cons_left h1
      have e3 := F2.nil_left e3
      have h2 := F2.nil_left h2
      subst e3
      refine .of_run R ⟨.func (.method n) #[r'] #[], ?_, .mth e2⟩
      have g1 : ∀ {as : Array Operand} {l : List Value}, as.toList.map a.eval = l → as.map a.eval = l.toArray := fun {as l} h => by rw [← Array.toList_inj]; simpa using h
      simp [Instr.makeFunc, g1 e1, g1 h2]
    · cases hs
  · simp only [Option.some.injEq, Prod.mk.injEq] at hs
    obtain ⟨rfl, rfl⟩ := hs
    exact .of_sound (makeMap_sound R hf)
  · split at hs
    · rename_i t l c l1 c1 hl hc
      exact .of_sound (makeSlice_sound hT R (evalO_rel he hl) (evalO_rel he hc) hs hf)
    · cases hs
  · split at hs
    · rename_i t x lo hi mx x1 lo1 hi1 mx1 hx hlo hhi hmx
      obtain ⟨h1, rfl⟩ := pureC hs
      exact .of_run R (slice_run hT w (evalO_rel he hx) (evalM_rel he hlo) (evalM_rel he hhi) (evalM_rel he hmx) h1)
    · cases hs
  · split at hs
    · rename_i t x f fl p hfl hp
      split at hs
      · rename_i n hn
        obtain ⟨h1, rfl⟩ := pureC hs
        exact .of_run R (fieldAddr_run hT w hfl hn (evalO_rel he hp) h1)
      · cases hs
    · cases hs
  · split at hs
    · rename_i t x f fl cs hfl hp
      obtain ⟨h1, rfl⟩ := pureC hs
      exact .of_run R (field_run hT w hfl (evalO_rel he hp) h1)
    · cases hs
  · split at hs
    · rename_i t x i x1 i1 hx hi
      obtain ⟨h1, rfl⟩ := pureC hs
      exact .of_run R (indexAddr_run hT w (evalO_rel he hx) (evalO_rel he hi) h1)
    · cases hs
  · split at hs
    · rename_i t x i x1 i1 hx hi
      obtain ⟨h1, rfl⟩ := pureC hs
      exact .of_run R (index_run hT w (evalO_rel he hx) (evalO_rel he hi) h1)
    · cases hs
  · split at hs
    · rename_i t x i ok x1 i1 hx hi
      obtain ⟨h1, rfl⟩ := pureC hs
      exact .of_run R (lookup_run hT R (evalO_rel he hx) (evalO_rel he hi) h1)
    · cases hs
  · split at hs
    · rename_i t m k x m1 k1 v1 hm hk hv
      split at hs
      · rename_i h1 hu
        simp only [Option.some.injEq, Prod.mk.injEq] at hs
        obtain ⟨rfl, rfl⟩ := hs
        obtain ⟨w', D, e1, e2⟩ := update_run hT R (evalO_rel he hm) (evalO_rel he hk) (evalO_rel he hv) hu
        exact .of_unit ⟨Γ, w', D, e1, e2⟩
      · cases hs
    · cases hs
  · split at hs
    · rename_i t m k x m1 k1 v1 hm hk hv
      split at hs
      · rename_i h1 hu
        simp only [Option.some.injEq, Prod.mk.injEq] at hs
        obtain ⟨rfl, rfl⟩ := hs
        obtain ⟨w', D, e1, e2⟩ := update_run hT R (evalO_rel he hm) (evalO_rel he hk) (evalO_rel he hv) hu
        exact .of_unit ⟨Γ, w', D, e1, e2⟩
      · cases hs
    · cases hs
  · split at hs
    · rename_i x xt t ok x1 hx
      obtain ⟨h1, rfl⟩ := pureC hs
      exact .of_run R (assert_run hT (evalO_rel he hx) h1 w)
    · cases hs
  · split at hs
    · rename_i t x s ht hx
      simp only [Option.some.injEq, Prod.mk.injEq] at hs
      obtain ⟨rfl, rfl⟩ := hs
      exact .of_sound (range_sound hT R ht (evalO_rel he hx) hf)
    · cases hs
  · split at hs
    · rename_i i id hi
      split at hs
      · rename_i s pos hg
        exact .of_sound (next_sound R (evalO_rel he hi) hg rfl hs)
      · cases hs
    · cases hs
  · split at hs
    · rename_i t i _ vs ht
      obtain ⟨h1, rfl⟩ := pureC hs
      obtain ⟨ar, e1, e2⟩ := VRel.tup_iff.1 (evalO_rel he ht)
      obtain ⟨v', e3, e4⟩ := e2.get i v h1
      rw [e1]
      refine .of_run R ⟨v', ?_, e4⟩
      have e3 : ar[i]? = some v' := by simpa using e3
      simp [Instr.extract, e3]
    · cases hs
  · cases hs
end
end Go.B
end
section
/- What a builtin does in B it does in the model. -/
namespace Go.B
open Go Go.RowKit

section
variable {P : Program} {w0 : World} {T : Tab} {Γ : Ctx} {h : Heap} {w : World}

theorem run_loadBytes_ints : ∀ (xs : List Int) (a : Addr) (acc : ByteArray), (∀ (j : Nat) (x : Int), xs[j]? = some x → w.cell? (a.add j) = some (.int .u8 x)) →
    (loadBytes a acc xs.length).run P w = .ok ⟨acc.data ++ (xs.map fun n => UInt8.ofNat n.toNat).toArray⟩ w
  | [], a, acc, _ => by simp [loadBytes]
  | x :: l, a, acc, h => by
    have h0 : w.cell? a = some (.int .u8 x) := by
      have := h 0 x rfl
      simpa [Addr.add] using this
    have ih := run_loadBytes_ints l (a.add 1) (acc.push x.toNat.toUInt8) (fun j y hy => by
      have := h (j + 1) y (by simpa using hy)
      have e : (a.add 1).add j = a.add (j + 1) := by
        unfold Addr.add
        by_cases hj : j = 0
        · subst hj; simp
        · simp [hj]; omega
      rw [e]; exact this)
    simp only [List.length_cons, loadBytes, Sem.run_bind]
    have hl : (load a).run P w = .ok (.int .u8 x) w := by simp [load, Sem.run, h0]
    rw [hl, Result.andThen_ok]
    simp only [ih]
    congr 2
    simp

theorem freeze_heap (w : World) (b n : Nat) (hn : n ≠ 0) {C : Array Value} {e : TypeId} {lo hi : Nat} (h : w.heap[b]? = some (.cells C e (lo, hi))) :
    (w.freeze ⟨b, 0, none⟩ n).heap[b]? = some (.cells C e (if lo == hi then (0, n) else (0, max hi n))) := by
  have hb := (Array.getElem?_eq_some_iff.1 h).1
  unfold World.freeze
  rw [if_neg hn]
  simp only [Array.getElem?_modify, h, if_true, Option.map_some]
  simp

theorem freeze_other (w : World) (b n k : Nat) (hk : k ≠ b) : (w.freeze ⟨b, 0, none⟩ n).heap[k]? = w.heap[k]? := by
  unfold World.freeze
  split
  · rfl
  · simp only [Array.getElem?_modify, if_neg (fun e => hk (Eq.symm e))]

theorem freeze_size (w : World) (a : Addr) (n : Nat) : (w.freeze a n).heap.size = w.heap.size := by
  unfold World.freeze
  split
  · rfl
  · simp

theorem run_unsafeString_ints (pt it ty e : TypeId) (hp : P.underlying pt = some (.pointer e)) (hc : P.cellsOf e = 1) (g cells : Nat) (hsh : w.shape? g = some (e, cells)) (l : List Int) (k : IntKind) (h0 : l.length ≠ 0) (hn : l.length ≤ cells) (h63 : l.length ≤ 9223372036854775807)
    (hcell : ∀ (j : Nat) (x : Int), l[j]? = some x → w.cell? ((⟨g, 0, none⟩ : Addr).add j) = some (.int .u8 x)) :
    (Builtin.unsafeString_ #[pt, it] ty #[.pointer (some ⟨g, 0, none⟩), .int k l.length]).run P w = .ok (.string ⟨(l.map fun n => UInt8.ofNat n.toNat).toArray⟩) (w.freeze ⟨g, 0, none⟩ l.length) := by
  have hlb := run_loadBytes_ints (P := P) l ⟨g, 0, none⟩ .empty hcell
  have hlies := Lib.liesAt_bytes (P := P) hc (cells / P.cellsOf e) l.length (by rw [hc]; simpa using hn)
  have h63' : ¬ (9223372036854775807 : Int) < (l.length : Int) := by omega
  have hdef : Builtin.unsafeString_ #[pt, it] ty #[.pointer (some ⟨g, 0, none⟩), .int k l.length] =
      (do
        let n ← asInt (.int k l.length)
        if n < 0 then runtimePanic (.error "unsafe.String: len out of range")
        if n > IntKind.i64.max then unsupported (.unsafePointer "String: a length above the largest int")
        if n = 0 then pure (.string .empty)
        else if ← variablesAt ⟨g, 0, none⟩ (← elemOf pt) n.toNat then do
          let s ← loadBytes ⟨g, 0, none⟩ .empty n.toNat
          freeze ⟨g, 0, none⟩ n.toNat
          pure (.string s)
        else unsupported (.unsafePointer "String: not so many bytes at ptr")) := rfl
  rw [hdef]
  have hmax : IntKind.i64.max = 9223372036854775807 := rfl
  have hneg : ¬ (l.length : Int) < 0 := by omega
  have hl : l ≠ [] := by intro e; rw [e] at h0; exact h0 rfl
  simp [asInt, asIntOf, hmax, h63', hneg, hl, variablesAt, hsh, elemOf, run_underlying hp, hlies, hlb]

theorem length_run (hT : TabOk P T) (R : Rel w0 T Γ h w) {argTypes : Array TypeId} {ty : TypeId} {x : Val} {x' : Value} (hx : VRel Γ x x') {n : Nat} (hn : lengthV T h argTypes x = some n) :
    (Builtin.len_ argTypes ty #[x']).run P w = .ok (goInt n) w := by
  unfold lengthV at hn
  cases h0 : argTypes[0]? with
  | none => rw [h0] at hn; simp at hn
  | some t =>
    rw [h0] at hn
    simp only [Option.bind_some] at hn
    unfold Builtin.len_
    split at hn
    · rename_i n' e hu
      injection hn with hn; subst hn
      simp [h0, run_under hT hu]
    · cases hn
    · rename_i e hu hns
      unfold lenV at hn
      cases hx <;> simp only [Option.some.injEq, reduceCtorEq] at hn <;> first
        | (subst hn; simp [h0, run_under hT hu]; done)
        | (exact absurd rfl (hns _))
    · rename_i s hu
      injection hn with hn; subst hn
      cases hx
      have hs : (⟨s.toArray⟩ : ByteArray).size = s.length := by show s.toArray.size = _; simp
      simp [h0, run_under hT hu, hs]
    · rename_i kt et hu
      simp only [Option.map_eq_some_iff] at hn
      obtain ⟨es, he, rfl⟩ := hn
      obtain ⟨es', h1, h2⟩ := entries_run R hx he
      have hl := h1.length
      rcases h2 with ⟨rfl, rfl⟩ | ⟨r, clock, rfl, hw⟩
      · simp at hl
        simp [h0, run_under hT hu, hl]
      · simp at hl
        simp [h0, run_under hT hu, run_getObj_of hw, hl]
    · rename_i a hu
      split at hn
      · rename_i n' e hu'
        injection hn with hn; subst hn
        simp [h0, run_under hT hu, run_under hT hu']
      · cases hn
    · cases hn

theorem capacity_run (hT : TabOk P T) {argTypes : Array TypeId} {ty : TypeId} {x : Val} {x' : Value} (hx : VRel Γ x x') {n : Nat} (hn : capacityV T argTypes x = some n) (w : World) :
    (Builtin.cap_ argTypes ty #[x']).run P w = .ok (goInt n) w := by
  unfold capacityV at hn
  cases h0 : argTypes[0]? with
  | none => rw [h0] at hn; simp at hn
  | some t =>
    rw [h0] at hn
    simp only [Option.bind_some] at hn
    unfold Builtin.cap_
    split at hn
    · rename_i e hu
      injection hn with hn; subst hn
      cases hx
      simp [h0, run_under hT hu]
    · rename_i e id g off len c hu
      injection hn with hn; subst hn
      cases hx with
      | sl hm hk => obtain ⟨hk, _⟩ := hk; subst hk; simp [h0, run_under hT hu]
    · rename_i e cs off len c hu
      injection hn with hn; subst hn
      cases hx with
      | fsl f hm hk hc hv => obtain ⟨hk, _⟩ := hk; subst hk; simp [h0, run_under hT hu]
    · cases hn

theorem min2_rel {x y z : Val} {x' y' : Value} (hx : VRel Γ x x') (hy : VRel Γ y y') (h : minV x y = some z) (w : World) : ∃ z', (Builtin.min2 x' y').run P w = .ok z' w ∧ VRel Γ z z' := by
  unfold minV at h
  split at h
  · injection h with h; subst h
    cases hx; cases hy
    exact ⟨_, by simp [Builtin.min2], .int _ _⟩
  · cases h

theorem max2_rel {x y z : Val} {x' y' : Value} (hx : VRel Γ x x') (hy : VRel Γ y y') (h : maxV x y = some z) (w : World) : ∃ z', (Builtin.max2 x' y').run P w = .ok z' w ∧ VRel Γ z z' := by
  unfold maxV at h
  split at h
  · injection h with h; subst h
    cases hx; cases hy
    exact ⟨_, by simp [Builtin.max2], .int _ _⟩
  · cases h

theorem fold_run {f : Val → Val → Option Val} {g : Value → Value → Sem Value} (w : World) (hfg : ∀ {x y z : Val} {x' y' : Value}, VRel Γ x x' → VRel Γ y y' → f x y = some z → ∃ z', (g x' y').run P w = .ok z' w ∧ VRel Γ z z') :
    ∀ {l : List Val} {l' : List Value} {x v : Val} {x' : Value}, LRel Γ l l' → VRel Γ x x' → foldV f x l = some v → ∃ v', (l'.foldlM g x').run P w = .ok v' w ∧ VRel Γ v v'
  | [], _, x, v, x', .nil, hx, h => by
    simp only [foldV, Option.some.injEq] at h; subst h
    exact ⟨x', by simp, hx⟩
  | y :: l, _, x, v, x', .cons hy t, hx, h => by
    simp only [foldV] at h
    split at h
    · rename_i z hz
      obtain ⟨z', h1, h2⟩ := hfg hx hy hz
      obtain ⟨v', h3, h4⟩ := fold_run w hfg t h2 h
      exact ⟨v', by simp [h1, h3], h4⟩
    · cases h

theorem unsafeString_sound (hT : TabOk P T) (R : Rel w0 T Γ h w) {argTypes : Array TypeId} {ty : TypeId} {p : Val} {p' : Value} (hp : VRel Γ p p') {n : Nat} {k : IntKind} {v : Val} {h' : Heap} (hv : unsafeStringV T h argTypes p n = some (v, h')) :
    ∃ Δ v' w' D, (Builtin.unsafeString_ argTypes ty #[p', .int k n]).run P w = .ok v' w' ∧ VRel Δ v v' ∧ Adv w0 T Γ h w Δ h' w' D := by
  unfold unsafeStringV at hv
  split at hv
  · rename_i pt it ha
    have ha : argTypes = #[pt, it] := by rw [← Array.toList_inj, ha]
    subst ha
    have hnil : ∀ q : Option Addr, (Builtin.unsafeString_ #[pt, it] ty #[.pointer q, .int k 0]).run P w = .ok (.string .empty) w := by
      intro q
      cases q with
      | none => rfl
      | some a => rfl
    split at hv
    · simp only [Option.some.injEq, Prod.mk.injEq] at hv
      obtain ⟨rfl, rfl⟩ := hv
      cases hp
      exact ⟨Γ, _, w, [], hnil _, .str [], .refl R⟩
    · simp only [Option.some.injEq, Prod.mk.injEq] at hv
      obtain ⟨rfl, rfl⟩ := hv
      cases hp
      exact ⟨Γ, _, w, [], hnil _, .str [], .refl R⟩
    · rename_i n id g
      split at hv
      · rename_i cells g' o fz sz e hg
        split at hv
        · rename_i e' cs hu hz hcut
          obtain ⟨hb, hq⟩ := bif_some hv
          clear hv
          simp only [Bool.and_eq_true] at hb
          obtain ⟨⟨hb1, hb2⟩, hb3⟩ := hb
          have hb1 := nat_beq_eq hb1
          have hb2 := nat_beq_eq hb2
          have hb3 := Nat.le_of_ble_eq_true hb3
          subst hb1; subst hb2
          cases hs : asBytes cs with
          | none => rw [hs] at hq; cases hq
          | some s =>
          rw [hs] at hq
          simp only [Option.map_some, Option.some.injEq, Prod.mk.injEq] at hq
          obtain ⟨rfl, rfl⟩ := hq
          cases hp with
          | @ptr _ _ _ _ b r hm =>
            obtain ⟨C, fr, hrow⟩ := R.blk id _ _ hg hm
            obtain ⟨hc1, hc2⟩ := cut_eq hcut
            have hcl : n + 1 ≤ cells.length := by rw [hc1] at hc2; simp at hc2; omega
            have hrel : LRel Γ cs (C.toList.take (n + 1)) := by
              have := hrow.rel.take (n + 1)
              rw [List.take_take, Nat.min_eq_left hcl] at this
              rw [hc1, List.drop_zero]
              exact this
            obtain ⟨ns, e1, e2⟩ := asBytes_rel hrel hs
            have hfits := hrow.fits
            have hnl : ns.length = n + 1 := by
              have := congrArg List.length e1
              simp at this
              omega
            have hheap : w.heap[b]? = some (.cells C e fr) := hrow.heap
            have hcell : ∀ (j : Nat) (x : Int), ns[j]? = some x → w.cell? ((⟨b, 0, none⟩ : Addr).add j) = some (.int .u8 x) := by
              intro j x hj
              rw [cell_at hheap, Nat.zero_add]
              have hjn : j < n + 1 := by rw [← hnl]; exact (List.getElem?_eq_some_iff.1 hj).1
              have := congrArg (fun l => l[j]?) e1
              simp only [List.getElem?_take, if_pos hjn, List.getElem?_map, hj, Option.map_some] at this
              simpa using this
            have hcs : P.cellsOf e = 1 := by
              simp only [sizeOf, Option.map_eq_some_iff] at hz
              obtain ⟨i, hi, hz⟩ := hz
              simp [Program.cellsOf, hT.info e i hi, hz]
            have hrun := run_unsafeString_ints (P := P) (w := w) pt it ty e (hT.under pt _ hu) hcs b C.size (by simp [World.shape?, hheap]) ns k (by omega) (by omega) (by omega) hcell
            rw [hnl] at hrun
            obtain ⟨lo, hi⟩ := fr
            have hnew := freeze_heap w b (n + 1) (by omega) hheap
            refine ⟨Γ, .string ⟨(ns.map fun n => UInt8.ofNat n.toNat).toArray⟩, _, _, ?_, ?_, Adv.put (b' := .row cells g o (max fz (n + 1)) sz e false) (h' := h.put id (.row cells g o (max fz (n + 1)) sz e false)) (w' := w.freeze ⟨b, 0, none⟩ (n + 1)) R hg hm rfl
              (fun j hj => freeze_other w b (n + 1) j hj) (freeze_size _ _ _) ?_ ?_ ?_ ?_ (d := (id, none)) rfl rfl (fun i => by rw [get_put, hg]; rfl) rfl⟩
            · simpa using hrun
            · rw [e2]; exact .str _
            · unfold World.freeze; split <;> rfl
            · unfold World.freeze; split <;> rfl
            · unfold World.freeze; split <;> rfl
            · refine ⟨C, _, { heap := hnew, fits := hrow.fits, shut := hrow.shut, opens := hrow.opens, rel := hrow.rel, free := ?_, head := ?_ }⟩
              · intro i h1 h2
                have h3 := hrow.head rfl
                simp only at h3
                have h4 := hrow.free i (by omega) h2
                split
                · simp; omega
                · rename_i hne
                  simp at hne
                  simp; omega
              · intro _
                right
                have h3 := hrow.head rfl
                simp only at h3
                split
                · simp; omega
                · rename_i hne
                  simp at hne
                  simp; omega
        · cases hv
      · cases hv
    · cases hv
  · cases hv

theorem args_one {x : Val} {a : Array Value} (h : LRel Γ [x] a.toList) : ∃ x', a = #[x'] ∧ VRel Γ x x' := by
  obtain ⟨x', l, h1, h2, h3⟩ := F2.cons_left h
  have h3 := F2.nil_left h3
  subst h3
  exact ⟨x', by rw [← Array.toList_inj, h1], h2⟩

theorem args_two {x y : Val} {a : Array Value} (h : LRel Γ [x, y] a.toList) : ∃ x' y', a = #[x', y'] ∧ VRel Γ x x' ∧ VRel Γ y y' := by
  obtain ⟨x', l, h1, h2, h3⟩ := F2.cons_left h
  obtain ⟨y', l', h4, h5, h6⟩ := F2.cons_left h3
  have h6 := F2.nil_left h6
  subst h6; subst h4
  exact ⟨x', y', by rw [← Array.toList_inj, h1], h2, h5⟩

theorem run_sliceData (ts : Array TypeId) (t : TypeId) (a : Addr) (n c : Nat) (hc : c ≠ 0) (w : World) : (Builtin.unsafeSliceData_ ts t #[.slice (some a) n c]).run P w = .ok (.pointer (some a)) w := by
  have : Builtin.unsafeSliceData_ ts t #[.slice (some a) n c] = (do
    if c ≠ 0 then pure (.pointer (some a))
    else if (← viewAt a.block).isSome then pure (.pointer (some a))
    else pure (.pointer (some ⟨← newObj (.view a (← elemOf t)), 0, none⟩))) := rfl
  rw [this, if_pos hc, Sem.run_pure]

theorem builtin_sound (C : Conf) (hT : TabOk P C.tab) (R : Rel w0 C.tab Γ h w) {b : Builtin} {argTypes : Array TypeId} {ty : TypeId} {consts : Array Bool} {args : List Val} {args' : Array Value} (ha : LRel Γ args args'.toList) {v : Val} {h' : Heap}
    (hv : builtinV C h b argTypes args = some (v, h')) (hf : Fresh Γ h.next h'.next) : Comes P w0 C.tab Γ h w (builtin b argTypes ty consts args') v h' := by
  unfold builtinV at hv
  dsimp only at hv
  unfold builtin
  split at hv
  · obtain ⟨s', x', rfl, h1, h2⟩ := args_two ha
    exact .of_sound (append_sound hT R h1 h2 hv hf)
  · obtain ⟨x', rfl, h1⟩ := args_one ha
    simp only [Option.map_eq_some_iff] at hv
    obtain ⟨n, hn, hv⟩ := hv
    simp only [Prod.mk.injEq] at hv
    obtain ⟨rfl, rfl⟩ := hv
    exact .of_run R ⟨_, length_run hT R h1 hn, .int _ _⟩
  · obtain ⟨x', rfl, h1⟩ := args_one ha
    simp only [Option.map_eq_some_iff] at hv
    obtain ⟨n, hn, hv⟩ := hv
    simp only [Prod.mk.injEq] at hv
    obtain ⟨rfl, rfl⟩ := hv
    exact .of_run R ⟨_, capacity_run hT h1 hn w, .int _ _⟩
  · obtain ⟨s', x', rfl, h1, h2⟩ := args_two ha
    obtain ⟨v', w', D, e1, e2, e3⟩ := copy_sound (ty := ty) hT R h1 h2 hv
    exact .of_sound ⟨Γ, v', w', D, e1, e2, e3⟩
  · obtain ⟨x', rfl, h1⟩ := args_one ha
    split at hv
    · simp only [Option.some.injEq, Prod.mk.injEq] at hv
      obtain ⟨rfl, rfl⟩ := hv
      cases h1
      exact .of_run R ⟨_, rfl, .nilp⟩
    · rename_i id g off n cap
      simp only [Option.some.injEq, Prod.mk.injEq] at hv
      obtain ⟨rfl, rfl⟩ := hv
      cases h1 with
      | @sl _ _ _ _ _ c b r _ hm hk =>
        have hc : c ≠ 0 := by
          cases cap with
          | exact m => obtain ⟨q1, q2⟩ := hk; omega
          | opn => obtain ⟨q1, q2, q3⟩ := hk; omega
          | unk => have : n + 1 ≤ c := hk; omega
        exact .of_run R ⟨.pointer (some ⟨b, off, none⟩), run_sliceData _ _ _ _ _ hc w, .ptr hm⟩
    · cases hv
  · obtain ⟨p', n', rfl, h1, h2⟩ := args_two ha
    cases h2
    exact .of_sound (unsafeString_sound hT R h1 hv)
  · rename_i x l
    obtain ⟨x', l', e1, h1, h2⟩ := F2.cons_left ha
    simp only [Option.map_eq_some_iff] at hv
    obtain ⟨z, hz, hv⟩ := hv
    simp only [Prod.mk.injEq] at hv
    obtain ⟨rfl, rfl⟩ := hv
    obtain ⟨v', h3, h4⟩ := fold_run w (fun a b c => min2_rel a b c w) h2 h1 hz
    exact .of_run R ⟨v', by unfold Builtin.min_; rw [e1]; exact h3, h4⟩
  · rename_i x l
    obtain ⟨x', l', e1, h1, h2⟩ := F2.cons_left ha
    simp only [Option.map_eq_some_iff] at hv
    obtain ⟨z, hz, hv⟩ := hv
    simp only [Prod.mk.injEq] at hv
    obtain ⟨rfl, rfl⟩ := hv
    obtain ⟨v', h3, h4⟩ := fold_run w (fun a b c => max2_rel a b c w) h2 h1 hz
    exact .of_run R ⟨v', by unfold Builtin.max_; rw [e1]; exact h3, h4⟩
  · cases hv
end
end Go.B
end
section
/- What a function without a Go body does in B it does in the model. -/
namespace Go.B
open Go Go.RowKit

section
variable {P : Program} {w0 : World} {T : Tab} {Γ : Ctx} {h : Heap} {w : World}

theorem findB_eq (c : UInt8) : ∀ (l : List UInt8) (i : Nat), findB c l i = if Lib.indexByte l c = -1 then -1 else Lib.indexByte l c + i
  | [], i => by simp [findB, Lib.indexByte]
  | b :: l, i => by
    simp only [findB, Lib.indexByte, findB_eq c l (i + 1)]
    by_cases hb : (b == c) = true
    · simp [hb]
    · have hb : (b == c) = false := by simpa using hb
      simp only [hb, cond_false, Bool.false_eq_true, if_false]
      have := Lib.indexByte_ge l c
      by_cases hm : Lib.indexByte l c = -1
      · simp [hm]
      · have h1 : (Lib.indexByte l c == -1) = false := by simpa using hm
        simp only [h1, Bool.false_eq_true, if_false, hm]
        rw [if_neg (by omega)]
        omega

theorem countB_eq (c : UInt8) : ∀ (l : List UInt8) (n : Nat), countB c l n = l.count c + n
  | [], n => by simp [countB]
  | b :: l, n => by
    simp only [countB, countB_eq c l]
    by_cases hb : (b == c) = true
    · have hb' : b = c := by simpa using hb
      subst hb'
      simp; omega
    · have hb : (b == c) = false := by simpa using hb
      have hb' : ¬ b = c := by simpa using hb
      simp [hb, hb']

theorem add_zero' (a : Addr) : a.add 0 = a := by unfold Addr.add; split <;> simp_all

theorem cell_of_read (R : Rel w0 T Γ h w) {p : Val} {p' : Value} (hp : VRel Γ p p') {v : Val} (hr : readCells T h p 1 = some [v]) :
    ∃ (a : Addr) (v' : Value), p' = .pointer (some a) ∧ w.cell? a = some v' ∧ VRel Γ v v' := by
  obtain ⟨a, vs, h1, h2, h3, h4⟩ := read_rel R hp hr
  obtain ⟨v', l, rfl, h5, h6⟩ := F2.cons_left h2
  have := h4 0 v' rfl
  rw [add_zero'] at this
  exact ⟨a, v', h1, this, h5⟩

theorem store_of_write (R : Rel w0 T Γ h w) {p : Val} {p' : Value} (hp : VRel Γ p p') {old : Val} (hr : readCells T h p 1 = some [old]) {v : Val} {v' : Value} (hv : VRel Γ v v') (hc : v.isCell = true) {h' : Heap} (hw : writeCells h p [v] = some h') :
    ∃ (a : Addr) (o : Value) (w' : World) (D : List (Nat × Option (Nat × Nat))), p' = .pointer (some a) ∧ w.cell? a = some o ∧ VRel Γ old o ∧ w.frozen? a = false ∧ (∀ m, (store a v' m).run P w = .ok () w') ∧ Adv w0 T Γ h w Γ h' w' D := by
  obtain ⟨a, o, h1, h2, h3⟩ := cell_of_read R hp hr
  obtain ⟨a2, w', id, off, e1, e2, e3⟩ := write_run (P := P) R hp (.cons hv .nil) hw
  rw [h1] at e1
  injection e1 with e1
  injection e1 with e1
  subst e1
  have hcell := hv.cell hc
  have hone : v'.oneCell' = true := by
    cases v' <;> first | rfl | exact absurd rfl (hcell.1 _) | exact absurd rfl (hcell.2 _)
  simp only [storeCells, Sem.run_bind, add_zero', run_store P w a v' .plain hone, h2] at e2
  by_cases hf : w.frozen? a = true
  · rw [if_pos hf] at e2; cases e2
  · rw [if_neg hf] at e2
    simp only [Result.andThen_ok, Sem.run_pure, Result.ok.injEq, true_and] at e2
    refine ⟨a, o, w', _, h1, h2, h3, by simpa using hf, fun m => ?_, e3⟩
    rw [run_store P w a v' m hone, h2]
    simp only [if_neg hf, e2]

theorem noView_at {a : Addr} {o : Value} (hc : w.cell? a = some o) : (viewAt a.block).run P w = .ok none w := by
  have : ∃ x, w.shape? a.block = some x := by
    unfold World.cell? at hc
    unfold World.shape?
    split at hc <;> simp_all
  obtain ⟨x, hx⟩ := this
  simp [viewAt, hx]

section
open Extern.Atomic
theorem loadT_eq (t : Extern.Atomic.T) (p : Value) : loadT t #[p] = (do Extern.Atomic.read t (← asAddr p)) := rfl
theorem storeT_eq (p v : Value) : storeT #[p, v] = (do
    store (← asAddr p) v .atomic
    pure none_) := rfl
theorem casT_eq (t : Extern.Atomic.T) (p old new : Value) : casT t #[p, old, new] = (do
    let a ← asAddr p
    if ← touchesFrozen a then unsupported (.unsafePointer "a write to bytes that a string shares")
    let eq ← match t, ← Extern.Atomic.read t a, old with
      | _, .int _ x, .int _ y => pure (x == y)
      | .ptr, .pointer x, .pointer y => samePointer x y
      | .int _, .pointer (some _), .int _ 0 | .int _, .int _ 0, .pointer (some _) => pure false
      | .int _, .pointer (some _), _ | .int _, _, .pointer (some _) => unsupported .addressObserved
      | _, _, _ => stuck "atomic.CompareAndSwap: old is no T"
    if eq then store a new .atomic
    pure (.bool eq)) := rfl
theorem update_eq (op : IntKind → Int → Int → Sem Value) (k : IntKind) (r : Bool) (p y : Value) : update op k r #[p, y] = (do
    let a ← asAddr p
    let old ← Extern.Atomic.read (.int k) a
    let new ← op k (← asInt old) (← asInt y)
    store a new .atomic
    pure (if r then new else old)) := rfl
theorem read_cell {a : Addr} {k : IntKind} {n : Int} (hc : w.cell? a = some (.int k n)) : (Extern.Atomic.read (.int k) a).run P w = .ok (.int k n) w := by
  simp [Extern.Atomic.read, load, Sem.run, hc]
theorem frozen_run {a : Addr} {o : Value} (hc : w.cell? a = some o) (hf : w.frozen? a = false) : (touchesFrozen a).run P w = .ok false w := by
  simp [touchesFrozen, noView_at hc, frozen, Sem.run, hf]
end

theorem extern_sound (hT : TabOk P T) (R : Rel w0 T Γ h w) {e : Ext} {args : List Val} {args' : Array Value} (ha : LRel Γ args args'.toList) {v : Val} {h' : Heap} (hv : externV T h e args = some (v, h')) :
    ∃ Δ v' w' D, (e.row args').run P w = .ok v' w' ∧ VRel Δ v v' ∧ Adv w0 T Γ h w Δ h' w' D := by
  unfold externV at hv
  split at hv
  · rename_i s c
    obtain ⟨x', y', rfl, h1, h2⟩ := args_two ha
    simp only [Option.some.injEq, Prod.mk.injEq] at hv
    obtain ⟨rfl, rfl⟩ := hv
    cases h1; cases h2
    refine ⟨Γ, .int .i64 (Lib.indexByte s c.toNat.toUInt8), w, [], by simpa [Ext.row] using Lib.run_indexByteString (P := P) ⟨s.toArray⟩ c w, ?_, .refl R⟩
    rw [findB_eq]
    have := Lib.indexByte_ge s c.toNat.toUInt8
    have e : (if Lib.indexByte s c.toNat.toUInt8 = -1 then -1 else Lib.indexByte s c.toNat.toUInt8 + ((0 : Nat) : Int)) = Lib.indexByte s c.toNat.toUInt8 := by split <;> simp_all
    rw [e]
    exact .int _ _
  · rename_i s c
    obtain ⟨x', y', rfl, h1, h2⟩ := args_two ha
    simp only [Option.some.injEq, Prod.mk.injEq] at hv
    obtain ⟨rfl, rfl⟩ := hv
    cases h1; cases h2
    refine ⟨Γ, .int .i64 (Lib.countByte s c.toNat.toUInt8 : Nat), w, [], by simpa [Ext.row] using Lib.run_countString (P := P) ⟨s.toArray⟩ c w, ?_, .refl R⟩
    rw [countB_eq]
    exact .int _ _
  · obtain ⟨x', rfl, h1⟩ := args_one ha
    simp only [Option.some.injEq, Prod.mk.injEq] at hv
    obtain ⟨rfl, rfl⟩ := hv
    exact ⟨Γ, x', w, [], rfl, h1, .refl R⟩
  · obtain ⟨p', rfl, h1⟩ := args_one ha
    split at hv
    · rename_i n hr
      simp only [Option.some.injEq, Prod.mk.injEq] at hv
      obtain ⟨rfl, rfl⟩ := hv
      obtain ⟨a, o, rfl, e2, e3⟩ := cell_of_read R h1 hr
      cases e3
      refine ⟨Γ, .int .u32 n, w, [], ?_, .int _ _, .refl R⟩
      simp [Ext.row, loadT_eq, asAddr, read_cell e2]
    · cases hv
  · rename_i p n
    obtain ⟨p', n', rfl, h1, h2⟩ := args_two ha
    split at hv
    · rename_i old hr
      cases hw : writeCells h p [.int .u32 n] with
      | none => rw [hw] at hv; cases hv
      | some h1' =>
        rw [hw] at hv
        simp only [Option.map_some, Option.some.injEq, Prod.mk.injEq] at hv
        obtain ⟨rfl, rfl⟩ := hv
        obtain ⟨a, o, w', D, rfl, e2, e3, e4, e5, e6⟩ := store_of_write (P := P) R h1 hr h2 rfl hw
        refine ⟨Γ, .tuple #[], w', D, ?_, VRel.tup_iff.2 ⟨_, rfl, .nil⟩, e6⟩
        simp [Ext.row, storeT_eq, asAddr, e5, Extern.Atomic.none_]
    · cases hv
  · rename_i p a0 b0
    obtain ⟨p', l, e1, h1, h2⟩ := F2.cons_left ha
    obtain ⟨a', l', rfl, h3, h4⟩ := F2.cons_left h2
    obtain ⟨b', l'', rfl, h5, h6⟩ := F2.cons_left h4
    have h6 := F2.nil_left h6
    subst h6
    have e1 : args' = #[p', a', b'] := by rw [← Array.toList_inj, e1]
    subst e1
    split at hv
    · rename_i n hr
      cases h3; cases h5
      by_cases hn : (n == a0) = true
      · simp only [hn, cond_true] at hv
        cases hw : writeCells h p [.int .i32 b0] with
        | none => rw [hw] at hv; cases hv
        | some h1' =>
          rw [hw] at hv
          simp only [Option.map_some, Option.some.injEq, Prod.mk.injEq] at hv
          obtain ⟨rfl, rfl⟩ := hv
          obtain ⟨a, o, w', D, rfl, e2, e3, e4, e5, e6⟩ := store_of_write (P := P) R h1 hr (.int .i32 b0) rfl hw
          cases e3
          refine ⟨Γ, .bool true, w', D, ?_, .bool _, e6⟩
          have hn' : n = a0 := by simpa using hn
          simp [Ext.row, casT_eq, asAddr, frozen_run e2 e4, read_cell e2, hn', e5]
      · have hn : (n == a0) = false := by simpa using hn
        simp only [hn, cond_false] at hv
        cases hw : writeCells h p [.int .i32 n] with
        | none => rw [hw] at hv; cases hv
        | some h1' =>
          rw [hw] at hv
          simp only [Option.map_some, Option.some.injEq, Prod.mk.injEq] at hv
          obtain ⟨rfl, rfl⟩ := hv
          obtain ⟨a, o, w', D, rfl, e2, e3, e4, e5, e6⟩ := store_of_write (P := P) R h1 hr (.int .i32 n) rfl hw
          cases e3
          refine ⟨Γ, .bool false, w, [], ?_, .bool _, .refl R⟩
          have hn' : n ≠ a0 := by simpa using hn
          simp [Ext.row, casT_eq, asAddr, frozen_run e2 e4, read_cell e2, hn']
    · cases hv
  · rename_i p a0
    obtain ⟨p', n', rfl, h1, h2⟩ := args_two ha
    split at hv
    · rename_i n hr
      cases h2
      cases hw : writeCells h p [.int .i32 (IntKind.i32.wrap (n + a0))] with
      | none => rw [hw] at hv; cases hv
      | some h1' =>
        rw [hw] at hv
        simp only [Option.map_some, Option.some.injEq, Prod.mk.injEq] at hv
        obtain ⟨rfl, rfl⟩ := hv
        obtain ⟨a, o, w', D, rfl, e2, e3, e4, e5, e6⟩ := store_of_write (P := P) R h1 hr (.int .i32 (IntKind.i32.wrap (n + a0))) rfl hw
        cases e3
        refine ⟨Γ, .int .i32 (IntKind.i32.wrap (n + a0)), w', D, ?_, .int _ _, e6⟩
        simp [Ext.row, update_eq, asAddr, read_cell e2, asInt, asIntOf, Op.intArith, e5]
    · cases hv
  · simp only [Option.some.injEq, Prod.mk.injEq] at hv
    obtain ⟨rfl, rfl⟩ := hv
    exact ⟨Γ, _, w, [], rfl, VRel.tup_iff.2 ⟨_, rfl, .nil⟩, .refl R⟩
  · simp only [Option.some.injEq, Prod.mk.injEq] at hv
    obtain ⟨rfl, rfl⟩ := hv
    exact ⟨Γ, _, w, [], rfl, VRel.tup_iff.2 ⟨_, rfl, .nil⟩, .refl R⟩
  · obtain ⟨p', rfl, h1⟩ := args_one ha
    simp only [Option.some.injEq, Prod.mk.injEq] at hv
    obtain ⟨rfl, rfl⟩ := hv
    cases h1
    exact ⟨Γ, _, w, [], rfl, VRel.tup_iff.2 ⟨_, rfl, .nil⟩, .refl R⟩
  · obtain ⟨p', rfl, h1⟩ := args_one ha
    simp only [Option.some.injEq, Prod.mk.injEq] at hv
    obtain ⟨rfl, rfl⟩ := hv
    cases h1
    exact ⟨Γ, _, w, [], rfl, VRel.tup_iff.2 ⟨_, rfl, .nil⟩, .refl R⟩
  · cases hv
end
end Go.B
end
