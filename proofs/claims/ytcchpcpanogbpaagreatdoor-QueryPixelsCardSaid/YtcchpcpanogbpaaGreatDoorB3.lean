/- A part of the proof that scrim/scrimlaw21.QueryPixels returns true at every input. -/
import Derived.Test.YtcchpcpanogbpaaGreatDoorB2
import Derived.IntWalk
set_option linter.unusedSimpArgs false
set_option linter.unusedVariables false
section
/- What an operation does in B it does in the model: those that read, lay or build. -/
namespace Go.B
open Go Go.RowKit

/-- An operation that enters nothing: it tells a value, or none. -/
def Does (P : Program) (o : Oper) (a : Act) (w : World) (v' : Value) (w' : World) : Prop :=
  (execOp a.eval o).run P w = .ok (.value v') w' ∨ ((execOp a.eval o).run P w = .ok .skip w' ∧ v' = undef)

theorem ofCell_alive {v : Value} {x : Val} (h : ofCell v = some x) : x ≠ .dead := by
  rintro rfl
  unfold ofCell at h
  split at h <;> first | cases h | (split at h <;> cases h)

theorem ofValue_alive {v : Value} {x : Val} (h : ofValue v = some x) : x ≠ .dead := by
  unfold ofValue at h
  split at h
  · simp only [Option.map_eq_some_iff] at h
    obtain ⟨xs, _, rfl⟩ := h
    simp
  · split at h
    · injection h with h; subst h; simp
    · cases h
  · exact ofCell_alive h

theorem alive_of_cells {v : Val} (h : v.cells.all Val.isCell = true) : v ≠ .dead := by
  rintro rfl
  simp [Val.cells, Val.isCell] at h

section
variable {P : Program} {w0 : World} {T : Tab} {Γ : Ctx} {h : Heap} {w : World}

theorem row_shut {v : Val} {v' : Value} {Δ : Ctx} (hv : VRel Δ v v') (hd : v ≠ .dead) (w : World) (e : TypeId) (sz room : Nat) :
    BlkRel Δ (w.alloc (.cells v'.cells e)) (.row v.cells 0 false 0 sz e false) (w.heap.size, room) := by
  have hc := hv.cells hd
  have hl := hc.length
  simp only [Array.length_toList] at hl
  refine ⟨v'.cells, (0, 0), { heap := heap_alloc_new w _, fits := by omega, shut := fun _ => hl.symm, opens := fun h => (by cases h), rel := ?_, free := fun i _ _ h => (by simp at h), head := fun _ => .inl rfl }⟩
  rw [List.take_of_length_le (by simp; omega)]
  exact hc

theorem alloc_sound (hT : TabOk P T) (R : Rel w0 T Γ h w) {o : Oper} {a : Act} {e : TypeId} (ho : o.op = .alloc e) {z : Val} {n : Nat} (hz : zeroV T e = some z) (hf : Fresh Γ h.next (h.next + 1)) :
    ∃ Δ v' w' D, Does P o a w v' w' ∧ VRel Δ (newRow h z.cells n e).1 v' ∧ Adv w0 T Γ h w Δ (newRow h z.cells n e).2 w' D := by
  obtain ⟨z', h1, h2, h3⟩ := run_zero hT hz
  refine ⟨_, .pointer (some ⟨w.heap.size, 0, none⟩), w.alloc (.cells z'.cells e), _, .inl ?_, .ptr (Ctx.add_same _ _ _ _), Adv.alloc R hf _ 0 _ rfl rfl rfl rfl fun Δ _ => row_shut (h2 Δ) (ofValue_alive h3) w e n 0⟩
  simp [execOp, ho, Instr.alloc, h1, newVar, Go.newRow, World.alloc_eq]

theorem box_sound (R : Rel w0 T Γ h w) {o : Oper} {a : Act} {e : TypeId} {x : Operand} (ho : o.op = .box e x) {v : Val} {n : Nat} (hv : VRel Γ v (a.eval x)) (hd : v ≠ .dead) (hf : Fresh Γ h.next (h.next + 1)) :
    ∃ Δ v' w' D, Does P o a w v' w' ∧ VRel Δ (newRow h v.cells n e).1 v' ∧ Adv w0 T Γ h w Δ (newRow h v.cells n e).2 w' D := by
  refine ⟨_, .pointer (some ⟨w.heap.size, 0, none⟩), w.alloc (.cells (a.eval x).cells e), _, .inl ?_, .ptr (Ctx.add_same _ _ _ _), Adv.alloc R hf _ 0 _ rfl rfl rfl rfl fun Δ hle => row_shut (hv.mono hle) hd w e n 0⟩
  simp [execOp, ho, Instr.box, newVar, Go.newRow, World.alloc_eq]

theorem evalP_rel {env : Env} {a : Act} (he : ERel Γ env a.tmps) : ∀ {l : List (Nat × Operand)} {vs : List (Nat × Val)}, evalP env l = some vs → F2 (fun x y => x.1 = y.1 ∧ VRel Γ x.2 y.2) vs (l.map fun (i, x) => (i, a.eval x))
  | [], vs, h => by simp [evalP] at h; subst h; exact .nil
  | (i, o) :: l, vs, h => by
    simp only [evalP] at h
    split at h
    · rename_i v ws h1 h2
      injection h with h; subst h
      exact .cons ⟨rfl, evalO_rel he h1⟩ (evalP_rel he h2)
    · cases h

theorem foldl_zipIdx_set (vs : List Value) (off : Nat) : ∀ (j : Nat) (C : Array Value), off + j + vs.length ≤ C.size →
    ((vs.zipIdx j).foldl (fun cs (c, k) => cs.setIfInBounds (off + k) c) C).toList = C.toList.take (off + j) ++ vs ++ C.toList.drop (off + j + vs.length) := by
  induction vs with
  | nil => intro j C h; simp
  | cons v vs ih =>
    intro j C h
    simp only [List.zipIdx_cons, List.foldl_cons]
    rw [ih (j + 1) _ (by simp at h ⊢; omega)]
    have hlt : off + j < C.size := by simp at h; omega
    simp only [Array.toList_setIfInBounds, List.length_cons]
    have := list_seg_step C.toList (off + j) v vs (by simp at h ⊢; omega)
    simpa [Nat.add_assoc] using this

theorem fill_rel {place : Nat → Option (Nat × Nat)} : ∀ {parts : List (Nat × Val)} {parts' : List (Nat × Value)} {cells r : List Val} {C : Array Value}, F2 (fun x y => x.1 = y.1 ∧ VRel Γ x.2 y.2) parts parts' →
    LRel Γ cells C.toList → fillV place cells parts = some r → ∃ D, Instr.fill place C parts' = some D ∧ LRel Γ r D.toList
  | [], _, cells, r, C, .nil, hc, h => by simp only [fillV, Option.some.injEq] at h; subst h; exact ⟨C, rfl, hc⟩
  | (i, v) :: ps, _, cells, r, C, .cons (b := (k, v')) ⟨hk, hv⟩ t, hc, h => by
    simp only at hk
    subst hk
    simp only [fillV] at h
    split at h
    · cases h
    · rename_i off size hp
      obtain ⟨hb, h⟩ := bif_some h
      simp only [Bool.and_eq_true] at hb
      have hb1 := nat_beq_eq hb.1.2
      have hb2 := Nat.le_of_ble_eq_true hb.2
      have hvc := hv.cells (by rintro rfl; simp [Val.alive] at hb)
      have hl := hvc.length
      simp only [Array.length_toList] at hl
      have hcl := hc.length
      simp only [Array.length_toList] at hcl
      simp only [Instr.fill, hp]
      have hsz : v'.cells.size = size := by omega
      rw [if_neg (by simp; omega)]
      have hset : ((v'.cells.zipIdx.foldl (fun cs (c, j) => cs.setIfInBounds (off + j) c) C)).toList = C.toList.take off ++ v'.cells.toList ++ C.toList.drop (off + v'.cells.size) := by
        rw [← Array.foldl_toList, Array.toList_zipIdx]
        have := foldl_zipIdx_set v'.cells.toList off 0 C (by simp; omega)
        simpa using this
      refine fill_rel t ?_ h
      rw [hset, overlay_eq _ _ _ (by omega), hl]
      exact ((hc.take off).append hvc).append (hc.drop _)

end
end Go.B
end
section
/- What an operation does in B it does in the model: structs, rows, places in them. -/
namespace Go.B
open Go Go.RowKit

section
variable {P : Program} {w0 : World} {T : Tab} {Γ : Ctx} {h : Heap} {w : World}

theorem places_run (hT : TabOk P T) (w : World) : ∀ {l : List Field} {ps : List (Nat × Nat)}, placesV T l = some ps →
    (l.mapM fun (f : Field) => do pure (f.offset, ← Go.sizeOf f.type) : Sem (List (Nat × Nat))).run P w = .ok ps w
  | [], ps, h => by simp only [placesV, Option.some.injEq] at h; subst h; rfl
  | f :: l, ps, h => by
    simp only [placesV] at h
    split at h
    · rename_i n qs h1 h2
      injection h with h; subst h
      rw [List.mapM_cons]
      simp only [Sem.run_bind, run_size hT h1, Result.andThen_ok, Sem.run_pure, places_run hT w h2]
    · cases h

theorem build_run (hT : TabOk P T) (w : World) {t : TypeId} {ps : List (Nat × Val)} {ps' : Array (Nat × Value)} (hp : F2 (fun x y => x.1 = y.1 ∧ VRel Γ x.2 y.2) ps ps'.toList) {v : Val} (hb : buildV T t ps = some v) :
    ∃ v', (Instr.build t ps').run P w = .ok v' w ∧ VRel Γ v v' := by
  unfold buildV at hb
  split at hb
  · rename_i z fields hz hu
    obtain ⟨z', h1, h2, h3⟩ := run_zero hT hz
    split at hb
    · rename_i pl hpl
      simp only [Option.map_eq_some_iff] at hb
      obtain ⟨r, hr, rfl⟩ := hb
      obtain ⟨D, hD, hrel⟩ := fill_rel (Γ := Γ) hp ((h2 Γ).cells (ofValue_alive h3)) hr
      refine ⟨.agg D, ?_, VRel.agg_iff.2 ⟨D, rfl, hrel⟩⟩
      have hm : (fields.mapM fun (f : Field) => do pure (f.offset, ← Go.sizeOf f.type) : Sem (Array (Nat × Nat))).run P w = .ok pl.toArray w := by
        rw [Array.mapM_eq_mapM_toList]
        simp only [Sem.run_map, places_run hT w hpl, Result.andThen_ok]
      have hg : (fun (x : Nat) => pl.toArray[x]?) = fun (i : Nat) => pl[i]? := by funext i; simp
      unfold Instr.build
      simp only [Sem.run_bind, h1, Result.andThen_ok, run_under hT hu, hm, hg, hD, Sem.run_pure]
    · cases hb
  · rename_i z n e hz hu
    obtain ⟨z', h1, h2, h3⟩ := run_zero hT hz
    split at hb
    · rename_i m hm
      simp only [Option.map_eq_some_iff] at hb
      obtain ⟨r, hr, rfl⟩ := hb
      obtain ⟨D, hD, hrel⟩ := fill_rel (Γ := Γ) hp ((h2 Γ).cells (ofValue_alive h3)) hr
      refine ⟨.agg D, ?_, VRel.agg_iff.2 ⟨D, rfl, hrel⟩⟩
      unfold Instr.build
      simp only [Sem.run_bind, h1, Result.andThen_ok, run_under hT hu, run_size hT hm, hD, Sem.run_pure]
    · cases hb
  · cases hb

theorem repeat_length (z : List Val) : ∀ n, (repeatCells z n).length = n * z.length
  | 0 => by simp [repeatCells]
  | n + 1 => by simp [repeatCells, repeat_length z n, Nat.succ_mul, Nat.add_comm]

theorem repeat_get (z : List Val) : ∀ (n i : Nat), i < n * z.length → (repeatCells z n)[i]? = z[i % z.length]?
  | 0, i, h => by simp at h
  | n + 1, i, h => by
    simp only [repeatCells, List.getElem?_append]
    split
    · rename_i hlt; rw [Nat.mod_eq_of_lt hlt]
    · rename_i hge
      rw [repeat_get z n (i - z.length) (by rw [Nat.succ_mul] at h; omega)]
      rw [← Nat.mod_eq_sub_mod (by omega)]

/-- A row of zero values. -/
theorem repeat_rel {z : List Val} {z' : Array Value} (hz : LRel Γ z z'.toList) (n m : Nat) (hm : m = n * z.length) : LRel Γ (repeatCells z n) ((Array.range m).map (fun i => z'[i % z'.size]!)).toList := by
  have hl := hz.length
  simp only [Array.length_toList] at hl
  refine F2.of_get (by simp [repeat_length, hm]) fun i a b ha hb => ?_
  simp only [Array.toList_map, Array.toList_range, List.getElem?_map, Option.map_eq_some_iff] at hb
  obtain ⟨k, hk, rfl⟩ := hb
  have him : i < m := by
    rcases Nat.lt_or_ge i m with h | h
    · exact h
    · rw [List.getElem?_eq_none (by simpa using h)] at hk; cases hk
  rw [List.getElem?_range him] at hk
  injection hk with hk; subst hk
  rw [repeat_get z n i (by omega)] at ha
  obtain ⟨b, hb, hr⟩ := hz.get _ _ ha
  rw [hl] at hb
  simp at hb
  rw [getElem!_def, hb]
  exact hr

theorem buildSlice_sound (hT : TabOk P T) (R : Rel w0 T Γ h w) {t : TypeId} {len : Nat} {ps : List (Nat × Val)} {ps' : Array (Nat × Value)} (hp : F2 (fun x y => x.1 = y.1 ∧ VRel Γ x.2 y.2) ps ps'.toList) {v : Val} {h' : Heap}
    (hb : buildSliceV T h t len ps = some (v, h')) (hf : Fresh Γ h.next h'.next) :
    ∃ Δ v' w' D, (Instr.buildSlice t len ps').run P w = .ok v' w' ∧ VRel Δ v v' ∧ Adv w0 T Γ h w Δ h' w' D := by
  unfold buildSliceV at hb
  split at hb
  · rename_i e hu
    split at hb
    · rename_i n z hn hz
      obtain ⟨z', h1, h2, h3⟩ := run_zero hT hz
      obtain ⟨hc, hb⟩ := bif_some hb
      simp only [Bool.and_eq_true] at hc
      have hc1 := Nat.le_of_ble_eq_true hc.1
      have hc2 := nat_beq_eq hc.2
      split at hb
      · rename_i cells hfill
        injection hb with hb
        injection hb with hb1 hb2; subst hb1; subst hb2
        have hzc := (h2 Γ).cells (ofValue_alive h3)
        have hzl := hzc.length
        simp only [Array.length_toList] at hzl
        obtain ⟨D, hD, hrel⟩ := fill_rel (Γ := Γ) hp (repeat_rel hzc len (len * n) (by rw [hc2])) hfill
        have hlen : cells.length = D.size := by simpa using hrel.length
        refine ⟨_, .slice (some ⟨w.heap.size, 0, none⟩) len len, w.alloc (.cells D e), _, ?_, .sl (Ctx.add_same _ _ _ _) ⟨rfl, Nat.le_refl _⟩,
          Adv.alloc R hf (.row cells 0 false 0 n e false) 0 (.cells D e) rfl rfl rfl rfl fun Δ hle => ⟨D, (0, 0), { heap := heap_alloc_new w _, fits := by omega, shut := fun _ => hlen.symm, opens := fun h => (by cases h), rel := ?_, free := fun i _ _ h => (by simp at h), head := fun _ => .inl rfl }⟩⟩
        · unfold Instr.buildSlice
          by_cases h0 : len * n = 0
          · have hD' : Instr.fill (fun i => some (i * n, n)) ((Array.range (len * n)).map fun i => (#[] : Array Value)[i % (#[] : Array Value).size]!) ps'.toList = some D := by
              rw [← hD]; congr 1; simp [h0]
            simp only [Sem.run_bind, run_under hT hu, Result.andThen_ok, run_size hT hn]
            rw [if_neg (by omega)]
            simp only [h0, if_true] at hD' ⊢
            simp only [hD', Go.newRow, Sem.run_bind, run_newObj, Result.andThen_ok, Sem.run_pure, World.alloc_eq]
          · simp only [Sem.run_bind, run_under hT hu, Result.andThen_ok, run_size hT hn]
            rw [if_neg (by omega)]
            simp only [h0, if_false, h1, Sem.run_bind, Sem.run_pure, Result.andThen_ok, hD, Go.newRow, run_newObj, World.alloc_eq]
        · rw [List.take_of_length_le (by simp; omega)]
          exact hrel.mono hle
      · cases hb
    · cases hb
  · cases hb

theorem part_run (hT : TabOk P T) (w : World) {t : TypeId} {cs : List Val} {cs' : Array Value} (hc : LRel Γ cs cs'.toList) {off : Nat} {v : Val} (hp : part T t cs off = some v) :
    ∃ v', (Go.part t cs' off).run P w = .ok v' w ∧ VRel Γ v v' := by
  unfold part at hp
  split at hp
  · rename_i ha
    split at hp
    · rename_i n hn
      simp only [Option.map_eq_some_iff] at hp
      obtain ⟨r, hr, rfl⟩ := hp
      obtain ⟨rfl, hl⟩ := cut_eq hr
      refine ⟨.agg (cs'.extract off (off + n)), by simp [Go.part, run_agg hT ha, run_size hT hn], VRel.agg_iff.2 ⟨_, rfl, ?_⟩⟩
      have := (hc.drop off).take n
      simpa [Array.toList_extract, List.extract] using this
    · cases hp
  · rename_i ha
    obtain ⟨b, hb, hr⟩ := hc.get _ _ hp
    simp at hb
    exact ⟨b, by simp [Go.part, run_agg hT ha, hb], hr⟩
  · cases hp

theorem move_run {p : Val} {p' : Value} (hp : VRel Γ p p') {n : Nat} {q : Val} (hm : move p n = some q) : ∃ a : Addr, p' = .pointer (some a) ∧ VRel Γ q (.pointer (some (a.add n))) := by
  have hadd : ∀ b off : Nat, (⟨b, off, none⟩ : Addr).add n = ⟨b, off + n, none⟩ := fun b off => by unfold Addr.add; split <;> simp_all
  cases p <;> simp only [move, reduceCtorEq] at hm
  · injection hm with hm; subst hm
    cases hp with
    | ptr h => exact ⟨_, rfl, by rw [hadd]; exact .ptr h⟩
  · injection hm with hm; subst hm
    cases hp with
    | fptr f h hc hv => exact ⟨_, rfl, by rw [hadd, Nat.add_assoc]; exact .fptr f h hc hv⟩
  · injection hm with hm; subst hm
    cases hp with
    | gptr => exact ⟨_, rfl, by rw [hadd]; exact .gptr _ _⟩

theorem base_rel {s p : Val} {s' : Value} (hs : VRel Γ s s') (hb : base s = some p) : ∃ (a : Addr) (n c : Nat), s' = .slice (some a) n c ∧ VRel Γ p (.pointer (some a)) ∧ lenV s = some n := by
  cases s <;> simp only [base, reduceCtorEq] at hb
  · injection hb with hb; subst hb
    cases hs with
    | sl h hk => exact ⟨_, _, _, rfl, .ptr h, rfl⟩
  · injection hb with hb; subst hb
    cases hs with
    | fsl f h hk hc hv => exact ⟨_, _, _, rfl, .fptr f h hc hv, rfl⟩

theorem indexAddr_run (hT : TabOk P T) (w : World) {t : TypeId} {x i : Val} {x' i' : Value} (hx : VRel Γ x x') (hi : VRel Γ i i') {v : Val} (hv : indexAddrV T t x i = some v) :
    ∃ v', (Instr.indexAt t x' i').run P w = .ok v' w ∧ VRel Γ v v' := by
  unfold indexAddrV at hv
  split at hv
  · rename_i len e k n hu
    obtain ⟨hb, hv⟩ := bif_some hv
    have hb : n < len := by simpa using hb
    split at hv
    · rename_i z hz
      obtain ⟨a, rfl, hr⟩ := move_run hx hv
      cases hi
      refine ⟨_, ?_, hr⟩
      simp [Instr.indexAt, asIntOf, run_under hT hu, Instr.sureAddr, run_size hT hz, hb]
    · cases hv
  · rename_i e k n hu
    split at hv
    · rename_i len p z hl hp hz
      obtain ⟨hb, hv⟩ := bif_some hv
      have hb : n < len := by simpa using hb
      obtain ⟨a, m, c, rfl, hr, hm⟩ := base_rel hx hp
      rw [hl] at hm; injection hm with hm; subst hm
      obtain ⟨a', ha', hr'⟩ := move_run hr hv
      injection ha' with ha'; injection ha' with ha'; subst ha'
      cases hi
      refine ⟨_, ?_, hr'⟩
      simp [Instr.indexAt, asIntOf, run_under hT hu, run_size hT hz, hb]
    · cases hv
  · cases hv

theorem index_run (hT : TabOk P T) (w : World) {t : TypeId} {x i : Val} {x' i' : Value} (hx : VRel Γ x x') (hi : VRel Γ i i') {v : Val} (hv : indexV T t x i = some v) :
    ∃ v', (Instr.index t x' i').run P w = .ok v' w ∧ VRel Γ v v' := by
  unfold indexV at hv
  split at hv
  · rename_i len e cs k n hu
    obtain ⟨hb, hv⟩ := bif_some hv
    have hb : n < len := by simpa using hb
    split at hv
    · rename_i z hz
      obtain ⟨A, rfl, hA⟩ := VRel.agg_iff.1 hx
      cases hi
      obtain ⟨v', h1, h2⟩ := part_run hT w hA hv
      refine ⟨v', ?_, h2⟩
      simp [Instr.index, asIntOf, run_under hT hu, run_size hT hz, hb, h1]
    · cases hv
  · rename_i s k n hu
    split at hv
    · rename_i b hb
      injection hv with hv; subst hv
      cases hx
      cases hi
      refine ⟨_, ?_, .int _ _⟩
      have : (⟨s.toArray⟩ : ByteArray)[n]? = some b := by
        have hlt := (List.getElem?_eq_some_iff.1 hb)
        obtain ⟨h1, h2⟩ := hlt
        have hsz : n < (⟨s.toArray⟩ : ByteArray).size := by simpa [ByteArray.size] using h1
        rw [getElem?_pos (⟨s.toArray⟩ : ByteArray) n hsz]
        exact congrArg some h2
      simp [Instr.index, asIntOf, run_under hT hu, this]
    · cases hv
  · cases hv

theorem fieldOf_under {s : TypeId} {f : Nat} {fl : Field} (hf : fieldOf T s f = some fl) : ∃ fields, T.under s = some (.struct fields) ∧ fields[f]? = some fl := by
  unfold fieldOf at hf
  split at hf
  · rename_i fields hu; exact ⟨fields, hu, hf⟩
  · cases hf

theorem fieldAddr_run (hT : TabOk P T) (w : World) {s : TypeId} {f : Nat} {fl : Field} (hf : fieldOf T s f = some fl) {n : Nat} (hn : sizeOf T fl.type = some (n + 1)) {p q : Val} {p' : Value} (hp : VRel Γ p p')
    (hm : move p fl.offset = some q) : ∃ v', (Instr.fieldAt s p' f).run P w = .ok v' w ∧ VRel Γ q v' := by
  obtain ⟨fields, hu, hfl⟩ := fieldOf_under hf
  obtain ⟨a, rfl, hr⟩ := move_run hp hm
  refine ⟨_, ?_, hr⟩
  simp [Instr.fieldAt, run_under hT hu, hfl, Instr.sureAddr, fieldPlace, run_size hT hn]

theorem field_run (hT : TabOk P T) (w : World) {s : TypeId} {f : Nat} {fl : Field} (hf : fieldOf T s f = some fl) {cs : List Val} {x' : Value} (hx : VRel Γ (.agg cs) x') {v : Val} (hv : part T fl.type cs fl.offset = some v) :
    ∃ v', (Instr.field s x' f).run P w = .ok v' w ∧ VRel Γ v v' := by
  obtain ⟨fields, hu, hfl⟩ := fieldOf_under hf
  obtain ⟨A, rfl, hA⟩ := VRel.agg_iff.1 hx
  obtain ⟨v', h1, h2⟩ := part_run hT w hA hv
  exact ⟨v', by simp [Instr.field, run_under hT hu, hfl, asAgg, h1], h2⟩
end
end Go.B
end
section
/- What an operation does in B it does in the model: slice expressions. -/
namespace Go.B
open Go Go.RowKit

inductive ORel (Γ : Ctx) : Option Val → Option Value → Prop
  | none : ORel Γ none none
  | some {v : Val} {v' : Value} (h : VRel Γ v v') : ORel Γ (some v) (some v')

theorem evalM_rel {Γ : Ctx} {env : Env} {a : Act} (he : ERel Γ env a.tmps) {o : Option Operand} {v : Option Val} (h : evalM env o = some v) : ORel Γ v (o.map a.eval) := by
  cases o with
  | none => simp only [evalM, Option.some.injEq] at h; subst h; exact .none
  | some o =>
    simp only [evalM, Option.map_eq_some_iff] at h
    obtain ⟨x, h1, rfl⟩ := h
    exact .some (evalO_rel he h1)

theorem within_eq {v : Val} {most n : Nat} (h : within v most = some n) : (∃ k, v = .int k (n : Int)) ∧ n ≤ most := by
  unfold within at h
  split at h
  · obtain ⟨hb, h⟩ := bif_some h
    injection h with h; subst h
    exact ⟨⟨_, rfl⟩, Nat.le_of_ble_eq_true hb⟩
  · cases h

section
variable {P : Program} {w0 : World} {T : Tab} {Γ : Ctx} {h : Heap} {w : World}

theorem sliceBound_run (w : World) {v : Val} {v' : Value} (hv : VRel Γ v v') {most n y : Nat} (h : within v most = some n) (hy : most ≤ y) (c : BoundsCode) : (Instr.sliceBound v' y c).run P w = .ok n w := by
  obtain ⟨⟨k, rfl⟩, hn⟩ := within_eq h
  cases hv
  have h1 : (n : Int) ≤ y := by omega
  simp [Instr.sliceBound, asIntOf, h1]

def lowS (low' : Option Value) (hi : Nat) (c : BoundsCode) : Sem Nat :=
  match low' with
  | some v => Instr.sliceBound v hi c
  | none => pure 0

def CutOk (cap : Cap) (c : Cap) (lo m c' : Nat) : Prop :=
  match c with
  | .exact k => m - lo = k
  | .opn => cap = .opn ∧ lo = 0 ∧ m = c'
  | .unk => m = c'

theorem lowV_run (w : World) {low : Option Val} {low' : Option Value} (h1 : ORel Γ low low') {hi lo : Nat} (h : lowV low hi = some lo) (c : BoundsCode) :
    (lowS low' hi c).run P w = .ok lo w ∧ lo ≤ hi := by
  cases h1 with
  | none => simp only [lowV, Option.some.injEq] at h; subst h; exact ⟨rfl, Nat.zero_le _⟩
  | some h1 => exact ⟨sliceBound_run w h1 h (Nat.le_refl _) c, (within_eq h).2⟩

theorem bounds_run (w : World) (isSlice : Bool) {len c' : Nat} {cap : Cap} (hl : len ≤ c') (hcap : ∀ n, cap = .exact n → c' = n) {low high max : Option Val} {low' high' max' : Option Value} (h1 : ORel Γ low low') (h2 : ORel Γ high high')
    (h3 : ORel Γ max max') {lo hi : Nat} {c : Cap} (hb : bounds len cap low high max = some (lo, hi, c)) :
    ∃ m, (Instr.sliceBounds isSlice len c' low' high' max').run P w = .ok (lo, hi, m) w ∧ lo ≤ hi ∧ hi ≤ m ∧ m ≤ c' ∧
      CutOk cap c lo m c' := by
  have hmost : capMost cap len ≤ c' := by
    cases cap with
    | exact n => rw [hcap n rfl]; exact Nat.le_refl _
    | opn => exact hl
    | unk => exact hl
  cases max with
  | some m0 =>
    simp only [bounds, Option.bind_eq_some_iff, Option.map_eq_some_iff] at hb
    obtain ⟨m, hm, hi0, rfl, hi1, hhi, lo1, hlo, hb⟩ := hb
    injection hb with e1 hb; injection hb with e2 e3; subst e1; subst e2; subst e3
    cases h3 with
    | some h3 =>
      cases h2 with
      | some h2 =>
        obtain ⟨r1, r2⟩ := lowV_run (P := P) w h1 hlo .slice3C
        refine ⟨m, ?_, r2, (within_eq hhi).2, by have := (within_eq hm).2; omega, rfl⟩
        unfold Instr.sliceBounds
        have r3 := sliceBound_run (P := P) w h3 hm hmost (if isSlice then .slice3Acap else .slice3Alen)
        have r4 := sliceBound_run (P := P) w h2 hhi (Nat.le_refl _) .slice3B
        cases low' <;> simp_all [lowS]
  | none =>
    simp only [bounds, Option.bind_eq_some_iff, Option.map_eq_some_iff] at hb
    obtain ⟨hi1, hhi, lo1, hlo, hb⟩ := hb
    injection hb with e1 hb; injection hb with e2 e3; subst e1; subst e2; subst e3
    cases h3 with
    | none =>
      have hle : hi1 ≤ c' := by
        unfold highV at hhi
        split at hhi
        · have := (within_eq hhi).2; omega
        · injection hhi with hhi; omega
      obtain ⟨r1, r2⟩ := lowV_run (P := P) w h1 hlo .sliceB
      refine ⟨c', ?_, r2, hle, Nat.le_refl _, ?_⟩
      · unfold Instr.sliceBounds
        cases h2 with
        | none =>
          simp only [highV, Option.some.injEq] at hhi; subst hhi
          cases low' <;> simp_all [lowS]
        | some h2 =>
          have := sliceBound_run (P := P) w h2 hhi hmost (if isSlice then .sliceAcap else .sliceAlen)
          cases low' <;> simp_all [lowS]
      · cases cap with
        | exact n => simp [capCut, hcap n rfl, CutOk]
        | opn => cases lo1 <;> simp [capCut, CutOk]
        | unk => simp [capCut, CutOk]

/-- What is laid behind bounds stands for what the model lays. -/
theorem cutV_rel {mk : Nat → Nat → Cap → Val} {b s off z len c' room : Nat} {cap : Cap} (hmk : ∀ off n cap0 c, (cap0 = .opn → cap = .opn) → CapOk cap0 c (s + off) n room → VRel Γ (mk off n cap0) (.slice (some ⟨b, s + off, none⟩) n c))
    (hk : CapOk cap c' (s + off) len room) {lo hi m : Nat} {c : Cap} (h1 : lo ≤ hi) (h2 : hi ≤ m) (h3 : m ≤ c')
    (h4 : CutOk cap c lo m c') :
    VRel Γ (cutV mk off z (lo, hi, c)) (.slice (some (if m = lo then ⟨b, s + off, none⟩ else (⟨b, s + off, none⟩ : Addr).add (lo * z))) (hi - lo) (m - lo)) := by
  have hadd : ∀ n : Nat, (⟨b, s + off, none⟩ : Addr).add n = ⟨b, s + (off + n), none⟩ := fun n => by unfold Addr.add; split <;> simp_all [Nat.add_assoc]
  cases c with
  | exact k =>
    simp only [CutOk] at h4
    cases k with
    | zero => simp only [cutV]; rw [if_pos (by omega), h4]; exact hmk _ _ _ _ (fun e => by cases e) ⟨rfl, by omega⟩
    | succ k => simp only [cutV]; rw [if_neg (by omega), h4, hadd]; exact hmk _ _ _ _ (fun e => by cases e) ⟨rfl, by omega⟩
  | opn =>
    obtain ⟨rfl, rfl, rfl⟩ := h4
    simp only [cutV]
    simp only [Nat.zero_mul, hadd, Nat.add_zero, ite_self, Nat.sub_zero]
    exact hmk _ _ _ _ (fun _ => rfl) ⟨hk.1, hk.2.1, by have := hk.1; omega⟩
  | unk =>
    simp only [CutOk] at h4
    subst h4
    cases lo with
    | zero =>
      simp only [cutV]
      simp only [Nat.zero_mul, hadd, Nat.add_zero, ite_self, Nat.sub_zero]
      exact hmk _ _ _ _ (fun e => by cases e) h2
    | succ lo =>
      simp only [cutV]
      cases hq : Nat.ble hi (lo + 1) with
      | true =>
        have := Nat.le_of_ble_eq_true hq
        rw [show hi - (lo + 1) = 0 by omega]
        exact .esl _ _
      | false =>
        have : ¬ hi ≤ lo + 1 := fun h => by rw [Nat.ble_eq_true_of_le h] at hq; cases hq
        rw [if_neg (by omega), hadd]
        exact hmk _ _ _ _ (fun e => by cases e) (by show _ ≤ _; omega)

theorem slice_run (hT : TabOk P T) (w : World) {t : TypeId} {x : Val} {x' : Value} (hx : VRel Γ x x') {low high max : Option Val} {low' high' max' : Option Value} (h1 : ORel Γ low low') (h2 : ORel Γ high high')
    (h3 : ORel Γ max max') {v : Val} (hv : sliceV T t x low high max = some v) : ∃ v', (Instr.sliceAt t x' low' high' max').run P w = .ok v' w ∧ VRel Γ v v' := by
  unfold sliceV at hv
  split at hv
  · -- a text
    rename_i s hu
    split at hv
    · simp only [Option.map_eq_some_iff] at hv
      obtain ⟨⟨lo, hi, c⟩, hb, rfl⟩ := hv
      cases h3
      cases hx
      obtain ⟨m, r1, r2, r3, r4, _⟩ := bounds_run (P := P) (Γ := Γ) w false (c' := s.length) (Nat.le_refl _) (fun n e => by injection e) h1 h2 .none hb
      refine ⟨.string ((⟨s.toArray⟩ : ByteArray).extract lo hi), ?_, ?_⟩
      · simp only [Instr.sliceAt, Sem.run_bind, run_under hT hu, Result.andThen_ok, Instr.slice, Option.isSome_none, Bool.false_eq_true, if_false, Sem.run_pure]
        have hsz : (⟨s.toArray⟩ : ByteArray).size = s.length := by simp [ByteArray.size]
        simp only [hsz, r1, Result.andThen_ok, Sem.run_pure]
      · have : (⟨s.toArray⟩ : ByteArray).extract lo hi = ⟨((s.drop lo).take (hi - lo)).toArray⟩ := by
          apply ByteArray.ext
          simp [ByteArray.data_extract, List.extract_toArray]
        rw [this]
        exact .str _
    · cases hv
  · rename_i e hu
    simp only [Option.bind_eq_some_iff, Option.map_eq_some_iff] at hv
    obtain ⟨z, hz, ⟨lo, hi, c⟩, hb, rfl⟩ := hv
    cases hx
    obtain ⟨m, r1, r2, r3, r4, _⟩ := bounds_run (P := P) (Γ := Γ) w true (c' := 0) (Nat.le_refl _) (fun n e => by injection e) h1 h2 h3 hb
    refine ⟨.slice none 0 0, ?_, .nils⟩
    have e1 : m = 0 := by omega
    have e2 : hi = 0 := by omega
    have e3 : lo = 0 := by omega
    subst e1; subst e2; subst e3
    simp [Instr.sliceAt, run_under hT hu, Instr.slice, r1, run_size hT hz]
  · rename_i e id g off len cap hu
    simp only [Option.bind_eq_some_iff, Option.map_eq_some_iff] at hv
    obtain ⟨z, hz, ⟨lo, hi, c⟩, hb, rfl⟩ := hv
    cases hx with
    | sl hm hk =>
      rename_i c0 b r
      have hl : len ≤ c0 := by
        cases cap with
        | exact n => have := hk.1; have := hk.2; omega
        | opn => have := hk.1; have := hk.2.2; omega
        | unk => exact hk
      obtain ⟨m, r1, r2, r3, r4, r5⟩ := bounds_run (P := P) (Γ := Γ) w true hl (fun n e => by subst e; exact hk.1) h1 h2 h3 hb
      have := cutV_rel (Γ := Γ) (mk := .sl id g) (b := b) (s := 0) (off := off) (z := z) (fun off n cap c _ h => by simpa using VRel.sl hm (by simpa using h)) (by simpa using hk) r2 r3 r4 r5
      simp only [Nat.zero_add] at this
      refine ⟨_, ?_, this⟩
      simp only [Instr.sliceAt, Sem.run_bind, run_under hT hu, Result.andThen_ok, Instr.slice, r1, run_size hT hz, Sem.run_pure]
      congr 2
      split <;> simp
  · rename_i e cells off len cap hu
    simp only [Option.bind_eq_some_iff, Option.map_eq_some_iff] at hv
    obtain ⟨z, hz, ⟨lo, hi, c⟩, hb, rfl⟩ := hv
    cases hx with
    | fsl f hm hk hc hr =>
      rename_i c0 b s C
      have hl : len ≤ c0 := by
        cases cap with
        | exact n => have := hk.1; have := hk.2; omega
        | opn => have := hk.2.1; omega
        | unk => exact hk
      obtain ⟨m, r1, r2, r3, r4, r5⟩ := bounds_run (P := P) (Γ := Γ) w true hl (fun n e => by subst e; exact hk.1) h1 h2 h3 hb
      have hcap : cap ≠ .opn := by rintro rfl; have := hk.2.1; omega
      have hkk : CapOk cap c0 (s + off) len 0 := by
        cases cap with
        | exact n => exact hk
        | opn => exact absurd rfl hcap
        | unk => exact hk
      have := cutV_rel (Γ := Γ) (mk := .fsl cells) (b := b) (s := s) (off := off) (z := z) (fun off n cap0 c ho h => by
        refine VRel.fsl f hm ?_ hc hr
        cases cap0 with
        | exact n => exact h
        | opn => exact absurd (ho rfl) hcap
        | unk => exact h) hkk r2 r3 r4 r5
      refine ⟨_, ?_, this⟩
      simp only [Instr.sliceAt, Sem.run_bind, run_under hT hu, Result.andThen_ok, Instr.slice, r1, run_size hT hz, Sem.run_pure]
      congr 2
      split <;> simp
  · rename_i n e id g off hu
    simp only [Option.bind_eq_some_iff, Option.map_eq_some_iff] at hv
    obtain ⟨z, hz, ⟨lo, hi, c⟩, hb, rfl⟩ := hv
    cases hx with
    | ptr hm =>
      rename_i b r
      obtain ⟨m, r1, r2, r3, r4, r5⟩ := bounds_run (P := P) (Γ := Γ) w false (c' := n) (Nat.le_refl _) (fun k e => by injection e) h1 h2 h3 hb
      have := cutV_rel (Γ := Γ) (mk := .sl id g) (b := b) (s := 0) (off := off) (z := z) (cap := .exact n) (c' := n) (len := n) (room := r) (fun off n cap c _ h => by simpa using VRel.sl hm (by simpa using h)) ⟨rfl, Nat.le_refl _⟩ r2 r3 r4 r5
      simp only [Nat.zero_add] at this
      refine ⟨_, ?_, this⟩
      simp only [Instr.sliceAt, Sem.run_bind, run_under hT hu, Result.andThen_ok, Instr.sureAddr, r1, run_size hT hz, Sem.run_pure]
  · rename_i n e cells off hu
    simp only [Option.bind_eq_some_iff, Option.map_eq_some_iff] at hv
    obtain ⟨z, hz, ⟨lo, hi, c⟩, hb, rfl⟩ := hv
    cases hx with
    | fptr f hm hc hr =>
      rename_i b s C
      obtain ⟨m, r1, r2, r3, r4, r5⟩ := bounds_run (P := P) (Γ := Γ) w false (c' := n) (Nat.le_refl _) (fun k e => by injection e) h1 h2 h3 hb
      have := cutV_rel (Γ := Γ) (mk := .fsl cells) (b := b) (s := s) (off := off) (z := z) (cap := .exact n) (c' := n) (len := n) (room := 0) (fun off n cap0 c ho h => by
        refine VRel.fsl f hm ?_ hc hr
        cases cap0 with
        | exact n => exact h
        | opn => cases ho rfl
        | unk => exact h) ⟨rfl, Nat.le_refl _⟩ r2 r3 r4 r5
      refine ⟨_, ?_, this⟩
      simp only [Instr.sliceAt, Sem.run_bind, run_under hT hu, Result.andThen_ok, Instr.sureAddr, r1, run_size hT hz, Sem.run_pure]
  · cases hv
end
end Go.B
end
section
/- What an operation does in B it does in the model: append. -/
namespace Go.B
open Go Go.RowKit

theorem run_choose_cap {P : Program} (w : World) (need old : Nat) (e : TypeId) : ∃ c, need ≤ c ∧ (choose (.appendCap need old e)).run P w = .ok c w.drew := by
  refine ⟨need + w.tape w.drawn (.appendCap need old e) % (2 ^ 63 - need), Nat.le_add_right _ _, ?_⟩
  simp [Question.forced, Question.cut]

theorem growBy_le (newLen : Nat) : ∀ (r c : Nat), c ≤ newLen → Builtin.growBy newLen r c ≤ 2 * newLen + 1024
  | 0, c, h => by simp [Builtin.growBy]; omega
  | r + 1, c, h => by
    simp only [Builtin.growBy]
    split
    · omega
    · rename_i hlt
      by_cases h2 : c + (c + 768) / 4 ≤ newLen
      · exact growBy_le newLen r _ h2
      · cases r with
        | zero => simp [Builtin.growBy]; omega
        | succ r => simp only [Builtin.growBy]; rw [if_pos (by omega)]; omega

theorem nextcap_le {need old : Nat} (h : old < need) : Builtin.nextslicecap need old ≤ 2 * need + 1024 := by
  unfold Builtin.nextslicecap
  split
  · omega
  · split
    · omega
    · exact growBy_le _ _ _ (by omega)

section
variable {P : Program} {w0 : World} {T : Tab} {Γ : Ctx} {h : Heap} {w : World}

theorem lenV_run (w : World) {x : Val} {x' : Value} (hx : VRel Γ x x') {n : Nat} (hn : lenV x = some n) : (Builtin.lenOf x').run P w = .ok n w := by
  cases x <;> simp only [lenV, reduceCtorEq, Option.some.injEq] at hn <;> subst hn <;> cases hx <;> simp [Builtin.lenOf, ByteArray.size]

theorem elems_run (R : Rel w0 T Γ h w) {x : Val} {x' : Value} (hx : VRel Γ x x') {z n m : Nat} (hl : lenV x = some m) {cs : List Val} (hc : elemsV T h z n x = some cs) :
    ∃ vs : List Value, LRel Γ cs vs ∧ ∀ w1 : World, w1.heap = w.heap → (Builtin.firstCells z n x').run P w1 = .ok vs.toArray w1 := by
  unfold elemsV at hc
  split at hc
  · injection hc with hc; subst hc
    refine ⟨[], .nil, fun w1 _ => ?_⟩
    cases x <;> simp only [lenV, reduceCtorEq] at hl <;> cases hx <;> simp [Builtin.firstCells, loadCells, loadCellsFrom]
  · split at hc
    · rename_i s
      obtain ⟨_, hc⟩ := bif_some hc
      injection hc with hc; subst hc
      cases hx
      refine ⟨(s.take n).map fun b => .int .u8 b.toNat, F2.map (fun b => .int _ _) _, fun w1 _ => ?_⟩
      have : (⟨s.toArray⟩ : ByteArray).extract 0 n = ⟨(s.take n).toArray⟩ := by
        apply ByteArray.ext
        simp [ByteArray.data_extract, List.extract_toArray]
      simp [Builtin.firstCells, this]
    · split at hc
      · rename_i p hp
        obtain ⟨a, k, c, rfl, hr, _⟩ := base_rel hx hp
        obtain ⟨a', vs, ha, h1, h2, h3⟩ := read_rel R hr hc
        injection ha with ha; injection ha with ha; subst ha
        refine ⟨vs, h1, fun w1 hw => ?_⟩
        have := run_loadCells_list (P := P) w1 a vs (fun j v hj => by rw [← h3 j v hj]; simp [World.cell?, hw])
        rw [h2] at this
        simp [Builtin.firstCells, this]
      · cases hc

theorem lenS_lenV {x : Val} {n : Nat} (h : lenS x = some n) : lenV x = some n := by
  cases x <;> simp_all [lenS, lenV]

/-- What is known of the second argument's type. -/
inductive ArgKind (P : Program) (xt : Option TypeId) : Bool → Prop
  | none (h : xt = none) : ArgKind P xt false
  | some {t : TypeId} {d : TypeDesc} (h : xt = some t) (hu : ∀ w, (underlying t).run P w = .ok d w) (hd : ∀ k, d ≠ .int k) : ArgKind P xt false
  | int {t : TypeId} {k : IntKind} (h : xt = some t) (hu : ∀ w, (underlying t).run P w = .ok (.int k) w) : ArgKind P xt true

/-- How many elements are appended, and their cells, as the model finds them. -/
structure ArgRun (P : Program) (argTypes : Array TypeId) (e size n : Nat) (x' : Value) (vs : List Value) (w : World) (zeros : Bool) : Prop where
  kind : ArgKind P argTypes[1]? zeros
  plain : zeros = false → (Builtin.lenOf x').run P w = .ok n w ∧ ∀ w1 : World, w1.heap = w.heap → (Builtin.firstCells size n x').run P w1 = .ok vs.toArray w1
  made : zeros = true → x' = .int .i64 n ∧ n ≤ 68719476736 ∧ ∃ (i : TypeInfo) (z : Value), (∀ w, (typeInfo e).run P w = .ok i w) ∧ n * i.bytes ≤ 68719476736 ∧ (∀ w, (zeroValue e).run P w = .ok z w) ∧
    (if n * size = 0 then #[] else Builtin.zeroCells z.cells n) = vs.toArray

theorem wrap_small {n : Nat} (h : n ≤ 68719476736) : IntKind.i64.wrap (n : Int) = n := IntWalk.i64_in _ (by omega)

theorem append_in (w : World) {argTypes : Array TypeId} {ty : TypeId} {st e : TypeId} {size n len c : Nat} {base : Option Addr} {x' : Value} {vs : List Value} {w' : World} {zeros : Bool}
    (h0 : argTypes[0]? = some st) (hu : ∀ w, (underlying st).run P w = .ok (.slice e) w) (hs : ∀ w, (Go.sizeOf e).run P w = .ok size w) (hroom : len + n ≤ c)
    (hA : ArgRun P argTypes e size n x' vs w zeros)
    (hst : ∀ a, base = some a → (storeCells (a.add (len * size)) vs).run P w = .ok () w') (hst0 : base = none → w' = w) :
    (Builtin.append_ argTypes ty #[.slice base len c, x']).run P w = .ok (.slice base (len + n) c) w' := by
  unfold Builtin.append_
  cases zeros with
  | false =>
    obtain ⟨hn, hc⟩ := hA.plain rfl
    have hc := hc w rfl
    cases hA.kind with
    | none h1 =>
      simp only [h0, h1, List.getElem?_toArray, List.getElem?_cons_zero, List.getElem?_cons_succ, Sem.run_bind, hu, hs, Result.andThen_ok, Sem.run_pure]
      try simp only [Bool.false_eq_true, if_false]
      simp only [Sem.run_bind, hn, Result.andThen_ok]
      rw [if_pos hroom]
      simp only [Bool.not_false, if_true, Sem.run_bind, hc, Result.andThen_ok]
      cases base with
      | none => simp [hst0 rfl]
      | some a => simp [hst a rfl]
    | some h1 hux hd =>
      rename_i xt d
      simp only [h0, h1, List.getElem?_toArray, List.getElem?_cons_zero, List.getElem?_cons_succ]
      rw [Sem.run_bind, hu]
      simp only [Result.andThen_ok]
      rw [Sem.run_bind, hs]
      simp only [Result.andThen_ok]
      rw [Sem.run_bind, hux]
      simp only [Result.andThen_ok]
      rw [Sem.run_bind, Sem.run_pure]
      simp only [Result.andThen_ok]
      simp only [Bool.false_eq_true, if_false, Sem.run_bind, hn, Result.andThen_ok]
      rw [if_pos hroom]
      simp only [Bool.not_false, if_true, Sem.run_bind, hc, Result.andThen_ok]
      cases base with
      | none => simp [hst0 rfl]
      | some a => simp [hst a rfl]
  | true =>
    obtain ⟨rfl, hsm, i, z, hi, hb, hzv, hcs⟩ := hA.made rfl
    cases hA.kind with
    | int h1 hux =>
      simp only [h0, h1, List.getElem?_toArray, List.getElem?_cons_zero, List.getElem?_cons_succ, Sem.run_bind, hu, hux, hs, Result.andThen_ok, Sem.run_pure]
      simp only [if_true, Sem.run_bind, asInt, asIntOf, Sem.run_pure, Result.andThen_ok, wrap_small hsm]
      rw [if_neg (by omega)]
      simp only [Sem.run_bind, hi, Result.andThen_ok]
      rw [if_neg (by have : (n : Int) * (i.bytes : Int) = ((n * i.bytes : Nat) : Int) := by simp
                     rw [this]; omega)]
      simp only [Sem.run_bind, Sem.run_pure, Result.andThen_ok, Int.toNat_natCast]
      rw [if_pos hroom]
      have hcell : (if (!true) = true then Builtin.firstCells size n (.int .i64 n) else if n * size = 0 then pure #[] else do pure (Builtin.zeroCells (← zeroValue e).cells n) : Sem (Array Value)).run P w = .ok vs.toArray w := by
        rw [if_neg (by simp)]
        split
        · rename_i h00; rw [if_pos h00] at hcs; rw [← hcs]; rfl
        · rename_i h00; rw [if_neg h00] at hcs; simp [hzv, hcs]
      simp only [Sem.run_bind, hcell, Result.andThen_ok]
      cases base with
      | none => simp [hst0 rfl]
      | some a => simp [hst a rfl]

theorem append_new (w : World) {argTypes : Array TypeId} {ty : TypeId} {st e : TypeId} {size n len c : Nat} {base : Option Addr} {x' : Value} {vs os : List Value} {zeros : Bool} {i : TypeInfo} {z : Value}
    (h0 : argTypes[0]? = some st) (hu : ∀ w, (underlying st).run P w = .ok (.slice e) w) (hs : ∀ w, (Go.sizeOf e).run P w = .ok size w) (hroom : c < len + n)
    (hi : ∀ w, (typeInfo e).run P w = .ok i w) (hz : ∀ w, (zeroValue e).run P w = .ok z w) (hby : (len + n) * i.bytes ≤ 68719476736) (hsm : len + n ≤ 68719476736)
    (hA : ArgRun P argTypes e size n x' vs w zeros)
    (ho : ∀ w1 : World, w1.heap = w.heap → (Builtin.firstCells size len (.slice base len c)).run P w1 = .ok os.toArray w1) :
    ∃ (cap : Nat) (w1 : World) (rest : Array Value), len + n ≤ cap ∧ rest = Builtin.zeroCells z.cells (cap - (len + n)) ∧ w1.heap = w.heap ∧ w1.os = w.os ∧ w1.tape = w.tape ∧ w1.output = w.output ∧
      (Builtin.append_ argTypes ty #[.slice base len c, x']).run P w = .ok (.slice (some ⟨w.heap.size, 0, none⟩) (len + n) cap) (w1.alloc (.cells (os.toArray ++ vs.toArray ++ rest) e)) := by
  obtain ⟨cap, hcap, hch⟩ := run_choose_cap (P := P) w (len + n) c e
  refine ⟨cap, w.drew, _, hcap, rfl, rfl, rfl, rfl, rfl, ?_⟩
  have hnext : Builtin.nextslicecap (len + n) c * i.bytes ≤ 2 ^ 48 := by
    have h1 := nextcap_le hroom
    have h2 : Builtin.nextslicecap (len + n) c * i.bytes ≤ (2 * (len + n) + 1024) * i.bytes := Nat.mul_le_mul_right _ h1
    have h3 : i.bytes ≤ (len + n) * i.bytes := Nat.le_mul_of_pos_left _ (by omega)
    have h4 : (2 * (len + n) + 1024) * i.bytes = 2 * ((len + n) * i.bytes) + 1024 * i.bytes := by rw [Nat.add_mul, Nat.mul_assoc]
    omega
  unfold Builtin.append_
  cases zeros with
  | false =>
    obtain ⟨hn, hc⟩ := hA.plain rfl
    have hc := hc w.drew rfl
    have ho := ho w.drew rfl
    cases hA.kind with
    | none h1 =>
      simp only [h0, h1, List.getElem?_toArray, List.getElem?_cons_zero, List.getElem?_cons_succ, Sem.run_bind, hu, hs, Result.andThen_ok, Sem.run_pure]
      try simp only [Bool.false_eq_true, if_false]
      simp only [Sem.run_bind, hn, Result.andThen_ok]
      rw [if_neg (by omega)]
      simp only [Sem.run_bind, hi, Result.andThen_ok]
      rw [if_neg (by rintro ⟨h, _⟩; simp at h; omega)]
      simp only [Sem.run_bind, hi, Result.andThen_ok]
      rw [if_neg (by omega)]
      simp only [Sem.run_bind, hch, Result.andThen_ok, hi, run_askRoom, ho, Bool.not_false, if_true, hc, hz, Go.newRow, run_newObj, Sem.run_pure, World.alloc_eq]
      rfl
    | some h1 hux hd =>
      rename_i xt d
      simp only [h0, h1, List.getElem?_toArray, List.getElem?_cons_zero, List.getElem?_cons_succ]
      rw [Sem.run_bind, hu]
      simp only [Result.andThen_ok]
      rw [Sem.run_bind, hs]
      simp only [Result.andThen_ok]
      rw [Sem.run_bind, hux]
      simp only [Result.andThen_ok]
      rw [Sem.run_bind, Sem.run_pure]
      simp only [Result.andThen_ok]
      simp only [Bool.false_eq_true, if_false, Sem.run_bind, hn, Result.andThen_ok]
      rw [if_neg (by omega)]
      simp only [Sem.run_bind, hi, Result.andThen_ok]
      rw [if_neg (by rintro ⟨h, _⟩; simp at h; omega)]
      simp only [Sem.run_bind, hi, Result.andThen_ok]
      rw [if_neg (by omega)]
      simp only [Sem.run_bind, hch, Result.andThen_ok, hi, run_askRoom, ho, Bool.not_false, if_true, hc, hz, Go.newRow, run_newObj, Sem.run_pure, World.alloc_eq]
      rfl
  | true =>
    obtain ⟨rfl, hsm', i', z', hi', hb, hzv, hcs⟩ := hA.made rfl
    have hii : i' = i := by have := (hi' w).symm.trans (hi w); injection this
    have hzz : z' = z := by have := (hzv w).symm.trans (hz w); injection this
    subst hii; subst hzz
    have ho := ho w.drew rfl
    cases hA.kind with
    | int h1 hux =>
      simp only [h0, h1, List.getElem?_toArray, List.getElem?_cons_zero, List.getElem?_cons_succ, Sem.run_bind, hu, hux, hs, Result.andThen_ok, Sem.run_pure]
      simp only [if_true, Sem.run_bind, asInt, asIntOf, Sem.run_pure, Result.andThen_ok, wrap_small hsm']
      rw [if_neg (by omega)]
      simp only [Sem.run_bind, hi, Result.andThen_ok]
      rw [if_neg (by have : (n : Int) * (i'.bytes : Int) = ((n * i'.bytes : Nat) : Int) := by simp
                     rw [this]; omega)]
      simp only [Sem.run_bind, Sem.run_pure, Result.andThen_ok, Int.toNat_natCast]
      rw [if_neg (by omega)]
      simp only [Sem.run_bind, hi, Result.andThen_ok]
      rw [if_neg (by rintro ⟨h, _⟩; simp at h; omega)]
      simp only [Sem.run_bind, hi, Result.andThen_ok]
      rw [if_neg (by omega)]
      have hcell : (if (!true) = true then Builtin.firstCells size n (.int .i64 n) else if n * size = 0 then pure #[] else do pure (Builtin.zeroCells (← zeroValue e).cells n) : Sem (Array Value)).run P w.drew = .ok vs.toArray w.drew := by
        rw [if_neg (by simp)]
        split
        · rename_i h00; rw [if_pos h00] at hcs; rw [← hcs]; rfl
        · rename_i h00; rw [if_neg h00] at hcs; simp [hzv, hcs]
      simp only [Sem.run_bind, hch, Result.andThen_ok, hi, run_askRoom, ho, hcell, hz, Go.newRow, run_newObj, Sem.run_pure, World.alloc_eq]
      rfl
end
end Go.B
end
