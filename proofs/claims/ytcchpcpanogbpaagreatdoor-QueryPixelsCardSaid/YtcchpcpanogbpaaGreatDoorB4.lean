/- A part of the proof that scrim/scrimlaw21.QueryPixels returns true at every input. -/
import Derived.Test.YtcchpcpanogbpaaGreatDoorB3
import Derived.Laws.BytesString
import Derived.Laws.StructEq
import Derived.ChangeKeysEq
set_option linter.unusedSimpArgs false
set_option linter.unusedVariables false
section
/- What an operation does in B it does in the model: append, joined; copy, make. -/
namespace Go.B
open Go Go.RowKit

theorem room_le {n b : Nat} (h : room n b = true) : n * b ≤ 68719476736 := Nat.le_of_ble_eq_true h

section
variable {P : Program} {w0 : World} {T : Tab} {Γ : Ctx} {h : Heap} {w : World}

theorem run_bytes (hT : TabOk P T) {e : TypeId} {b : Nat} (h : bytesOf T e = some b) : ∃ i, i.bytes = b ∧ ∀ w, (typeInfo e).run P w = .ok i w := by
  simp only [bytesOf, Option.map_eq_some_iff] at h
  obtain ⟨i, h1, h2⟩ := h
  exact ⟨i, h2, fun w => run_info hT h1 w⟩

theorem zeroCells_eq (z : Array Value) (n : Nat) : Builtin.zeroCells z n = (Array.range (n * z.size)).map (fun i => z[i % z.size]!) := rfl

theorem readCells_length {p : Val} {n : Nat} {cs : List Val} (hr : readCells T h p n = some cs) : cs.length = n := by
  unfold readCells at hr
  split at hr
  · split at hr
    · obtain ⟨_, hr⟩ := bif_some hr; exact (cut_eq hr).2
    · cases hr
  · exact (cut_eq hr).2
  · split at hr
    · exact (cut_eq hr).2
    · cases hr
  · cases hr

theorem elems_length {z n : Nat} {x : Val} {cs : List Val} (hc : elemsV T h z n x = some cs) : cs.length = n * z := by
  unfold elemsV at hc
  split at hc
  · injection hc with hc; subst hc; simp
  · split at hc
    · obtain ⟨hb, hc⟩ := bif_some hc
      simp only [Bool.and_eq_true] at hb
      have h1 := nat_beq_eq hb.1
      have h2 := Nat.le_of_ble_eq_true hb.2
      injection hc with hc; subst hc; subst h1
      simp; omega
    · split at hc
      · exact readCells_length hc
      · cases hc

theorem argV_length {e z bytes : Nat} {xt : Option TypeId} {x : Val} {n : Nat} {new : List Val} (ha : argV T h e z bytes xt x = some (n, new)) : new.length = n * z := by
  unfold argV at ha
  split at ha
  · cases ha
  · split at ha
    · simp only [Option.bind_eq_some_iff] at ha
      obtain ⟨zero, hz, ha⟩ := ha
      obtain ⟨hc, ha⟩ := bif_some ha
      injection ha with ha; injection ha with q1 q2; subst q1; subst q2
      simp only [Bool.and_eq_true] at hc
      rw [repeat_length, nat_beq_eq hc.2]
    · cases ha
  · simp only [Option.bind_eq_some_iff, Option.map_eq_some_iff] at ha
    obtain ⟨m, hm, cs, hcs, hq⟩ := ha
    injection hq with q1 q2; subst q1; subst q2
    exact elems_length hcs

theorem argV_run (hT : TabOk P T) (R : Rel w0 T Γ h w) {argTypes : Array TypeId} {e z bytes : Nat} (hb : bytesOf T e = some bytes) {x : Val} {x' : Value} (hx : VRel Γ x x') {n : Nat} {new : List Val}
    (ha : argV T h e z bytes argTypes[1]? x = some (n, new)) : ∃ vs zeros, LRel Γ new vs ∧ ArgRun P argTypes e z n x' vs w zeros := by
  have plain : (lenV x).bind (fun n => (elemsV T h z n x).map fun cs => (n, cs)) = some (n, new) → ArgKind P argTypes[1]? false → ∃ vs zeros, LRel Γ new vs ∧ ArgRun P argTypes e z n x' vs w zeros := by
    intro hq hk
    simp only [Option.bind_eq_some_iff, Option.map_eq_some_iff] at hq
    obtain ⟨m, hm, cs, hcs, hq⟩ := hq
    injection hq with q1 q2; subst q1; subst q2
    obtain ⟨vs, h1, h2⟩ := elems_run (P := P) R hx hm hcs
    exact ⟨vs, false, h1, { kind := hk, plain := fun _ => ⟨lenV_run w hx hm, h2⟩, made := fun h => (by cases h) }⟩
  unfold argV at ha
  split at ha
  · cases ha
  · rename_i k hk
    simp only [Option.map_eq_some_iff] at hk
    obtain ⟨xt, h1, h2⟩ := hk
    split at ha
    · rename_i m
      simp only [Option.bind_eq_some_iff] at ha
      obtain ⟨zero, hz, ha⟩ := ha
      obtain ⟨hc, ha⟩ := bif_some ha
      injection ha with ha; injection ha with q1 q2; subst q1; subst q2
      simp only [Bool.and_eq_true] at hc
      obtain ⟨⟨hc1, hc2⟩, hc3⟩ := hc
      have hc3 := nat_beq_eq hc3
      obtain ⟨z', r1, r2, r3⟩ := run_zero hT hz
      obtain ⟨i, hi, hi2⟩ := run_bytes hT hb
      have hzc := (r2 Γ).cells (ofValue_alive r3)
      have hzl := hzc.length
      simp only [Array.length_toList] at hzl
      cases hx
      refine ⟨_, true, repeat_rel hzc m (m * z) (by rw [hc3]), { kind := .int h1 (fun w => run_under hT h2 w), plain := fun h => (by cases h), made := fun _ => ⟨rfl, Nat.le_of_ble_eq_true hc2, i, z', hi2, by rw [hi]; exact room_le hc1, r1, ?_⟩ }⟩
      rw [zeroCells_eq, ← hzl, hc3]
      split
      · rename_i h00; simp [h00]
      · apply Array.ext'; simp
    · cases ha
  · rename_i o hno hnn
    refine plain ha ?_
    cases hq : argTypes[1]? with
    | none => exact .none rfl
    | some xt =>
      cases hu : T.under xt with
      | none => exact (hno (by rw [hq]; simp [hu])).elim
      | some d => exact .some rfl (fun w => run_under hT hu w) (fun k e => hnn k (by rw [hq]; simp [hu, e]))

theorem fresh_sound (hT : TabOk P T) (R : Rel w0 T Γ h w) {argTypes : Array TypeId} {ty st e z bytes : Nat} (h0 : argTypes[0]? = some st) (hu : T.under st = some (.slice e)) (hz : sizeOf T e = some z) (hb : bytesOf T e = some bytes)
    {s : Val} {base : Option Addr} {len c : Nat} (hs : VRel Γ s (.slice base len c)) (hl : lenS s = some len) {n : Nat} (hc : c < len + n) {x' : Value} {vs : List Value} {zeros : Bool} {new : List Val} (hnew : LRel Γ new vs) (hnl : new.length = n * z)
    (hA : ArgRun P argTypes e z n x' vs w zeros) {v : Val} {h' : Heap} (hv : freshV T h e z bytes len s n new = some (v, h')) (hf : Fresh Γ h.next h'.next) :
    ∃ Δ v' w' D, (Builtin.append_ argTypes ty #[.slice base len c, x']).run P w = .ok v' w' ∧ VRel Δ v v' ∧ Adv w0 T Γ h w Δ h' w' D := by
  unfold freshV at hv
  simp only [Option.bind_eq_some_iff] at hv
  obtain ⟨zero, hzz, hv⟩ := hv
  obtain ⟨hcond, hv⟩ := bif_some hv
  simp only [Option.map_eq_some_iff] at hv
  obtain ⟨old, hold, hv⟩ := hv
  injection hv with q1 q2; subst q1; subst q2
  simp only [Bool.and_eq_true] at hcond
  obtain ⟨⟨hc1, hc2⟩, hc3⟩ := hcond
  have hc3 := nat_beq_eq hc3
  obtain ⟨z', r1, r2, r3⟩ := run_zero hT hzz
  obtain ⟨i, hi, hi2⟩ := run_bytes hT hb
  have hzc := (r2 Γ).cells (ofValue_alive r3)
  have hzl := hzc.length
  simp only [Array.length_toList] at hzl
  obtain ⟨os, ho1, ho2⟩ := elems_run (P := P) R hs (lenS_lenV hl) hold
  obtain ⟨cap, w1, rest, a1, a2, a3, a4, a5, a6, a7⟩ := append_new (P := P) w (ty := ty) h0 (fun w => run_under hT hu w) (fun w => run_size hT hz w) hc hi2 r1 (by rw [hi]; exact room_le hc1) (Nat.le_of_ble_eq_true hc2) hA ho2
  have hrel : LRel Γ (old ++ new) (os ++ vs) := ho1.append hnew
  have hlen := hrel.length
  have hrest : rest.size = (cap - (len + n)) * z := by rw [a2, zeroCells_eq]; simp only [Array.size_map, Array.size_range]; rw [← hzl, hc3]
  have hn : (old ++ new).length = (len + n) * z := by
    have h1 : old.length = len * z := elems_length hold
    simp [h1, hnl, Nat.add_mul]
  refine ⟨_, _, _, _, a7, .sl (Ctx.add_same _ _ _ (w.heap.size, cap)) ⟨rfl, rfl, a1⟩,
    Adv.alloc R hf (.row (old ++ new) 0 true 0 z e false) cap (.cells (os.toArray ++ vs.toArray ++ rest) e) a3 a4 a5 a6 fun Δ hle => ?_⟩
  have hw : (w1.alloc (.cells (os.toArray ++ vs.toArray ++ rest) e)).heap[w.heap.size]? = some (.cells (os.toArray ++ vs.toArray ++ rest) e) := by
    have := heap_alloc_new w1 (.cells (os.toArray ++ vs.toArray ++ rest) e)
    rwa [a3] at this
  refine ⟨os.toArray ++ vs.toArray ++ rest, (0, 0), { heap := hw, fits := ?_, shut := fun h => (by cases h), opens := fun _ => ?_, rel := ?_, free := fun i _ _ h => (by simp at h), head := fun _ => .inl rfl }⟩
  · simp at hlen ⊢; omega
  · have : (os.toArray ++ vs.toArray ++ rest).size = (os ++ vs).length + rest.size := by simp
    rw [this, ← hlen, hn, hrest, ← Nat.add_mul]
    congr 1
    omega
  · have : (os.toArray ++ vs.toArray ++ rest).toList.take (old ++ new).length = os ++ vs := by
      have e : (os.toArray ++ vs.toArray ++ rest).toList = (os ++ vs) ++ rest.toList := by simp
      rw [e, hlen, List.take_left]
    rw [this]
    exact LRel.mono hle hrel

theorem isCell_all {l : List Val} (h : l.all Val.isCell = true) : l.all Val.isCell = true := h

theorem grow_sound (hT : TabOk P T) (R : Rel w0 T Γ h w) {argTypes : Array TypeId} {ty st e z bytes : Nat} (h0 : argTypes[0]? = some st) (hu : T.under st = some (.slice e)) (hz : sizeOf T e = some z) (hb : bytesOf T e = some bytes)
    {id g len c b r : Nat} (hm : Γ.mu id g = some (b, r)) (hk : c = r ∧ len ≤ r) {n : Nat} (hpos : 0 < n) {x' : Value} {vs : List Value} {zeros : Bool} {new : List Val} (hnew : LRel Γ new vs) (hnl : new.length = n * z)
    (hA : ArgRun P argTypes e z n x' vs w zeros) {v : Val} {h' : Heap} (hv : growV T h e z bytes len id g n new = some (v, h')) :
    ∃ Δ v' w' D, (Builtin.append_ argTypes ty #[.slice (some ⟨b, 0, none⟩) len c, x']).run P w = .ok v' w' ∧ VRel Δ v v' ∧ Adv w0 T Γ h w Δ h' w' D := by
  obtain ⟨rfl, hlr⟩ := hk
  unfold growV at hv
  split at hv
  · rename_i cells g' fz z' e' st' hg
    simp only [Option.bind_eq_some_iff] at hv
    obtain ⟨zero, hzz, hv⟩ := hv
    obtain ⟨hcond, hv⟩ := bif_some hv
    simp only [Option.map_eq_some_iff] at hv
    obtain ⟨old, hold, hv⟩ := hv
    injection hv with q1 q2; subst q1; subst q2
    simp only [Bool.and_eq_true] at hcond
    obtain ⟨⟨⟨⟨⟨⟨⟨c1, c2⟩, c3⟩, c4⟩, c5⟩, c6⟩, c7⟩, c8⟩ := hcond
    have c1 := nat_beq_eq c1
    have c2 := nat_beq_eq c2
    have c3 := nat_beq_eq c3
    have c4 := Nat.le_of_ble_eq_true c4
    have c6 := Nat.le_of_ble_eq_true c6
    have c7 := nat_beq_eq c7
    subst c1; subst c2; subst c3
    obtain ⟨C, fr, hrow⟩ := R.blk id _ _ hg hm
    obtain ⟨hold1, hold2⟩ := cut_eq hold
    simp only [List.drop_zero] at hold1
    have hopen := hrow.opens rfl
    simp only at hopen
    have hfits := hrow.fits
    have hlz : len * z ≤ cells.length := by rw [hold1] at hold2; simp at hold2; omega
    have hvl := hnew.length
    have holdrel : LRel Γ old (C.toList.take (len * z)) := by
      rw [hold1]
      have := hrow.rel.take (len * z)
      rwa [List.take_take, Nat.min_eq_left hlz] at this
    have hol : old.length = len * z := hold2
    by_cases hfit : len + n ≤ c
    · -- where it is
      have hmul : (len + n) * z ≤ c * z := Nat.mul_le_mul_right _ hfit
      rw [Nat.add_mul] at hmul
      have hst := run_storeCells_free (P := P) b (len * z) e fr vs 0 C w hrow.heap (fun j h1 h2 => hrow.free j (by omega) h2) (by omega) (oneCell_of hnew c8)
      simp only [Nat.add_zero] at hst
      have hadd : (⟨b, 0, none⟩ : Addr).add (len * z) = ⟨b, len * z, none⟩ := by unfold Addr.add; split <;> simp_all
      have happ := append_in (P := P) w (ty := ty) (base := some ⟨b, 0, none⟩) (vs := vs) h0 (fun w => run_under hT hu w) (fun w => run_size hT hz w) hfit hA (w' := w.setRow b (C.toList.take (len * z) ++ vs ++ C.toList.drop (len * z + vs.length)).toArray)
        (fun a ha => by injection ha with ha; subst ha; rw [hadd]; exact hst) (fun h => by cases h)
      refine ⟨Γ.add id (g + 1) (b, c), _, _, [(id, none)], happ, .sl (Ctx.add_same _ _ _ (b, c)) ⟨rfl, rfl, hfit⟩, ?_⟩
      have hsz : (C.toList.take (len * z) ++ vs ++ C.toList.drop (len * z + vs.length)).toArray.size = C.size := by simp; omega
      refine Adv.bump R (b := .row cells g true fz z e st') (b' := .row (old ++ new) (g + 1) true fz z e st') hg hm rfl (fun k _ hk => setRow_other w b k _ hk) (by rw [setRow_size]; exact Nat.le_refl _) rfl rfl rfl (.inl rfl)
        (fun Δ hle => ⟨_, fr, { heap := setRow_heap w b C _ e fr hrow.heap, fits := ?_, shut := fun h => (by cases h), opens := fun _ => (by rw [hsz]; exact hopen), rel := ?_, free := fun i h1 h2 => (by rw [hsz] at h2; exact hrow.free i h1 h2), head := hrow.head }⟩) rfl (fun i => by rw [get_put, hg]; rfl) rfl
      · rw [hsz]; simp only [List.length_append]; omega
      · have : (C.toList.take (len * z) ++ vs ++ C.toList.drop (len * z + vs.length)).take (old ++ new).length = C.toList.take (len * z) ++ vs := by
          rw [List.take_append_of_le_length (by simp; omega), List.take_of_length_le (by simp; omega)]
        simp only [this]
        exact LRel.mono hle (holdrel.append hnew)
    · -- elsewhere
      obtain ⟨zz, r1, r2, r3⟩ := run_zero hT hzz
      obtain ⟨i, hi, hi2⟩ := run_bytes hT hb
      have hzc := (r2 Γ).cells (ofValue_alive r3)
      have hzl := hzc.length
      simp only [Array.length_toList] at hzl
      have hfirst : ∀ w1 : World, w1.heap = w.heap → (Builtin.firstCells z len (.slice (some ⟨b, 0, none⟩) len c)).run P w1 = .ok (C.toList.take (len * z)).toArray w1 := fun w1 hw1 => by
        have := run_loadCells_list (P := P) w1 ⟨b, 0, none⟩ (C.toList.take (len * z)) (fun j v hj => by
          have hw : w1.heap[b]? = some (.cells C e fr) := by rw [hw1]; exact hrow.heap
          rw [cell_at hw]
          simp only [List.getElem?_take] at hj
          split at hj
          · simpa using hj
          · cases hj)
        rw [show (C.toList.take (len * z)).length = len * z by simp; omega] at this
        simp [Builtin.firstCells, this]
      obtain ⟨cap, w1, rest, a1, a2, a3, a4, a5, a6, a7⟩ := append_new (P := P) w (ty := ty) (base := some ⟨b, 0, none⟩) (os := C.toList.take (len * z)) h0 (fun w => run_under hT hu w) (fun w => run_size hT hz w) (by omega : c < len + n) hi2 r1 (by rw [hi]; exact room_le c5) c6 hA hfirst
      have hrest : rest.size = (cap - (len + n)) * z := by rw [a2, zeroCells_eq]; simp only [Array.size_map, Array.size_range]; rw [← hzl, c7]
      have hrel : LRel Γ (old ++ new) (C.toList.take (len * z) ++ vs) := holdrel.append hnew
      have hlen := hrel.length
      have hn : (old ++ new).length = (len + n) * z := by simp only [List.length_append, hol, hnl, Nat.add_mul]
      have hs1 : w1.heap.size = w.heap.size := by rw [a3]
      refine ⟨Γ.add id (g + 1) (w.heap.size, cap), _, w1.alloc (.cells ((C.toList.take (len * z)).toArray ++ vs.toArray ++ rest) e), [(id, none)], a7, .sl (Ctx.add_same _ _ _ (w.heap.size, cap)) ⟨rfl, rfl, a1⟩, ?_⟩
      refine Adv.bump (w' := w1.alloc (.cells ((C.toList.take (len * z)).toArray ++ vs.toArray ++ rest) e)) R (b := .row cells g true fz z e st') (b' := .row (old ++ new) (g + 1) true fz z e st') hg hm rfl (fun k hk _ => by rw [Below.heap_alloc _ _ _ (by omega), a3]) (by simp [hs1]) a4 a5 a6 (.inr (Nat.le_refl _))
        (fun Δ hle => ⟨(C.toList.take (len * z)).toArray ++ vs.toArray ++ rest, (0, 0), { heap := ?_, fits := ?_, shut := fun h => (by cases h), opens := fun _ => ?_, rel := ?_, free := fun i _ _ h => (by simp at h), head := fun _ => .inl rfl }⟩) rfl (fun i => by rw [get_put, hg]; rfl) rfl
      · have := heap_alloc_new w1 (.cells ((C.toList.take (len * z)).toArray ++ vs.toArray ++ rest) e)
        rwa [a3] at this
      · simp at hlen ⊢; omega
      · have : ((C.toList.take (len * z)).toArray ++ vs.toArray ++ rest).size = (C.toList.take (len * z) ++ vs).length + rest.size := by simp
        rw [this, ← hlen, hn, hrest, ← Nat.add_mul]
        congr 1
        omega
      · have : ((C.toList.take (len * z)).toArray ++ vs.toArray ++ rest).toList.take (old ++ new).length = C.toList.take (len * z) ++ vs := by
          have e : ((C.toList.take (len * z)).toArray ++ vs.toArray ++ rest).toList = (C.toList.take (len * z) ++ vs) ++ rest.toList := by simp
          rw [e, hlen, List.take_left]
        rw [this]
        exact LRel.mono hle hrel
  · cases hv

theorem append_sound (hT : TabOk P T) (R : Rel w0 T Γ h w) {argTypes : Array TypeId} {ty : TypeId} {s x : Val} {s' x' : Value} (hs : VRel Γ s s') (hx : VRel Γ x x') {v : Val} {h' : Heap}
    (hv : appendV T h argTypes s x = some (v, h')) (hf : Fresh Γ h.next h'.next) :
    ∃ Δ v' w' D, (Builtin.append_ argTypes ty #[s', x']).run P w = .ok v' w' ∧ VRel Δ v v' ∧ Adv w0 T Γ h w Δ h' w' D := by
  unfold appendV at hv
  split at hv
  · rename_i e hst
    simp only [Option.bind_eq_some_iff] at hst hv
    obtain ⟨st, h0, hu⟩ := hst
    obtain ⟨z, hz, bytes, hb, len, hl, r, harg, hv⟩ := hv
    obtain ⟨n, new⟩ := r
    obtain ⟨vs, zeros, hnew, hA⟩ := argV_run (P := P) hT R hb hx harg
    have hnl := argV_length harg
    cases n with
    | zero =>
      injection hv with hv; injection hv with q1 q2; subst q1; subst q2
      have hvs : vs = [] := by
        rw [Nat.zero_mul] at hnl
        have := List.eq_nil_of_length_eq_zero hnl
        subst this
        exact hnew.nil_left
      subst hvs
      have key : ∀ base c, s' = .slice base len c → len ≤ c → ∃ Δ v' w' D, (Builtin.append_ argTypes ty #[s', x']).run P w = .ok v' w' ∧ VRel Δ s v' ∧ Adv w0 T Γ h w Δ h w' D := by
        rintro base c rfl hlc
        have := append_in (P := P) w (ty := ty) (base := base) h0 (fun w => run_under hT hu w) (fun w => run_size hT hz w) (by omega : len + 0 ≤ c) hA (w' := w) (fun a _ => rfl) (fun _ => rfl)
        exact ⟨Γ, _, w, [], this, hs, Adv.refl R⟩
      cases s <;> simp only [lenS, reduceCtorEq, Option.some.injEq] at hl
      · subst hl; cases hs; exact key _ _ rfl (Nat.le_refl _)
      · subst hl
        rename_i cap
        cases hs with
        | sl hm hk =>
          refine key _ _ rfl ?_
          cases cap with
          | exact n => have := hk.1; have := hk.2; omega
          | opn => have := hk.1; have := hk.2.2; omega
          | unk => exact hk
      · subst hl
        rename_i cap
        cases hs with
        | fsl f hm hk hc hr =>
          refine key _ _ rfl ?_
          cases cap with
          | exact n => have := hk.1; have := hk.2; omega
          | opn => have := hk.2.1; omega
          | unk => exact hk
      · subst hl; cases hs; exact key _ _ rfl (Nat.zero_le _)
    | succ n =>
      simp only at hv
      split at hv
      · simp only [lenS, Option.some.injEq] at hl
        subst hl
        cases hs
        exact fresh_sound hT R h0 hu hz hb .nils rfl (by omega) hnew hnl hA hv hf
      · rename_i id g off len' c
        simp only [lenS, Option.some.injEq] at hl
        subst hl
        cases hs with
        | sl hm hk =>
          obtain ⟨rfl, hlc⟩ := hk
          rename_i c b r
          cases hq : Nat.ble (len' + (n + 1)) c with
          | true =>
            rw [hq] at hv
            simp only [cond_true, Option.map_eq_some_iff] at hv
            obtain ⟨h1, hw, hv⟩ := hv
            injection hv with q1 q2; subst q1; subst q2
            have hroom := Nat.le_of_ble_eq_true hq
            obtain ⟨a, w', id', off', ha, hst, hadv⟩ := write_run (P := P) R (VRel.ptr (off := off + len' * z) hm) hnew hw
            injection ha with ha; injection ha with ha; subst ha
            have hadd : (⟨b, off, none⟩ : Addr).add (len' * z) = ⟨b, off + len' * z, none⟩ := by unfold Addr.add; split <;> simp_all
            have := append_in (P := P) w (ty := ty) (base := some ⟨b, off, none⟩) h0 (fun w => run_under hT hu w) (fun w => run_size hT hz w) hroom hA (w' := w')
              (fun a ha => by injection ha with ha; subst ha; rw [hadd]; exact hst) (fun h => by cases h)
            exact ⟨Γ, _, w', _, this, .sl hm ⟨rfl, hroom⟩, hadv⟩
          | false =>
            rw [hq] at hv
            have hroom : c < len' + (n + 1) := by
              rcases Nat.lt_or_ge c (len' + (n + 1)) with h | h
              · exact h
              · rw [Nat.ble_eq_true_of_le h] at hq; cases hq
            exact fresh_sound hT R h0 hu hz hb (VRel.sl (cap := .exact c) hm ⟨rfl, hlc⟩) rfl hroom hnew hnl hA hv hf
      · rename_i id g len'
        simp only [lenS, Option.some.injEq] at hl
        subst hl
        cases hs with
        | sl hm hk => exact grow_sound hT R h0 hu hz hb hm ⟨hk.1, hk.2.2⟩ (Nat.succ_pos _) hnew hnl hA hv
      · rename_i cells off len' c
        simp only [lenS, Option.some.injEq] at hl
        subst hl
        cases hs with
        | fsl f hm hk hc hr =>
          obtain ⟨rfl, hlc⟩ := hk
          rename_i c b s C
          cases hq : Nat.ble (len' + (n + 1)) c with
          | true => rw [hq] at hv; cases hv
          | false =>
            rw [hq] at hv
            have hroom : c < len' + (n + 1) := by
              rcases Nat.lt_or_ge c (len' + (n + 1)) with h | h
              · exact h
              · rw [Nat.ble_eq_true_of_le h] at hq; cases hq
            exact fresh_sound hT R h0 hu hz hb (VRel.fsl (cap := .exact c) f hm ⟨rfl, hlc⟩ hc hr) rfl hroom hnew hnl hA hv hf
      · cases hv
  · cases hv
end
end Go.B
end
section
/- What an operation does in B it does in the model: copy, make, conversions. -/
namespace Go.B
open Go Go.RowKit

section
variable {P : Program} {w0 : World} {T : Tab} {Γ : Ctx} {h : Heap} {w : World}

theorem copy_sound (hT : TabOk P T) (R : Rel w0 T Γ h w) {argTypes : Array TypeId} {ty : TypeId} {d s : Val} {d' s' : Value} (hd : VRel Γ d d') (hs : VRel Γ s s') {v : Val} {h' : Heap} (hv : copyV T h argTypes d s = some (v, h')) :
    ∃ v' w' D, (Builtin.copy_ argTypes ty #[d', s']).run P w = .ok v' w' ∧ VRel Γ v v' ∧ Adv w0 T Γ h w Γ h' w' D := by
  unfold copyV at hv
  simp only [Option.bind_eq_some_iff] at hv
  obtain ⟨dt, h0, hv⟩ := hv
  split at hv
  · rename_i e hu
    simp only [Option.bind_eq_some_iff] at hv
    obtain ⟨z, hz, dn, hdn, sn, hsn, hv⟩ := hv
    have key : ∀ (db : Option Addr) (dc : Nat) (cs : List Value) (w' : World), d' = .slice db dn dc → (Builtin.firstCells z (Nat.min sn dn) s').run P w = .ok cs.toArray w →
        (∀ a, db = some a → (storeCells a cs).run P w = .ok () w') → (db = none → w' = w) → (Builtin.copy_ argTypes ty #[d', s']).run P w = .ok (.int .i64 (Nat.min sn dn : Nat)) w' := by
      rintro db dc cs w' rfl hc hst hst0
      unfold Builtin.copy_
      simp only [h0, List.getElem?_toArray, List.getElem?_cons_zero, List.getElem?_cons_succ, Sem.run_bind, run_under hT hu, Result.andThen_ok, lenV_run w hs hsn, run_size hT hz, hc]
      cases db with
      | none => simp [hst0 rfl, goInt]
      | some a => simp [hst a rfl, goInt]
    have dshape : ∃ db dc, d' = .slice db dn dc := by
      cases d <;> simp only [lenS, reduceCtorEq, Option.some.injEq] at hdn <;> subst hdn <;> cases hd <;> exact ⟨_, _, rfl⟩
    obtain ⟨db, dc, rfl⟩ := dshape
    split at hv
    · rename_i hmin
      injection hv with hv; injection hv with q1 q2; subst q1; subst q2
      have hq : elemsV T h z 0 s = some [] := rfl
      obtain ⟨vs, h1, h2⟩ := elems_run (P := P) R hs hsn hq
      have := h1.nil_left; subst this
      have h2 := h2 w rfl
      have := key db dc [] w rfl (by rw [hmin]; exact h2) (fun a _ => rfl) (fun _ => rfl)
      rw [hmin] at this
      exact ⟨_, w, [], this, .int _ _, Adv.refl R⟩
    · simp only [Option.bind_eq_some_iff, Option.map_eq_some_iff] at hv
      obtain ⟨cs, hcs, p, hp, h1, hw, hv⟩ := hv
      injection hv with q1 q2; subst q1; subst q2
      obtain ⟨vs, r1, r2⟩ := elems_run (P := P) R hs hsn hcs
      obtain ⟨a, k, c, ha, hr, _⟩ := base_rel hd hp
      injection ha with ha1 ha2 ha3; subst ha1
      obtain ⟨a', w', id, off, hb, hst, hadv⟩ := write_run (P := P) R hr r1 hw
      injection hb with hb; injection hb with hb; subst hb
      exact ⟨_, w', _, key _ dc vs w' rfl (r2 w rfl) (fun a ha => by injection ha with ha; subst ha; exact hst) (fun h => by cases h), .int _ _, hadv⟩
  · cases hv

theorem makeSlice_sound (hT : TabOk P T) (R : Rel w0 T Γ h w) {t : TypeId} {l c : Val} {l' c' : Value} (hl : VRel Γ l l') (hc : VRel Γ c c') {v : Val} {h' : Heap} (hv : makeSliceV T h t l c = some (v, h')) (hf : Fresh Γ h.next h'.next) :
    ∃ Δ v' w' D, (Instr.makeSlice t l' c').run P w = .ok v' w' ∧ VRel Δ v v' ∧ Adv w0 T Γ h w Δ h' w' D := by
  unfold makeSliceV at hv
  split at hv
  · rename_i e kl l kc c hu
    simp only [Option.bind_eq_some_iff] at hv
    obtain ⟨z, hz, bytes, hb, zero, hzz, hv⟩ := hv
    obtain ⟨hcond, hv⟩ := bif_some hv
    injection hv with hv; injection hv with q1 q2; subst q1; subst q2
    simp only [Bool.and_eq_true] at hcond
    obtain ⟨⟨⟨c1, c2⟩, c3⟩, c4⟩ := hcond
    have c1 := Nat.le_of_ble_eq_true c1
    have c2 := Nat.le_of_ble_eq_true c2
    have c3 := room_le c3
    have c4 := nat_beq_eq c4
    obtain ⟨zz, r1, r2, r3⟩ := run_zero hT hzz
    obtain ⟨i, hi, hi2⟩ := run_bytes hT hb
    have hzc := (r2 Γ).cells (ofValue_alive r3)
    have hzl := hzc.length
    simp only [Array.length_toList] at hzl
    have hrep := repeat_rel hzc c (c * z) (by rw [c4])
    cases hl
    cases hc
    have hcells : ((Array.range (c * z)).map (fun i => (if c * z = 0 then #[] else zz.cells)[i % (if c * z = 0 then #[] else zz.cells).size]!)) = (Array.range (c * z)).map (fun i => zz.cells[i % zz.cells.size]!) := by
      by_cases h00 : c * z = 0
      · simp [h00]
      · simp [h00]
    refine ⟨_, .slice (some ⟨w.heap.size, 0, none⟩) l c, w.alloc (.cells ((Array.range (c * z)).map (fun i => zz.cells[i % zz.cells.size]!)) e), _, ?_, .sl (Ctx.add_same _ _ _ _) ⟨rfl, c1⟩,
      Adv.alloc R hf (.row (repeatCells zero.cells c) 0 false 0 z e false) 0 (.cells ((Array.range (c * z)).map (fun i => zz.cells[i % zz.cells.size]!)) e) rfl rfl rfl rfl fun Δ hle =>
        ⟨_, (0, 0), { heap := heap_alloc_new w _, fits := ?_, shut := fun _ => ?_, opens := fun h => (by cases h), rel := ?_, free := fun i _ _ h => (by simp at h), head := fun _ => .inl rfl }⟩⟩
    · unfold Instr.makeSlice
      simp only [Sem.run_bind, run_under hT hu, Result.andThen_ok, asInt, asIntOf, Sem.run_pure, hi2, Int.ofNat_eq_natCast, wrap_small (show l ≤ 68719476736 by omega), wrap_small c2, hi]
      have hcb : (bytes : Int) * (c : Int) ≤ 68719476736 := by
        have : (bytes : Int) * (c : Int) = ((c * bytes : Nat) : Int) := by rw [Nat.mul_comm]; simp
        rw [this]; omega
      have hnot : ¬ (((decide ((c : Int) < 0) || decide ((bytes : Int) * (c : Int) > 2 ^ 48)) || decide ((l : Int) < 0) || decide ((l : Int) > (c : Int))) = true) := by
        simp only [Bool.or_eq_true, decide_eq_true_eq]
        omega
      rw [if_neg hnot]
      simp only [Sem.run_bind, run_askRoom, Result.andThen_ok, Int.toNat_natCast, run_size hT hz]
      by_cases h00 : c * z = 0
      · simp only [h00, if_true, Sem.run_pure, Result.andThen_ok, Go.newRow, Sem.run_bind, run_newObj, World.alloc_eq]
        congr 3
        simp
      · simp only [h00, if_false, Sem.run_bind, r1, Sem.run_pure, Result.andThen_ok, Go.newRow, run_newObj, World.alloc_eq]
    · rw [repeat_length]; simp [c4]
    · rw [repeat_length]; simp [c4]
    · rw [List.take_of_length_le (by rw [repeat_length]; simp [c4])]
      exact LRel.mono hle hrep
  · cases hv

theorem asBytes_rel : ∀ {cs : List Val} {vs : List Value} {s : List UInt8}, LRel Γ cs vs → asBytes cs = some s → ∃ ns : List Int, vs = ns.map (fun n => .int .u8 n) ∧ s = ns.map (fun n => UInt8.ofNat n.toNat)
  | [], _, s, .nil, h => by
    simp only [asBytes, Option.some.injEq] at h; subst h
    exact ⟨[], rfl, rfl⟩
  | c :: cs, _, s, .cons hv t, h => by
    unfold asBytes at h
    split at h
    · cases ‹_ :: _ = []›
    · rename_i n l he
      injection he with e1 e2; subst e1; subst e2
      simp only [Option.map_eq_some_iff] at h
      obtain ⟨r, hr, rfl⟩ := h
      obtain ⟨ns, h1, h2⟩ := asBytes_rel t hr
      cases hv
      exact ⟨n :: ns, by simp [h1], by simp [h2]⟩
    · cases h

theorem push_bytes (ns : List Int) (acc : ByteArray) : ns.foldl (fun r n => r.push (UInt8.ofNat n.toNat)) acc = ⟨acc.data ++ (ns.map (fun n => UInt8.ofNat n.toNat)).toArray⟩ := by
  induction ns generalizing acc with
  | nil => simp
  | cons n ns ih =>
    simp only [List.foldl_cons, ih, List.map_cons]
    apply ByteArray.ext
    simp [ByteArray.push]
end
end Go.B
end
section
/- What an operation does in B it does in the model: conversions. -/
namespace Go.B
open Go Go.RowKit

section
variable {P : Program} {w0 : World} {T : Tab} {Γ : Ctx} {h : Heap} {w : World}

theorem alloc_freeze (w : World) (c : Array Value) (e : TypeId) (n : Nat) : (w.alloc (.cells c e)).freeze ⟨w.heap.size, n, none⟩ 1 = w.alloc (.cells c e (n, n + 1)) := by
  unfold World.freeze
  rw [if_neg (by omega)]
  have : (w.heap.push (.cells c e)).modify w.heap.size (fun
      | .cells c elem (lo, hi) => .cells c elem (if lo == hi then (n, n + 1) else (min lo n, max hi (n + 1)))
      | o => o) = w.heap.push (.cells c e (n, n + 1)) := by
    apply Array.ext_getElem?
    intro i
    rw [Array.getElem?_modify, Array.getElem?_push, Array.getElem?_push]
    by_cases hi : i = w.heap.size
    · subst hi; simp
    · simp [hi, Ne.symm hi]
  exact congrArg (fun hp => ({ w with heap := hp } : World)) this

def strRow (s : List UInt8) (cap : Nat) : Array Value := (s.map fun b => Value.int .u8 b.toNat).toArray ++ Array.replicate (cap - s.length) (.int .u8 0)

theorem shape_of {b : Nat} {C : Array Value} {e : TypeId} {fr : Nat × Nat} (hw : w.heap[b]? = some (.cells C e fr)) : w.shape? b = some (e, C.size) := by
  simp [World.shape?, hw]

theorem lenS_shape {x : Val} {x' : Value} (hx : VRel Γ x x') {n : Nat} (hn : lenS x = some n) : ∃ a c, x' = .slice a n c := by
  cases x <;> simp only [lenS, reduceCtorEq, Option.some.injEq] at hn <;> subst hn <;> cases hx <;> exact ⟨_, _, rfl⟩

theorem conv_sound (hT : TabOk P T) (R : Rel w0 T Γ h w) {src dst : TypeId} {x : Val} {x' : Value} (hx : VRel Γ x x') {v : Val} {h' : Heap} (hv : convV T h src dst x = some (v, h')) (hf : Fresh Γ h.next h'.next) :
    ∃ Δ v' w' D, (convert src dst x').run P w = .ok v' w' ∧ VRel Δ v v' ∧ Adv w0 T Γ h w Δ h' w' D := by
  unfold convV at hv
  split at hv
  · rename_i k0 k k1 n hs hd
    injection hv with hv; injection hv with q1 q2; subst q1; subst q2
    cases hx
    exact ⟨Γ, _, w, [], by simp [convert, run_under hT hs, run_under hT hd, Conv.intToInt], .int _ _, Adv.refl R⟩
  · rename_i s hs hd
    injection hv with hv; injection hv with q1 q2; subst q1; subst q2
    cases hx
    exact ⟨Γ, _, w, [], by simp [convert, run_under hT hs, run_under hT hd], .str _, Adv.refl R⟩
  · rename_i e i g o hs hd
    split at hv
    · rename_i cells g' o' fz sz el st n hg hn
      obtain ⟨hc, hv⟩ := bif_some hv
      injection hv with hv; injection hv with q1 q2; subst q1; subst q2
      simp only [Bool.and_eq_true] at hc
      have hc1 := nat_beq_eq hc.1
      subst hc1
      have hc2 : o < cells.length := by simpa using hc.2
      cases hx with
      | ptr hm =>
        rename_i b r
        obtain ⟨C, fr, hrow⟩ := R.blk i _ _ hg hm
        have hfits := hrow.fits
        have hsh := shape_of hrow.heap
        simp only at hsh
        refine ⟨Γ, _, w, [], ?_, .ptr hm, Adv.refl R⟩
        have hlt : ¬ C.size ≤ o := by omega
        simp [convert, run_under hT hs, run_under hT hd, Conv.unsafePointer, Conv.seenAt, viewAt, hsh, cellsIn, run_size hT hn, hlt]
    · cases hv
  · rename_i u i g hs hd
    split at hv
    · rename_i cells g' fz sz el st n hg hn
      obtain ⟨hc, hv⟩ := bif_some hv
      injection hv with hv; injection hv with q1 q2; subst q1; subst q2
      simp only [Bool.and_eq_true] at hc
      obtain ⟨⟨⟨c1, c2⟩, c3⟩, c4⟩ := hc
      have c1 := nat_beq_eq c1
      have c2 := nat_beq_eq c2
      have c3 := nat_beq_eq c3
      subst c1; subst c2
      cases hx with
      | ptr hm =>
        rename_i b r
        obtain ⟨C, fr, hrow⟩ := R.blk i _ _ hg hm
        have hsz := hrow.shut rfl
        have hsh := shape_of hrow.heap
        simp only at hsh
        have hself := hT.self _ c4
        have hcells : P.cellsOf el = n + 1 := by
          simp only [sizeOf, Option.map_eq_some_iff] at hn
          obtain ⟨inf, h1, h2⟩ := hn
          simp [Program.cellsOf, hT.info _ _ h1, h2]
        have hdiv : C.size / P.cellsOf el = 1 := by rw [hcells, hsz, c3]; exact Nat.div_self (Nat.succ_pos _)
        refine ⟨Γ, _, w, [], ?_, .ptr hm, Adv.refl R⟩
        simp [convert, run_under hT hs, run_under hT hd, Conv.unsafePointer, Conv.seenAt, viewAt, hsh, run_size hT hn, variablesAt, hdiv, hself]
    · cases hv
  · rename_i e s hs hd
    split at hv
    · rename_i he
      obtain ⟨hc, hv⟩ := bif_some hv
      injection hv with hv; injection hv with q1 q2; subst q1; subst q2
      cases hx
      obtain ⟨cap, hcap, hch⟩ := run_choose_cap (P := P) w s.length 0 e
      have hrel : LRel Γ (s.map fun b => Val.int .u8 b.toNat) (s.map fun b => Value.int .u8 b.toNat) := F2.map (fun b => .int _ _) _
      have hC : (strRow s cap).size = cap := by simp [strRow]; omega
      refine ⟨Γ.add h.next 0 (w.heap.size, cap), .slice (some ⟨w.heap.size, 0, none⟩) s.length cap, w.drew.alloc (.cells (strRow s cap) e (cap, cap + 1)), [], ?_,
        .sl (Ctx.add_same _ _ _ (w.heap.size, cap)) ⟨rfl, rfl, hcap⟩,
        Adv.alloc (w1 := w.drew) R hf (.row (s.map fun b => .int .u8 b.toNat) 0 true 0 1 e true) cap _ rfl rfl rfl rfl fun Δ hle => ⟨strRow s cap, (cap, cap + 1), { heap := heap_alloc_new w.drew _, fits := ?_, shut := fun h => (by cases h), opens := fun _ => ?_, rel := ?_, free := ?_, head := fun h => (by cases h) }⟩⟩
      · have hsz : (⟨s.toArray⟩ : ByteArray).size = s.length := by simp [ByteArray.size]
        have hal : w.drew.heap.size = w.heap.size := rfl
        have hrow : (⟨s.toArray⟩ : ByteArray).data.map (fun b => Value.int .u8 b.toNat) ++ Array.replicate (cap - s.length) (.int .u8 0) = strRow s cap := by simp [strRow]
        simp only [convert, Sem.run_bind, run_under hT hs, run_under hT hd, run_under hT he, Result.andThen_ok, Conv.stringToBytes, hsz, hch, hrow, Go.newRow, run_newObj, Sem.run_pure, World.alloc_eq, markStringish, run_shape]
        rw [shape_of (heap_alloc_new w.drew _)]
        simp only [hC, run_freeze, Result.andThen_ok]
        rw [alloc_freeze]
        simp only [hal]
      · rw [hC]; simpa using hcap
      · rw [hC]; simp
      · have : (strRow s cap).toList.take (s.map fun b => Val.int .u8 b.toNat).length = s.map fun b => Value.int .u8 b.toNat := by simp [strRow]
        rw [this]
        exact LRel.mono hle hrel
      · intro i _ h2
        rw [hC] at h2
        simp; omega
    · cases hv
  · rename_i x e hs hd
    split at hv
    · rename_i he
      simp only [Option.bind_eq_some_iff, Option.map_eq_some_iff] at hv
      obtain ⟨n, hn, cs, hcs, s, hsb, hv⟩ := hv
      injection hv with q1 q2; subst q1; subst q2
      obtain ⟨vs, h1, h2⟩ := elems_run (P := P) R hx (lenS_lenV hn) hcs
      obtain ⟨ns, rfl, rfl⟩ := asBytes_rel h1 hsb
      have h2 := h2 w rfl
      obtain ⟨a, c, rfl⟩ := lenS_shape hx hn
      refine ⟨Γ, _, w, [], ?_, .str _, Adv.refl R⟩
      rw [run_convert_bytes_string w src dst e a n c (hT.under _ _ hs) (hT.under _ _ he) (hT.under _ _ hd)]
      cases a with
      | none =>
        simp only [Builtin.firstCells, Sem.run_pure] at h2
        injection h2 with h2
        have : ns = [] := by
          have := congrArg Array.toList h2
          simp at this
          exact this
        subst this
        simp [Conv.bytesToString]
        rfl
      | some a =>
        simp only [Builtin.firstCells, Nat.mul_one] at h2
        rw [run_bytesToString w a n c ns h2, push_bytes]
        simp
    · cases hv
  · cases hv
end
end Go.B
end
section
/- What an operation does in B it does in the model: what is computed of values. -/
namespace Go.B
open Go Go.RowKit

theorem bytes_beq (a b : List UInt8) : ((⟨a.toArray⟩ : ByteArray) == ⟨b.toArray⟩) = (a == b) := by
  rw [beq_toListBytes, ByteArray.toList_eq, ByteArray.toList_eq]

section
variable {P : Program} {w0 : World} {T : Tab} {Γ : Ctx} {h : Heap} {w : World}

theorem eqFields_run (hT : TabOk P T) (w : World) {d : Nat} {eq : TypeId → Val → Val → Option Bool} (heq : ∀ t x y x' y' r, VRel Γ x x' → VRel Γ y y' → eq t x y = some r → (Op.equalIn d t x' y').run P w = .ok r w)
    {xs ys : List Val} {xs' ys' : Array Value} (hx : LRel Γ xs xs'.toList) (hy : LRel Γ ys ys'.toList) : ∀ {fs : List Field} {r : Bool}, eqFieldsV T eq xs ys fs = some r → (Op.eqFields d xs' ys' fs).run P w = .ok r w
  | [], r, h => by simp only [eqFieldsV, Option.some.injEq] at h; subst h; rfl
  | f :: fs, r, h => by
    simp only [eqFieldsV] at h
    simp only [Op.eqFields]
    split at h
    · rename_i hn
      rw [if_neg (by simp [hn])]
      exact eqFields_run hT w heq hx hy h
    · rename_i hn
      simp only [Option.bind_eq_some_iff] at h
      obtain ⟨a, ha, b, hb, q, hq, h⟩ := h
      obtain ⟨a', r1, r2⟩ := part_run hT w hx ha
      obtain ⟨b', r3, r4⟩ := part_run hT w hy hb
      rw [if_pos (by simpa using hn)]
      simp only [Sem.run_bind, r1, r3, heq _ _ _ _ _ _ r2 r4 hq, Result.andThen_ok]
      cases q with
      | true =>
        simp only [if_true] at h
        simpa using eqFields_run hT w heq hx hy h
      | false => simp at h; subst h; simp

theorem eqItems_run (hT : TabOk P T) (w : World) {d e : Nat} {eq : Val → Val → Option Bool} (heq : ∀ x y x' y' r, VRel Γ x x' → VRel Γ y y' → eq x y = some r → (Op.equalIn d e x' y').run P w = .ok r w)
    {xs ys : List Val} {xs' ys' : Array Value} (hx : LRel Γ xs xs'.toList) (hy : LRel Γ ys ys'.toList) {n : Nat} : ∀ {is : List Nat} {r : Bool}, eqItemsV T eq e n xs ys is = some r → (Op.eqItems d e n xs' ys' is).run P w = .ok r w
  | [], r, h => by simp only [eqItemsV, Option.some.injEq] at h; subst h; rfl
  | i :: is, r, h => by
    simp only [eqItemsV, Option.bind_eq_some_iff] at h
    obtain ⟨a, ha, b, hb, q, hq, h⟩ := h
    obtain ⟨a', r1, r2⟩ := part_run hT w hx ha
    obtain ⟨b', r3, r4⟩ := part_run hT w hy hb
    simp only [Op.eqItems, Sem.run_bind, r1, r3, heq _ _ _ _ _ r2 r4 hq, Result.andThen_ok]
    cases q with
    | true =>
      simp only [if_true] at h
      simpa using eqItems_run hT w heq hx hy h
    | false => simp at h; subst h; simp

theorem someP_rel {x : Val} {x' : Value} (hx : VRel Γ x x') {b : Bool} (h : someP x = some b) : ∃ a : Option Addr, x' = .pointer a ∧ a.isSome = b := by
  cases x <;> simp only [someP, reduceCtorEq, Option.some.injEq] at h <;> subst h <;> cases hx <;> exact ⟨_, rfl, rfl⟩

theorem someS_rel {x : Val} {x' : Value} (hx : VRel Γ x x') {b : Bool} (h : someS x = some b) : ∃ (a : Option Addr) (n c : Nat), x' = .slice a n c ∧ a.isSome = b := by
  cases x <;> simp only [someS, reduceCtorEq, Option.some.injEq] at h <;> subst h <;> cases hx <;> exact ⟨_, _, _, rfl, rfl⟩

theorem someM_rel {x : Val} {x' : Value} (hx : VRel Γ x x') {b : Bool} (h : someM x = some b) : ∃ a : Option Nat, x' = .map a ∧ a.isSome = b := by
  cases x <;> simp only [someM, reduceCtorEq, Option.some.injEq] at h <;> subst h <;> cases hx <;> exact ⟨_, rfl, rfl⟩

theorem someF_rel {x : Val} {x' : Value} (hx : VRel Γ x x') {b : Bool} (h : someF x = some b) : (b = false ∧ x' = .nilFunc) ∨ (b = true ∧ ∃ f a c, x' = .func f a c) := by
  cases x <;> simp only [someF, reduceCtorEq, Option.some.injEq] at h <;> subst h <;> cases hx
  · exact .inr ⟨rfl, _, _, _, rfl⟩
  · exact .inr ⟨rfl, _, _, _, rfl⟩
  · exact .inr ⟨rfl, _, _, _, rfl⟩
  · exact .inl ⟨rfl, rfl⟩

theorem nilEqV_eq {a b : Option Bool} {r : Bool} (h : nilEqV a b = some r) : (a = some false ∧ b = some (!r)) ∨ (a = some true ∧ b = some false ∧ r = false) := by
  unfold nilEqV at h
  split at h
  · injection h with h; subst h; exact .inl ⟨rfl, by simp⟩
  · injection h with h; exact .inr ⟨rfl, rfl, h.symm⟩
  · cases h

theorem eq_run (hT : TabOk P T) (w : World) : ∀ (d : Nat) (c : Bool) (t : TypeId) (x y : Val) (x' y' : Value) (r : Bool), VRel Γ x x' → VRel Γ y y' → eqV T c d t x y = some r → ∀ D, (Op.equalIn (D + d) t x' y').run P w = .ok r w
  | 0, _, _, _, _, _, _, _, _, _, h, _ => by simp [eqV] at h
  | d + 1, c, t, x, y, x', y', r, hx, hy, h, D => by
    have ih := eq_run hT w d
    rw [← Nat.add_assoc]
    unfold eqV at h
    split at h
    · rename_i a b hu
      injection h with h; subst h; cases hx; cases hy
      simp [Op.equalIn, run_under hT hu]
    · rename_i k0 k a k' b hu
      split at h
      · rename_i hk
        injection h with h; subst h; subst hk; cases hx; cases hy
        simp [Op.equalIn, run_under hT hu]
      · cases h
    · rename_i a b hu
      injection h with h; subst h; cases hx; cases hy
      simp [Op.equalIn, run_under hT hu, bytes_beq]
    · rename_i e x y hu
      rcases nilEqV_eq h with ⟨h1, h2⟩ | ⟨h1, h2, rfl⟩
      · obtain ⟨a, rfl, ha⟩ := someP_rel hx h1
        obtain ⟨b, rfl, hb⟩ := someP_rel hy h2
        cases a <;> simp at ha
        simp [Op.equalIn, run_under hT hu]
        cases b <;> simp_all
      · obtain ⟨a, rfl, ha⟩ := someP_rel hx h1
        obtain ⟨b, rfl, hb⟩ := someP_rel hy h2
        cases a <;> simp at ha
        cases b <;> simp at hb
        simp [Op.equalIn, run_under hT hu]
    · rename_i ms hu
      obtain ⟨_, h⟩ := bif_some h
      injection h with h; subst h; cases hx; cases hy
      simp [Op.equalIn, run_under hT hu]
    · rename_i ms tx vx hu
      injection h with h; subst h; cases hx; cases hy
      simp [Op.equalIn, run_under hT hu]
    · rename_i ms tx vx hu
      injection h with h; subst h; cases hx; cases hy
      simp [Op.equalIn, run_under hT hu]
    · rename_i ms tx vx ty vy hu
      cases hx with
      | ifc hx =>
        cases hy with
        | ifc hy =>
          split at h
          · rename_i ht
            subst ht
            simp only [Option.bind_eq_some_iff] at h
            obtain ⟨i, hi, h⟩ := h
            obtain ⟨hc, h⟩ := bif_some h
            simp [Op.equalIn, run_under hT hu, run_info hT hi, hc, ih _ _ _ _ _ _ _ hx hy h D]
          · rename_i ht
            injection h with h; subst h
            simp [Op.equalIn, run_under hT hu, ht]
    · rename_i fields xs ys hu
      obtain ⟨hc, h⟩ := bif_some h
      obtain ⟨X, rfl, hX⟩ := VRel.agg_iff.1 hx
      obtain ⟨Y, rfl, hY⟩ := VRel.agg_iff.1 hy
      have hf : P.fieldsOf t = fields := by simp [Program.fieldsOf, hT.under _ _ hu]
      rw [run_equalIn_struct w (D + d) t X Y (by rw [hf]; exact hT.under _ _ hu) (hT.eqOk t hc).2, hf]
      exact eqFields_run hT w (fun t x y x' y' r hx hy h => ih _ _ _ _ _ _ _ hx hy h D) hX hY h
    · rename_i len e xs ys hu
      obtain ⟨hc, h⟩ := bif_some h
      simp only [Option.bind_eq_some_iff] at h
      obtain ⟨n, hn, h⟩ := h
      obtain ⟨X, rfl, hX⟩ := VRel.agg_iff.1 hx
      obtain ⟨Y, rfl, hY⟩ := VRel.agg_iff.1 hy
      simp only [sizeOf, Option.map_eq_some_iff] at hn
      obtain ⟨i, hi, rfl⟩ := hn
      have hcell : P.cellsOf e = i.size := by simp [Program.cellsOf, hT.info _ _ hi]
      rw [run_equalIn_array w (D + d) X Y (hT.under _ _ hu) (hT.info _ _ hi), hcell]
      exact eqItems_run hT w (fun x y x' y' r hx hy h => ih _ _ _ _ _ _ _ hx hy h D) hX hY h
    · rename_i e x y hu
      rcases nilEqV_eq h with ⟨h1, h2⟩ | ⟨h1, h2, rfl⟩
      · obtain ⟨a, n, c, rfl, ha⟩ := someS_rel hx h1
        obtain ⟨b, m, c', rfl, hb⟩ := someS_rel hy h2
        cases a <;> simp at ha
        simp [Op.equalIn, run_under hT hu]
        cases b <;> simp_all
      · obtain ⟨a, n, c, rfl, ha⟩ := someS_rel hx h1
        obtain ⟨b, m, c', rfl, hb⟩ := someS_rel hy h2
        cases a <;> simp at ha
        cases b <;> simp at hb
        simp [Op.equalIn, run_under hT hu]
    · rename_i k e x y hu
      rcases nilEqV_eq h with ⟨h1, h2⟩ | ⟨h1, h2, rfl⟩
      · obtain ⟨a, rfl, ha⟩ := someM_rel hx h1
        obtain ⟨b, rfl, hb⟩ := someM_rel hy h2
        cases a <;> simp at ha
        simp [Op.equalIn, run_under hT hu]
        cases b <;> simp_all
      · obtain ⟨a, rfl, ha⟩ := someM_rel hx h1
        obtain ⟨b, rfl, hb⟩ := someM_rel hy h2
        cases a <;> simp at ha
        cases b <;> simp at hb
        simp [Op.equalIn, run_under hT hu]
    · rename_i ps rs v x y hu
      rcases nilEqV_eq h with ⟨h1, h2⟩ | ⟨h1, h2, rfl⟩
      · rcases someF_rel hx h1 with ⟨_, rfl⟩ | ⟨h3, _⟩
        · rcases someF_rel hy h2 with ⟨h4, rfl⟩ | ⟨h4, f, a, c, rfl⟩
          · simp at h4; subst h4
            simp [Op.equalIn, run_under hT hu]
          · simp at h4; subst h4
            simp [Op.equalIn, run_under hT hu]
        · cases h3
      · rcases someF_rel hx h1 with ⟨h3, _⟩ | ⟨_, f, a, c, rfl⟩
        · cases h3
        · rcases someF_rel hy h2 with ⟨_, rfl⟩ | ⟨h4, _⟩
          · simp [Op.equalIn, run_under hT hu]
          · cases h4
    · cases h
end
end Go.B
end
