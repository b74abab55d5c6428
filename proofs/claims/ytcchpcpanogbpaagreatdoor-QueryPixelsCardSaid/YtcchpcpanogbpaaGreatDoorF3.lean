/- A part of the proof that scrim/scrimlaw21.QueryPixels returns true at every input. -/
import Derived.Test.YtcchpcpanogbpaaGreatDoorF2
section
/- Operations of 'F' are B's: all. -/
namespace Go.B
open Go

section
variable {h h' : Heap} {v : Val}

theorem binF_ok {T : Tab} {op : BinOp} {t : TypeId} {c : Bool} {x y : Val} (q : binF T op t c x y h = .ok v h') : binV T op t x y c = some v ∧ h' = h := by
  unfold binF at q
  rcases asNm_ok x with e | ⟨k, a, e, rfl⟩
  · rw [e] at q; exact nfR_ok q
  · rw [e] at q
    rcases asNm_ok y with e2 | ⟨k', b, e2, rfl⟩
    · rw [e2] at q; exact nfR_ok q
    · rw [e2] at q
      have q : Bool.rec (motive := fun _ => Res) (nfR h (binV T op t (.int k a) (.int k' b) c)) (intF op k a b h) (Nat.beq (kindN k) (kindN k')) = .ok v h' := q
      cases hk : Nat.beq (kindN k) (kindN k') with
      | false => rw [hk] at q; exact nfR_ok q
      | true =>
        rw [hk] at q
        have := kindN_inj hk
        subst this
        have q : intF op k a b h = .ok v h' := q
        cases op
        all_goals
          have h1 := intF_ok q
          simp only [isShift, Bool.false_eq_true, if_false, if_true] at h1
          simp only [binV, if_true]
          exact h1

theorem moveF_ok {off : Nat} {p : Val} (q : moveF off h p = .ok v h') : B.move p off = some v ∧ h' = h := by
  unfold moveF at q
  rcases asAd_ok p with e | ⟨i, g, o, e, rfl⟩ | ⟨c, o, e, rfl⟩ | ⟨g, o, e, rfl⟩ <;> rw [e] at q <;> cases q <;> exact ⟨rfl, rfl⟩

theorem asSl_ok (x : Val) : asSl x = .no ∨ (∃ i g o n c, asSl x = .sl i g o n ∧ x = .sl i g o n c) ∨ (∃ cs o n c, asSl x = .fsl cs o n ∧ x = .fsl cs o n c) := by
  cases x <;> first
    | exact .inl rfl
    | exact .inr (.inl ⟨_, _, _, _, _, rfl, rfl⟩)
    | exact .inr (.inr ⟨_, _, _, _, rfl, rfl⟩)

theorem natF_ok {x : Val} {k : Nat → Res} (q : natF x k = .ok v h') : ∃ kd m, x = .int kd (.ofNat m) ∧ k m = .ok v h' := by
  unfold natF at q
  rcases asNm_ok x with e | ⟨kd, a, e, rfl⟩
  · rw [e] at q; cases q
  · rw [e] at q
    cases a with
    | ofNat m => exact ⟨kd, m, rfl, q⟩
    | negSucc m => cases q

theorem blt_of_ble {a b : Nat} (q : Nat.ble (a + 1) b = true) : Nat.blt a b = true := q

theorem cIdxAddr_ok {C : Conf} {x i : Gt} {t : TypeId} {e : Tr} (q : cIdxAddr C x i t e h = .ok v h') : indexAddrV C.tab t (x e) (i e) = some v ∧ h' = h := by
  unfold cIdxAddr at q
  unfold indexAddrV
  cases hu : C.tab.under t with
  | none => rw [hu] at q; cases q
  | some d =>
    rw [hu] at q
    cases d <;> first | (cases q; done) | skip
    case array len el =>
      cases hz : sizeOf C.tab el with
      | none => simp only [hz] at q; cases q
      | some z =>
        simp only [hz] at q
        obtain ⟨kd, m, hi, q⟩ := natF_ok q
        rw [hi]
        cases hb : Nat.ble (m + 1) len with
        | false =>
          have q : Bool.rec (motive := fun _ => Res) .no (moveF (m * z) h (x e)) (Nat.ble (m + 1) len) = .ok v h' := q
          rw [hb] at q; cases q
        | true =>
          have q : Bool.rec (motive := fun _ => Res) .no (moveF (m * z) h (x e)) (Nat.ble (m + 1) len) = .ok v h' := q
          rw [hb] at q
          have := moveF_ok q
          simp only [blt_of_ble hb, cond_true, hz]
          exact this
    case slice el =>
      cases hz : sizeOf C.tab el with
      | none => simp only [hz] at q; cases q
      | some z =>
        simp only [hz] at q
        obtain ⟨kd, m, hi, q⟩ := natF_ok q
        rw [hi]
        rcases asSl_ok (x e) with e1 | ⟨id, g, o, n, c, e1, e2⟩ | ⟨cs, o, n, c, e1, e2⟩
        · rw [e1] at q; cases q
        · rw [e1] at q
          rw [e2]
          cases hb : Nat.ble (m + 1) n with
          | false =>
            have q : Bool.rec (motive := fun _ => Res) .no (Res.ok (.ptr id g (o + m * z)) h) (Nat.ble (m + 1) n) = .ok v h' := q
            rw [hb] at q; cases q
          | true =>
            have q : Bool.rec (motive := fun _ => Res) .no (Res.ok (.ptr id g (o + m * z)) h) (Nat.ble (m + 1) n) = .ok v h' := q
            rw [hb] at q
            cases q
            simp only [lenV, base, blt_of_ble hb, cond_true, B.move, hz]
            exact ⟨trivial, trivial⟩
        · rw [e1] at q
          rw [e2]
          cases hb : Nat.ble (m + 1) n with
          | false =>
            have q : Bool.rec (motive := fun _ => Res) .no (Res.ok (.fptr cs (o + m * z)) h) (Nat.ble (m + 1) n) = .ok v h' := q
            rw [hb] at q; cases q
          | true =>
            have q : Bool.rec (motive := fun _ => Res) .no (Res.ok (.fptr cs (o + m * z)) h) (Nat.ble (m + 1) n) = .ok v h' := q
            rw [hb] at q
            cases q
            simp only [lenV, base, blt_of_ble hb, cond_true, B.move, hz]
            exact ⟨trivial, trivial⟩

theorem overlay_length : ∀ (cells : List Val) (off : Nat) (vs : List Val), (overlay cells off vs).length = cells.length
  | [], _, [] => by simp [overlay]
  | [], _, _ :: _ => by simp [overlay]
  | x :: l, 0, [] => by simp [overlay]
  | x :: l, n + 1, [] => by simp [overlay]
  | x :: l, 0, v :: vs => by simp [overlay, overlay_length l 0 vs]
  | x :: l, n + 1, v :: vs => by simp [overlay, overlay_length l n (v :: vs)]

theorem fillK_ok {place : Nat → Option (Nat × Nat)} : ∀ {l : List (Nat × Val)} {cs : List Val} {k : List Val → Res}, fillK place l cs k = .ok v h' → ∃ cs', fillV place cs l = some cs' ∧ k cs' = .ok v h'
  | [], cs, k, q => ⟨cs, by simp [fillV], q⟩
  | (i, x) :: l, cs, k, q => by
    have q : Option.rec (motive := fun _ => Res) .no (fun q => Prod.rec (motive := fun _ => Res) (fun off size =>
      bif x.alive && lenK (cellsF x) size then overK (cellsF x) off cs .no fun cs => fillK place l cs k else .no) q) (place i) = .ok v h' := q
    simp only [fillV]
    cases hp : place i with
    | none => rw [hp] at q; cases q
    | some r =>
      obtain ⟨off, size⟩ := r
      rw [hp] at q
      have q : (bif x.alive && lenK (cellsF x) size then overK (cellsF x) off cs .no fun cs => fillK place l cs k else .no) = .ok v h' := q
      rw [lenK_eq, cellsF_eq, overK_eq] at q
      cases h1 : x.alive <;> cases h2 : Nat.beq x.cells.length size <;> simp only [h1, h2, Bool.and_false, Bool.and_true, Bool.false_and, cond_false, cond_true] at q ⊢ <;> first | (cases q; done) | skip
      have h2 := Nat.eq_of_beq_eq_true h2
      by_cases h4 : off + x.cells.length ≤ cs.length
      · rw [if_pos h4] at q
        rw [h2] at h4
        simp only [Nat.ble_eq_true_of_le h4, Bool.and_true, cond_true]
        exact fillK_ok q
      · rw [if_neg h4] at q; cases q

theorem buildF_ok {T : Tab} {t : TypeId} {l : List (Nat × Val)} (q : buildF T t l h = .ok v h') : buildV T t l = some v ∧ h' = h := by
  unfold buildF at q
  unfold buildV
  cases hz : zeroV T t with
  | none => rw [hz] at q; cases q
  | some z =>
    rw [hz] at q
    cases hu : T.under t with
    | none => rw [hu] at q; cases q
    | some d =>
      rw [hu] at q
      cases d <;> first | (cases q; done) | skip
      case struct fields =>
        cases hp : placesV T fields.toList with
        | none => simp only [hp] at q; cases q
        | some ps =>
          simp only [hp] at q ⊢
          rw [nfL_eq] at q
          obtain ⟨cs, h1, h2⟩ := fillK_ok q
          cases h2
          rw [h1]; exact ⟨rfl, rfl⟩
      case array len el =>
        cases hs : sizeOf T el with
        | none => simp only [hs] at q; cases q
        | some m =>
          simp only [hs] at q ⊢
          rw [nfL_eq] at q
          obtain ⟨cs, h1, h2⟩ := fillK_ok q
          cases h2
          rw [h1]; exact ⟨rfl, rfl⟩

theorem buildSliceF_ok {T : Tab} {t : TypeId} {len : Nat} {l : List (Nat × Val)} (q : buildSliceF T t len l h = .ok v h') : buildSliceV T h t len l = some (v, h') := by
  unfold buildSliceF at q
  unfold buildSliceV
  cases hu : T.under t with
  | none => rw [hu] at q; cases q
  | some d =>
    rw [hu] at q
    cases d <;> first | (cases q; done) | skip
    case slice el =>
      cases hs : sizeOf T el with
      | none => simp only [hs] at q; cases q
      | some m =>
        cases hz : zeroV T el with
        | none => simp only [hs, hz] at q; cases q
        | some z =>
          simp only [hs, hz] at q ⊢
          cases hc : (Nat.ble (len * m) 16777216 && Nat.beq z.cells.length m) with
          | false => rw [hc] at q; cases q
          | true =>
            rw [hc, cond_true] at q
            rw [cond_true]
            rw [nfL_eq] at q
            obtain ⟨cs, h1, h2⟩ := fillK_ok q
            cases h with
            | mk n bs d =>
              cases h2
              rw [h1]; rfl

theorem cAlloc_ok {C : Conf} {t : TypeId} {f : Fo} (q : cAlloc C t = some f) {e : Tr} (q2 : f e h = .ok v h') {env : Env} : stepV C env h (.alloc t) = some (v, h') := by
  unfold cAlloc at q
  simp only [stepV]
  cases hz : zeroV C.tab t with
  | none => rw [hz] at q; cases q
  | some z =>
    rw [hz] at q
    cases hs : sizeOf C.tab t with
    | none => rw [hs] at q; cases q
    | some m =>
      rw [hs] at q
      simp only at q ⊢
      cases hc : Nat.beq z.cells.length m with
      | false => rw [hc] at q; cases q
      | true =>
        rw [hc, cond_true, nfL_eq] at q
        injection q with q
        subst q
        rw [cond_true]
        cases h with
        | mk n bs d => cases q2; rfl

theorem cStore_ok {C : Conf} {a x : Gt} {t : TypeId} {e : Tr} (q : cStore C a x t e h = .ok v h') : storeV C.tab h t (a e) (x e) = some h' ∧ v = .tup [] := by
  unfold cStore at q
  unfold storeV
  cases hm : sizeOf C.tab t with
  | none => rw [hm] at q; cases q
  | some m =>
    rw [hm] at q
    obtain ⟨h1, h2, h3⟩ := storeF_ok q
    simp only [h1, cond_true]
    exact ⟨h2, h3⟩

theorem cFieldAddr_ok {C : Conf} {g : Gt} {s : TypeId} {f : Nat} {e : Tr} (q : cFieldAddr C g s f e h = .ok v h') : ∃ fl m, fieldOf C.tab s f = some fl ∧ sizeOf C.tab fl.type = some (m + 1) ∧ B.move (g e) fl.offset = some v ∧ h' = h := by
  unfold cFieldAddr at q
  cases hf : fieldOf C.tab s f with
  | none => rw [hf] at q; cases q
  | some fl =>
    rw [hf] at q
    cases hs : sizeOf C.tab fl.type with
    | none => simp only [hs] at q; cases q
    | some m =>
      cases m with
      | zero => simp only [hs] at q; cases q
      | succ m =>
        simp only [hs] at q
        exact ⟨fl, m, rfl, hs, moveF_ok q⟩

theorem cStep_ok {C : Conf} {n : Nat} {e : Tr} {env : Env} (R : Rep n e env) {op : Op} {f : Fo} (q : cStep n C op = some f) (q2 : f e h = .ok v h') : stepV C env h op = some (v, h') := by
  cases op <;> try (simp only [cStep] at q; cases q; done)
  case move x =>
    obtain ⟨g, h1, rfl⟩ := oneF_ok q
    dsimp only at q2
    rw [hdV_eq] at q2
    cases q2
    simp only [stepV, cO_ok R h1]
  case assign x =>
    obtain ⟨g, h1, rfl⟩ := oneF_ok q
    dsimp only at q2
    rw [hdV_eq] at q2
    cases q2
    simp only [stepV, cO_ok R h1]
  case pick c a b =>
    simp only [cStep] at q
    split at q
    · rename_i gc ga gb h1 h2 h3
      injection q with q; subst q
      dsimp only at q2
      simp only [stepV, cO_ok R h1, cO_ok R h2, cO_ok R h3]
      unfold pickF at q2
      split at q2
      · rename_i bb hb
        rw [hb]
        cases bb with
        | true =>
          have q2 : hdV (ga e) (fun v => Res.ok v h) = .ok v h' := q2
          rw [hdV_eq] at q2; cases q2; rfl
        | false =>
          have q2 : hdV (gb e) (fun v => Res.ok v h) = .ok v h' := q2
          rw [hdV_eq] at q2; cases q2; rfl
      · cases q2
    · cases q
  case alloc t => exact cAlloc_ok q q2
  case box t x =>
    obtain ⟨g, h1, rfl⟩ := oneF_ok q
    have := newR_ok q2
    rw [← this]
    simp only [stepV, cO_ok R h1]
    rfl
  case build t ps =>
    simp only [cStep] at q
    split at q
    · rename_i g h1
      injection q with q; subst q
      dsimp only at q2
      obtain ⟨h2, h3⟩ := buildF_ok q2
      simp only [stepV, cP_ok R h1, h2, h3]
    · cases q
  case buildSlice t m ps =>
    simp only [cStep] at q
    split at q
    · rename_i g h1
      injection q with q; subst q
      dsimp only at q2
      simp only [stepV, cP_ok R h1]
      exact buildSliceF_ok q2
    · cases q
  case insert t m k x =>
    simp only [cStep] at q
    split at q
    · rename_i gm gk gx h1 h2 h3
      injection q with q; subst q
      dsimp only at q2
      obtain ⟨h4, h5⟩ := heapAt_ok q2
      simp only [stepV, cO_ok R h1, cO_ok R h2, cO_ok R h3, h5, h4]
    · cases q
  case load t a =>
    obtain ⟨g, h1, rfl⟩ := oneF_ok q
    obtain ⟨h2, h3⟩ := cLoad_ok q2
    simp only [stepV, cO_ok R h1, h2, h3]
  case store t a x =>
    obtain ⟨g, j, h1, h2, rfl⟩ := twoF_ok q
    obtain ⟨h3, h4⟩ := cStore_ok q2
    simp only [stepV, cO_ok R h1, cO_ok R h2, h3, h4]
  case nilCheck x =>
    obtain ⟨g, h1, rfl⟩ := oneF_ok q
    simp only [stepV, cO_ok R h1]
    dsimp only at q2
    generalize g e = p at q2
    unfold nilCheckF at q2
    split at q2
    all_goals first
      | (cases q2; rfl)
      | (cases q2; done)
      | skip
    rename_i m t x
    cases hb : ownMethod C.tab t m with
    | false => rw [hb] at q2; cases q2
    | true => rw [hb] at q2; cases q2; simp only [hb, cond_true]
  case binOp op t x y u =>
    obtain ⟨g, j, h1, h2, rfl⟩ := twoF_ok q
    obtain ⟨h3, h4⟩ := binF_ok q2
    simp only [stepV, cO_ok R h1, cO_ok R h2, h3, h4]
  case unOp op t x =>
    obtain ⟨g, h1, rfl⟩ := oneF_ok q
    obtain ⟨h3, h4⟩ := nfR_ok q2
    simp only [stepV, cO_ok R h1, h3, h4]
  case convert s d x =>
    obtain ⟨g, h1, rfl⟩ := oneF_ok q
    simp only [stepV, cO_ok R h1]
    exact appR_ok q2
  case makeInterface t x =>
    obtain ⟨g, h1, rfl⟩ := oneF_ok q
    simp only [stepV, cO_ok R h1]
    cases hu : C.tab.under t with
    | none => simp only [hu] at q2; cases q2
    | some d =>
      simp only [hu] at q2
      cases d <;> first
        | (cases q2; done)
        | (simp only at q2; rw [hdV_eq] at q2; cases q2; rfl)
  case makeFunc f first captured =>
    simp only [cStep] at q
    cases f <;> simp only at q <;> try (cases q; done)
    case func f =>
      split at q
      · rename_i fs cs h1 h2
        injection q with q; subst q
        dsimp only at q2
        rw [hdL_eq, hdL_eq] at q2
        cases q2
        simp only [stepV, cL_ok R h1, cL_ok R h2]
      · cases q
    case method m =>
      split at q
      · rename_i x h1 h2
        obtain ⟨g, h3, rfl⟩ := oneF_ok q
        dsimp only at q2
        rw [hdV_eq] at q2
        cases q2
        simp only [stepV, h1, h2, evalL, cO_ok R h3]
      · cases q
  case makeMap t r =>
    cases r with
    | some r => simp only [cStep] at q; cases q
    | none =>
      simp only [cStep] at q
      injection q with q; subst q
      dsimp only at q2
      have := newR_ok q2
      simp only [stepV]
      exact this
  case makeSlice t l c =>
    obtain ⟨g, j, h1, h2, rfl⟩ := twoF_ok q
    simp only [stepV, cO_ok R h1, cO_ok R h2]
    exact newR_ok q2
  case slice t x lo hi mx =>
    simp only [cStep] at q
    split at q
    · rename_i g1 g2 g3 g4 h1 h2 h3 h4
      injection q with q; subst q
      dsimp only at q2
      obtain ⟨h5, h6⟩ := nfR_ok q2
      simp only [stepV, cO_ok R h1, cM_ok R h2, cM_ok R h3, cM_ok R h4, h5, h6]
    · cases q
  case fieldAddr s x f =>
    obtain ⟨g, h1, rfl⟩ := oneF_ok q
    obtain ⟨fl, m, h2, h3, h4, h5⟩ := cFieldAddr_ok q2
    simp only [stepV, cO_ok R h1, h2, h3, h4, h5]
  case field t x f =>
    simp only [cStep] at q
    split at q
    · rename_i fl g h1 h2
      injection q with q; subst q
      dsimp only at q2
      simp only [stepV, h1, cO_ok R h2]
      unfold fieldF at q2
      split at q2
      · rename_i cs hcs
        obtain ⟨h3, h4⟩ := part_ok q2
        rw [hcs]
        simp only [h3, h4]
      · cases q2
    · cases q
  case indexAddr t x i =>
    obtain ⟨g, j, h1, h2, rfl⟩ := twoF_ok q
    obtain ⟨h3, h4⟩ := cIdxAddr_ok q2
    simp only [stepV, cO_ok R h1, cO_ok R h2, h3, h4]
  case index t x i =>
    obtain ⟨g, j, h1, h2, rfl⟩ := twoF_ok q
    obtain ⟨h3, h4⟩ := nfR_ok q2
    simp only [stepV, cO_ok R h1, cO_ok R h2, h3, h4]
  case lookup t x i ok =>
    obtain ⟨g, j, h1, h2, rfl⟩ := twoF_ok q
    obtain ⟨h3, h4⟩ := nfR_ok q2
    simp only [stepV, cO_ok R h1, cO_ok R h2, h3, h4]
  case mapUpdate t m k x =>
    simp only [cStep] at q
    split at q
    · rename_i gm gk gx h1 h2 h3
      injection q with q; subst q
      dsimp only at q2
      obtain ⟨h4, h5⟩ := heapAt_ok q2
      simp only [stepV, cO_ok R h1, cO_ok R h2, cO_ok R h3, h5, h4]
    · cases q
  case typeAssert x a t ok =>
    obtain ⟨g, h1, rfl⟩ := oneF_ok q
    obtain ⟨h3, h4⟩ := nfR_ok q2
    simp only [stepV, cO_ok R h1, h3, h4]
  case range t x =>
    obtain ⟨g, h1, rfl⟩ := oneF_ok q
    simp only [stepV, cO_ok R h1]
    cases hu : C.tab.under t with
    | none => simp only [hu] at q2; cases q2
    | some d =>
      simp only [hu] at q2
      cases d <;> first | (cases q2; done) | skip
      simp only at q2
      unfold rangeF at q2
      split at q2
      · rename_i s hs
        rw [hs]
        exact newR_ok q2
      · cases q2
  case next i b =>
    cases b with
    | false => simp only [cStep] at q; cases q
    | true =>
      obtain ⟨g, h1, rfl⟩ := oneF_ok q
      simp only [stepV, cO_ok R h1]
      dsimp only at q2
      generalize g e = p at q2
      unfold nextF at q2
      split at q2
      · rename_i id
        simp only
        split at q2
        · rename_i s pos hg
          rw [hg]
          simp only
          split at q2
          · rename_i bb hb
            rw [hb]
            simp only
            cases hc : Nat.blt bb.toNat 128 with
            | false => rw [hc] at q2; cases q2
            | true =>
              rw [hc, cond_true, nfV_eq, upH_eq] at q2
              cases q2; rfl
          · rename_i hb
            rw [hb]
            cases q2; rfl
        · cases q2
      · cases q2
  case extract x i =>
    obtain ⟨g, h1, rfl⟩ := oneF_ok q
    simp only [stepV, cO_ok R h1]
    dsimp only at q2
    unfold extractF at q2
    split at q2
    · rename_i vs hvs
      obtain ⟨h3, h4⟩ := hdR_ok q2
      rw [nthO_eq] at h3
      rw [hvs]
      simp only [h3, h4]
    · cases q2
end
end Go.B
end
section
/- Code and calls of 'F' are B's. -/
namespace Go.B
open Go

section
variable {C : Conf} {h h' : Heap} {v : Val} {n : Nat} {e : Tr} {env : Env}

def CallFOk (cf : CF) (cv : CallF) : Prop := ∀ t args h v h', cf t args h = .ok v h' → cv t args h = some (v, h')

theorem goF_ok {cf : CF} {cv : CallF} (hc : CallFOk cf cv) {w : Who} (q : goF cf h w = .ok v h') : ∃ t args, w = .some t args ∧ cv t args h = some (v, h') := by
  cases w with
  | none => cases q
  | some t args =>
    cases t with
    | fn f =>
      have q : hdL args (fun args => cf (.fn f) args h) = .ok v h' := q
      rw [hdL_eq] at q
      exact ⟨_, _, rfl, hc _ _ _ _ _ q⟩
    | yld l =>
      have q : hdL args (fun args => cf (.yld l) args h) = .ok v h' := q
      rw [hdL_eq] at q
      exact ⟨_, _, rfl, hc _ _ _ _ _ q⟩

theorem builtin_pure {b : Builtin} (hb : b = .cap ∨ b = .min ∨ b = .max) {ts : Array TypeId} {as : List Val} {r : Val × Heap} (q : builtinV C h b ts as = some r) : r.2 = h := by
  rcases hb with rfl | rfl | rfl
  · rcases as with _ | ⟨x, _ | ⟨y, l⟩⟩ <;> simp [builtinV] at q
    obtain ⟨_, _, rfl⟩ := q; rfl
  · rcases as with _ | ⟨x, l⟩ <;> simp [builtinV] at q
    obtain ⟨_, _, rfl⟩ := q; rfl
  · rcases as with _ | ⟨x, l⟩ <;> simp [builtinV] at q
    obtain ⟨_, _, rfl⟩ := q; rfl

theorem cBuiltin_ok {b : Builtin} {ts : Array TypeId} {as : Tr → List Val} (q : cBuiltin C b ts as e h = .ok v h') : builtinV C h b ts (as e) = some (v, h') := by
  have pure : ∀ b, (b = .cap ∨ b = .min ∨ b = .max) → nfR h ((builtinV C h b ts (as e)).map fun r => r.1) = .ok v h' → builtinV C h b ts (as e) = some (v, h') := by
    intro b hb q
    obtain ⟨h1, h2⟩ := nfR_ok q
    simp only [Option.map_eq_some_iff] at h1
    obtain ⟨r, h3, h4⟩ := h1
    have h5 := builtin_pure hb h3
    rw [h3, ← h4, h2, ← h5]
  cases b
  case len =>
    obtain ⟨h1, h2⟩ := nfR_ok q
    split at h1
    · rename_i x hx
      simp only [Option.map_eq_some_iff] at h1
      obtain ⟨m, h3, h4⟩ := h1
      rw [hx]
      simp only [builtinV, h3, Option.map_some, h4, h2]
    · cases h1
  case cap => exact pure _ (.inl rfl) q
  case min => exact pure _ (.inr (.inl rfl)) q
  case max => exact pure _ (.inr (.inr rfl)) q
  case append => exact appR_ok q
  all_goals exact pairR_ok q

theorem cOp_ok {cf : CF} {cv : CallF} (hc : CallFOk cf cv) (R : Rep n e env) {o : Oper} (hd : ∀ c, o.op ≠ .defer c) {f : Fo} (q : cOp n C cf o.op = some f) (q2 : f e h = .ok v h') (ds : Ds) (rd : Option Nat) :
    operV C cv { env, h, ds, rd } o = some (v, h', ds) := by
  unfold operV
  cases ho : o.op with
  | call c =>
    rw [ho] at q
    simp only [cOp] at q
    simp only
    cases hcal : c.callee with
    | builtin b =>
      rw [hcal] at q
      simp only at q ⊢
      split at q
      · rename_i as h1
        injection q with q; subst q
        rw [cL_ok R h1]
        simp only [cBuiltin_ok q2]
      · cases q
    | value g =>
      rw [hcal] at q
      simp only at q ⊢
      split at q
      · rename_i as g1 h1 h2
        injection q with q; subst q
        dsimp only at q2
        rw [hdL_eq] at q2
        obtain ⟨t, args, h3, h4⟩ := goF_ok hc q2
        have ht : target C h env c = some (t, args) := by
          unfold target
          rw [cL_ok R h1, hcal]
          simp only [cO_ok R h2]
          generalize g1 e = x at h3
          unfold whoF at h3
          split at h3
          · injection h3 with h5 h6; subst h5; subst h6; rfl
          · injection h3 with h5 h6; subst h5; subst h6; rfl
          · split at h3
            · rename_i hm
              injection h3 with h5 h6; subst h5; subst h6
              simp only [hm]
            · cases h3
          · cases h3
        rw [ht]
        simp only [h4]
      · cases q
    | invoke r m =>
      rw [hcal] at q
      simp only at q ⊢
      split at q
      · rename_i as g1 h1 h2
        injection q with q; subst q
        dsimp only at q2
        rw [hdL_eq] at q2
        obtain ⟨t, args, h3, h4⟩ := goF_ok hc q2
        have ht : target C h env c = some (t, args) := by
          unfold target
          rw [cL_ok R h1, hcal]
          simp only [cO_ok R h2]
          generalize g1 e = x at h3
          unfold invF at h3
          split at h3
          · split at h3
            · rename_i hm
              injection h3 with h5 h6; subst h5; subst h6
              simp only [hm]
            · cases h3
          · cases h3
        rw [ht]
        simp only [h4]
      · cases q
  | defer c => exact absurd ho (hd c)
  | _ =>
    rw [ho] at q
    simp only [cOp] at q
    simp only [cStep_ok R q q2]

theorem resD_ok {ds ds' : Ds} {r : Res} (q : resD ds r = .ok v h' ds') : r = .ok v h' ∧ ds' = ds := by
  cases r with
  | no => cases q
  | ok x y => cases q; exact ⟨rfl, rfl⟩

theorem cDefer_ok (R : Rep n e env) {c : Call} {g : Tr → Option (FuncId × List Val)} (q : cDefer n c = some g) {p : FuncId × List Val} (q2 : g e = some p) : deferred env c = some p := by
  unfold cDefer at q
  unfold deferred
  cases hcal : c.callee with
  | value f =>
    rw [hcal] at q
    simp only at q
    split at q
    · rename_i as f1 h1 h2
      injection q with q; subst q
      rw [cL_ok R h1]
      simp only [cO_ok R h2]
      dsimp only at q2
      unfold deferF at q2
      split at q2
      · rename_i h3
        rw [h3]; exact q2
      · cases q2
    · cases q
  | builtin b => rw [hcal] at q; cases q
  | invoke r m => rw [hcal] at q; cases q

theorem cOper_ok {cf : CF} {cv : CallF} (hc : CallFOk cf cv) (R : Rep n e env) {rd : Option Nat} {o : Oper} {f : Tr → Heap → Ds → Rd} (q : cOper n C cf rd o = some f) {ds ds' : Ds} (q2 : f e h ds = .ok v h' ds') :
    operV C cv { env, h, ds, rd } o = some (v, h', ds') := by
  by_cases hd : ∃ c, o.op = .defer c
  · obtain ⟨c, ho⟩ := hd
    unfold cOper at q
    unfold operV
    rw [ho] at q ⊢
    simp only at q ⊢
    split at q
    · rename_i g hg
      injection q with q; subst q
      dsimp only at q2
      cases hp : g e with
      | none => rw [hp] at q2; cases q2
      | some p =>
        obtain ⟨f, as⟩ := p
        rw [hp] at q2
        have q2 : (bif hasBody C f then nfL as fun as => Rd.ok (.tup []) h (some (f, as) :: ds) else .no) = .ok v h' ds' := q2
        rw [cDefer_ok R hg hp]
        cases hb : hasBody C f with
        | false => rw [hb] at q2; cases q2
        | true =>
          rw [hb, cond_true, nfL_eq] at q2
          cases q2
          simp only [hb, cond_true]
    · cases q
  · have hd : ∀ c, o.op ≠ .defer c := fun c hh => hd ⟨c, hh⟩
    have q : Option.rec (motive := fun _ => Option (Tr → Heap → Ds → Rd)) none (fun f => some fun e h ds => resD ds (f e h)) (cOp n C cf o.op) = some f := by
      unfold cOper at q
      cases ho : o.op with
      | defer c => exact absurd ho (hd c)
      | _ => rw [ho] at q; exact q
    cases hco : cOp n C cf o.op with
    | none => rw [hco] at q; cases q
    | some g =>
      rw [hco] at q
      have q : some (fun e h ds => resD ds (g e h)) = some f := q
      injection q with q; subst q
      obtain ⟨h1, h2⟩ := resD_ok q2
      subst h2
      exact cOp_ok hc R hd hco h1 ds' rd

theorem putF_cases (d : Option Tmp) : (cPut n d = .no) ∨ ∀ (v : Val) (e : Tr) (env : Env), Rep n e env → ∃ e', Rep n e' (putV env d v) ∧ ∀ (α : Type) (no : α) (k : Tr → α), putF (cPut n d) v e no k = k e' := by
  unfold cPut
  cases d with
  | none => exact .inr fun v e env R => ⟨e, R, fun _ _ _ => rfl⟩
  | some d =>
    simp only
    cases hb : Nat.blt d n with
    | false => exact .inl rfl
    | true =>
      right
      intro v e env R
      exact ⟨e.set v (way d), R.set (by simpa using hb) v, fun α no k => putK_eq v (way d) e k⟩

theorem wantF_ok (R : Rep n e env) {ops : Array Oper} {o : Oper} : (wantF (cGuard n ops o) e = .yes → wantedV ops env o = some true) ∧ (wantF (cGuard n ops o) e = .no → wantedV ops env o = some false) := by
  unfold cGuard wantedV
  cases hg : o.guard with
  | none => exact ⟨fun _ => rfl, fun q => (by cases q)⟩
  | some p =>
    obtain ⟨j, want⟩ := p
    simp only
    cases hd : (ops[j]?).bind (·.dst) with
    | none => exact ⟨fun q => (by cases q), fun _ => rfl⟩
    | some d =>
      simp only
      cases hb : Nat.blt d n with
      | false => exact ⟨fun q => (by cases q), fun q => (by cases q)⟩
      | true =>
        rw [cond_true, ← R.get d (by simpa using hb)]
        show (wtF want (e.get (way d)) = .yes → _) ∧ (wtF want (e.get (way d)) = .no → _)
        generalize e.get (way d) = x
        cases x
        case bool b =>
          simp only [wtF]
          cases hbw : (b == want) <;> simp
        all_goals simp [wtF]

theorem cOps_ok {cf : CF} {cv : CallF} (hc : CallFOk cf cv) {rd : Option Nat} {ops : Array Oper} : ∀ (l : List Oper) (k : K), cOps n C cf rd ops l = some k → ∀ (e : Tr) (env : Env) (h : Heap) (ds : Ds) (x : Ex) (e' : Tr) (h' : Heap) (ds' : Ds), Rep n e env → k e h ds = .at x e' h' ds' →
    ∃ env', Rep n e' env' ∧ x = .norm ∧ opsV C cv ops l { env, h, ds, rd } = some { env := env', h := h', ds := ds', rd }
  | [], k, q, e, env, h, ds, x, e', h', ds', R, q2 => by
    simp only [cOps, Option.some.injEq] at q
    subst q
    cases q2
    exact ⟨env, R, rfl, rfl⟩
  | o :: l, k, q, e, env, h, ds, x, e', h', ds', R, q2 => by
    simp only [cOps] at q
    split at q
    · rename_i f kl h1 h2
      injection q with q; subst q
      dsimp only at q2
      obtain ⟨w1, w2⟩ := wantF_ok R (ops := ops) (o := o)
      cases hw : wantF (cGuard n ops o) e with
      | yes =>
        rw [hw] at q2
        have q2 : Rd.rec (motive := fun _ => Rx) .no (fun v h ds => putF (cPut n o.dst) v e .no fun e => kl e h ds) (f e h ds) = .at x e' h' ds' := q2
        cases hr : f e h ds with
        | no => rw [hr] at q2; cases q2
        | ok v h1' ds1 =>
          rw [hr] at q2
          have q2 : (putF (cPut n o.dst) v e .no fun e => kl e h1' ds1) = .at x e' h' ds' := q2
          rcases putF_cases (n := n) o.dst with hp | hp
          · rw [hp] at q2; cases q2
          · obtain ⟨e1, R1, h3⟩ := hp v e env R
            rw [h3] at q2
            obtain ⟨env', h4, h5, h6⟩ := cOps_ok hc l kl h2 e1 _ h1' ds1 x e' h' ds' R1 q2
            refine ⟨env', h4, h5, ?_⟩
            simp only [opsV, w1 hw, cOper_ok hc R h1 hr]
            exact h6
      | no =>
        rw [hw] at q2
        have q2 : (putF (cPut n o.dst) (.tup []) e .no fun e => kl e h ds) = .at x e' h' ds' := q2
        rcases putF_cases (n := n) o.dst with hp | hp
        · rw [hp] at q2; cases q2
        · obtain ⟨e1, R1, h3⟩ := hp (.tup []) e env R
          rw [h3] at q2
          obtain ⟨env', h4, h5, h6⟩ := cOps_ok hc l kl h2 e1 _ h ds x e' h' ds' R1 q2
          refine ⟨env', h4, h5, ?_⟩
          simp only [opsV, w2 hw]
          exact h6
      | dead => rw [hw] at q2; cases q2
    · cases q

theorem touch_ok {cf : CF} {rd : Option Nat} (R : Rep n e env) {o : Oper} {f : Tr → Heap → Ds → Rd} (q : cOper n C cf rd o = some f) : touchF n C.tab o e = touchOf C.tab env o := by
  unfold touchF touchOf
  cases ho : o.op <;> try (simp only [touchG, touchO, ho]; done)
  case load t a =>
    have : ∃ g, cO n a = some g := by
      unfold cOper at q
      rw [ho] at q
      dsimp only at q
      cases hco : cOp n C cf (.load t a) with
      | none => rw [hco] at q; cases q
      | some g =>
        obtain ⟨g1, h1, _⟩ := oneF_ok (show oneF (cO n a) (fun g => cLoad C g t) = some g from hco)
        exact ⟨g1, h1⟩
    obtain ⟨g, hg⟩ := this
    simp only [touchG, touchO, ho, hg, cO_ok R hg]
    generalize g e = x
    cases x <;> rfl
  case call c =>
    simp only [touchG, touchO, ho]
    cases hcal : c.callee with
    | value f => rfl
    | invoke r m => rfl
    | builtin b =>
      cases b <;> try rfl
      simp only
      have : ∃ as, cL n c.args.toList = some as := by
        unfold cOper at q
        rw [ho] at q
        dsimp only at q
        cases hco : cOp n C cf (.call c) with
        | none => rw [hco] at q; cases q
        | some g =>
          simp only [cOp, hcal] at hco
          split at hco
          · exact ⟨_, by assumption⟩
          · cases hco
      obtain ⟨as, has⟩ := this
      rcases hl : c.args.toList with _ | ⟨a, _ | ⟨b, l⟩⟩
      · rfl
      · rw [hl] at has
        simp only [cL] at has
        split at has
        · rename_i g gs hg _
          simp only [hg, cO_ok R hg]
          generalize g e = x
          cases x <;> rfl
        · cases has
      · rfl

theorem cOpsT_ok {cf : CF} {cv : CallF} (hc : CallFOk cf cv) {rd : Option Nat} {ops : Array Oper} : ∀ (l : List Oper) (i : Nat) (k : Tr → Heap → Ds → List Did → Rt), cOpsT n C cf rd ops l i = some k → ∀ (e : Tr) (env : Env) (h : Heap) (ds : Ds) (acc : List Did) (e' : Tr) (h' : Heap) (ds' : Ds) (L : List Did), Rep n e env → k e h ds acc = .at e' h' ds' L →
    ∃ env' l', Rep n e' env' ∧ L = l'.reverse ++ acc ∧ opsT C cv ops l i { env, h, ds, rd } = some ({ env := env', h := h', ds := ds', rd }, l')
  | [], i, k, q, e, env, h, ds, acc, e', h', ds', L, R, q2 => by
    simp only [cOpsT, Option.some.injEq] at q
    subst q
    cases q2
    exact ⟨env, [], R, rfl, rfl⟩
  | o :: l, i, k, q, e, env, h, ds, acc, e', h', ds', L, R, q2 => by
    simp only [cOpsT] at q
    split at q
    · rename_i f kl h1 h2
      injection q with q; subst q
      dsimp only at q2
      obtain ⟨w1, w2⟩ := wantF_ok R (ops := ops) (o := o)
      cases hw : wantF (cGuard n ops o) e with
      | yes =>
        rw [hw] at q2
        cases h with
        | mk nx bs d =>
        have q2 : Rd.rec (motive := fun _ => Rt) .no (fun v h' ds =>
          Heap.rec (motive := fun _ => Rt) (fun nx' bs' d' => putF (cPut n o.dst) v e .no fun e' => kl e' ⟨nx', bs', d' ++ d⟩ ds ({ at_ := i, touch := touchF n C.tab o e, dirty := d'.filter (fun k => Nat.blt k.1 nx) } :: acc)) h') (f e ⟨nx, bs, []⟩ ds) = .at e' h' ds' L := q2
        cases hr : f e ⟨nx, bs, []⟩ ds with
        | no => rw [hr] at q2; cases q2
        | ok v h1' ds1 =>
          cases h1' with
          | mk nx' bs' d' =>
          rw [hr] at q2
          have q2 : (putF (cPut n o.dst) v e .no fun e' => kl e' ⟨nx', bs', d' ++ d⟩ ds1 ({ at_ := i, touch := touchF n C.tab o e, dirty := d'.filter (fun k => Nat.blt k.1 nx) } :: acc)) = .at e' h' ds' L := q2
          rcases putF_cases (n := n) o.dst with hp | hp
          · rw [hp] at q2; cases q2
          · obtain ⟨e1, R1, h3⟩ := hp v e env R
            rw [h3] at q2
            obtain ⟨env', l', h4, h5, h6⟩ := cOpsT_ok hc l (i + 1) kl h2 e1 _ _ ds1 _ e' h' ds' L R1 q2
            refine ⟨env', { at_ := i, touch := touchOf C.tab env o, dirty := d'.filter (fun k => Nat.blt k.1 nx) } :: l', h4, ?_, ?_⟩
            · rw [h5, touch_ok R h1]
              simp
            · simp only [opsT, w1 hw, cOper_ok hc R h1 hr, h6]
      | no =>
        rw [hw] at q2
        have q2 : (putF (cPut n o.dst) (.tup []) e .no fun e => kl e h ds acc) = .at e' h' ds' L := q2
        rcases putF_cases (n := n) o.dst with hp | hp
        · rw [hp] at q2; cases q2
        · obtain ⟨e1, R1, h3⟩ := hp (.tup []) e env R
          rw [h3] at q2
          obtain ⟨env', l', h4, h5, h6⟩ := cOpsT_ok hc l (i + 1) kl h2 e1 _ h ds acc e' h' ds' L R1 q2
          refine ⟨env', l', h4, h5, ?_⟩
          simp only [opsT, w2 hw]
          exact h6
      | dead => rw [hw] at q2; cases q2
    · cases q

theorem freeAll_reverse (b : Array Nat) (l : List Did) : freeAll b l.reverse = freeAll b l := by
  unfold freeAll
  rw [List.all_reverse]
  congr 1
  funext e
  cases e.dirty with
  | nil => rfl
  | cons a m => simp only [List.all_reverse]

theorem drawF_ok {cf : CF} {cv : CallF} (hc : CallFOk cf cv) {rd : Option Nat} {ops : Array Oper} {ds ds' : Ds} {x : Ex} {e' : Tr} (R : Rep n e env) (q : drawF n C cf rd ops e h ds = .at x e' h' ds') :
    ∃ env', Rep n e' env' ∧ x = .norm ∧ drawV C cv ops { env, h, ds, rd } = some { env := env', h := h', ds := ds', rd } := by
  unfold drawF at q
  cases hd : drawOk ops with
  | false => rw [hd] at q; cases q
  | true =>
    rw [hd, cond_true] at q
    cases hk : cOpsT n C cf rd ops ops.toList 0 with
    | none => rw [hk] at q; cases q
    | some k =>
      rw [hk] at q
      have q : Rt.rec (motive := fun _ => Rx) .no (fun e' h' ds' l => bif Nat.beq ds'.length ds.length && freeAll (Region.before ops) l then .at .norm e' h' ds' else .no) (k e h ds []) = .at x e' h' ds' := q
      cases hr : k e h ds [] with
      | no => rw [hr] at q; cases q
      | «at» e1 h1 ds1 L =>
        rw [hr] at q
        have q : (bif Nat.beq ds1.length ds.length && freeAll (Region.before ops) L then Rx.at .norm e1 h1 ds1 else .no) = .at x e' h' ds' := q
        obtain ⟨env', l', h4, h5, h6⟩ := cOpsT_ok hc ops.toList 0 k hk e env h ds [] e1 h1 ds1 L R hr
        cases hb : (Nat.beq ds1.length ds.length && freeAll (Region.before ops) L) with
        | false => rw [hb] at q; cases q
        | true =>
          rw [hb, cond_true] at q
          cases q
          refine ⟨env', h4, rfl, ?_⟩
          simp only [List.append_nil] at h5
          rw [h5, freeAll_reverse] at hb
          simp only [Bool.and_eq_true] at hb
          unfold drawV
          rw [h6]
          simp only [hd, hb.1, hb.2, Bool.and_self, cond_true]
end
end Go.B
end
section
/- Calls of 'F' are B's: callF_ok. -/
namespace Go.B
open Go

section
variable {C : Conf} {h h' : Heap} {v : Val} {n : Nat} {e : Tr} {env : Env} {cf : CF} {cv : CallF}

theorem inLoop_env (env env' : Env) (h : Heap) (ds ds' : Ds) (rd : Option Nat) : inLoop { env, h, ds, rd } = inLoop { env := env', h, ds := ds', rd } := by
  unfold inLoop
  cases rd <;> rfl

theorem rangeFn_ok (hc : CallFOk cf cv) {rd : Option Nat} {f : Operand} {ps : Array Tmp} {assign body : Code} {ds ds' : Ds} {x : Ex} {e' : Tr} (R : Rep n e env) {v : Val} (hf : evalO env f = some v) (q : rangeFn n C cf rd ps assign body e h ds v = .at x e' h' ds') :
    ∃ env', Rep n e' env' ∧ codeV C cv (.rangeFunc f ps assign body) { env, h, ds, rd } = some (x, { env := env', h := h', ds := ds', rd }) := by
  unfold rangeFn at q
  split at q
  · rename_i g fs cs
    simp only [codeV, hf]
    rw [inLoop_env env [] h ds [] rd]
    cases hb : (hasBody C g && inLoop { env := [], h, ds := [], rd }) with
    | false => rw [hb] at q; cases q
    | true =>
      rw [hb, cond_true, forceN_eq, hdL_eq, hdH_eq, R.toEnv] at q
      rw [cond_true]
      cases hr : cf (.fn g) (fs ++ (.yld h.next :: cs)) (h.new (.loop .ready none env ps.toList assign body)) with
      | no => rw [hr] at q; cases q
      | ok v1 h1 =>
        rw [hr] at q
        have q : rangeEnd rd e ds h.next h1 = .at x e' h' ds' := q
        rw [hc _ _ _ _ _ hr]
        simp only
        unfold rangeEnd at q
        split at q
        · rename_i st pending env2 ps2 a2 b2 hg
          rw [hg]
          simp only
          split at q
          · cases q
          · rename_i hst
            rw [putHK_eq] at q
            dsimp only at q
            split
            · exact absurd rfl hst
            · split at q
              all_goals first
                | (cases q; exact ⟨env, R, rfl⟩)
                | (cases q; done)
        · cases q
  · cases q

theorem seqF_ok {k : K} {r : Rx} {x : Ex} {e' : Tr} {ds' : Ds} (q : seqF k r = .at x e' h' ds') : ∃ y e1 h1 ds1, r = .at y e1 h1 ds1 ∧ ((y = .norm ∧ k e1 h1 ds1 = .at x e' h' ds') ∨ (y ≠ .norm ∧ x = y ∧ e' = e1 ∧ h' = h1 ∧ ds' = ds1)) := by
  cases r with
  | no => cases q
  | «at» y e1 h1 ds1 =>
    refine ⟨y, e1, h1, ds1, rfl, ?_⟩
    cases y with
    | norm => exact .inl ⟨rfl, q⟩
    | exit i => cases q; exact .inr ⟨(by simp), rfl, rfl, rfl, rfl⟩
    | ret => cases q; exact .inr ⟨(by simp), rfl, rfl, rfl, rfl⟩

theorem codeF_ok (hc : CallFOk cf cv) {rd : Option Nat} : ∀ (c : Code) (e : Tr) (env : Env) (h : Heap) (ds : Ds) (x : Ex) (e' : Tr) (h' : Heap) (ds' : Ds), Rep n e env → codeF n C cf rd c e h ds = .at x e' h' ds' →
    ∃ env', Rep n e' env' ∧ codeV C cv c { env, h, ds, rd } = some (x, { env := env', h := h', ds := ds', rd })
  | .skip, e, env, h, ds, x, e', h', ds', R, q => by cases q; exact ⟨env, R, rfl⟩
  | .label l, e, env, h, ds, x, e', h', ds', R, q => by cases q; exact ⟨env, R, rfl⟩
  | .exit i, e, env, h, ds, x, e', h', ds', R, q => by cases q; exact ⟨env, R, rfl⟩
  | .ret, e, env, h, ds, x, e', h', ds', R, q => by cases q; exact ⟨env, R, rfl⟩
  | .goto l, e, env, h, ds, x, e', h', ds', R, q => by cases q
  | .refuse r, e, env, h, ds, x, e', h', ds', R, q => by cases q
  | .scope c, e, env, h, ds, x, e', h', ds', R, q => by
    obtain ⟨env', h1, h2⟩ := codeF_ok hc c e env h ds x e' h' ds' R q
    exact ⟨env', h1, by simp only [codeV]; exact h2⟩
  | .region id ops true, e, env, h, ds, x, e', h', ds', R, q => by
    have q : drawF n C cf rd ops e h ds = .at x e' h' ds' := q
    obtain ⟨env', h1, h2, h3⟩ := drawF_ok hc R q
    exact ⟨env', h1, by simp only [codeV, h3, h2, Option.map_some]⟩
  | .region id ops false, e, env, h, ds, x, e', h', ds', R, q => by
    have q : (Option.rec (motive := fun _ => K) (fun _ _ _ => .no) (fun f => f) (cOps n C cf rd ops ops.toList)) e h ds = .at x e' h' ds' := q
    cases hk : cOps n C cf rd ops ops.toList with
    | none => rw [hk] at q; cases q
    | some k =>
      rw [hk] at q
      obtain ⟨env', h1, h2, h3⟩ := cOps_ok hc ops.toList k hk e env h ds x e' h' ds' R q
      exact ⟨env', h1, by simp only [codeV, h3, h2, Option.map_some]⟩
  | .seq a b, e, env, h, ds, x, e', h', ds', R, q => by
    have q : seqF (codeF n C cf rd b) (codeF n C cf rd a e h ds) = .at x e' h' ds' := q
    obtain ⟨y, e1, h1, ds1, h2, h3⟩ := seqF_ok q
    obtain ⟨env1, R1, h4⟩ := codeF_ok hc a e env h ds y e1 h1 ds1 R h2
    simp only [codeV, h4]
    rcases h3 with ⟨rfl, h3⟩ | ⟨hy, rfl, rfl, rfl, rfl⟩
    · exact codeF_ok hc b e1 env1 h1 ds1 x e' h' ds' R1 h3
    · refine ⟨env1, R1, ?_⟩
      cases x with
      | norm => exact absurd rfl hy
      | exit i => rfl
      | ret => rfl
  | .cond c a b, e, env, h, ds, x, e', h', ds', R, q => by
    have q : Option.rec (motive := fun _ => Rx) .no (fun g => condF (codeF n C cf rd a e h ds) (codeF n C cf rd b e h ds) (g e)) (cO n c) = .at x e' h' ds' := q
    cases hg : cO n c with
    | none => rw [hg] at q; cases q
    | some g =>
      rw [hg] at q
      have q : condF (codeF n C cf rd a e h ds) (codeF n C cf rd b e h ds) (g e) = .at x e' h' ds' := q
      simp only [codeV, cO_ok R hg]
      unfold condF at q
      split at q
      · rename_i bb hb
        rw [hb]
        cases bb with
        | true => exact codeF_ok hc a e env h ds x e' h' ds' R q
        | false => exact codeF_ok hc b e env h ds x e' h' ds' R q
      · cases q
  | .block id c, e, env, h, ds, x, e', h', ds', R, q => by
    have q : blockF id (codeF n C cf rd c e h ds) = .at x e' h' ds' := q
    simp only [codeV]
    cases hr : codeF n C cf rd c e h ds with
    | no => rw [hr] at q; cases q
    | «at» y e1 h1 ds1 =>
      rw [hr] at q
      obtain ⟨env1, R1, h4⟩ := codeF_ok hc c e env h ds y e1 h1 ds1 R hr
      rw [h4]
      cases y with
      | norm => cases q; exact ⟨env1, R1, rfl⟩
      | ret => cases q; exact ⟨env1, R1, rfl⟩
      | exit i =>
        have q : (bif Nat.beq i id then Rx.at .norm e1 h1 ds1 else .at (.exit i) e1 h1 ds1) = .at x e' h' ds' := q
        refine ⟨env1, ?_⟩
        cases hb : Nat.beq i id with
        | true => rw [hb] at q; cases q; exact ⟨R1, by simp [hb]⟩
        | false => rw [hb] at q; cases q; exact ⟨R1, by simp [hb]⟩
  | .loop c, e, env, h, ds, x, e', h', ds', R, q => by
    have q : loopF (codeF n C cf rd c) C.rounds e h ds = .at x e' h' ds' := q
    simp only [codeV]
    have key : ∀ (m : Nat) (e : Tr) (env : Env) (h : Heap) (ds : Ds), Rep n e env → loopF (codeF n C cf rd c) m e h ds = .at x e' h' ds' → ∃ env', Rep n e' env' ∧ loopV (codeV C cv c) m { env, h, ds, rd } = some (x, { env := env', h := h', ds := ds', rd }) := by
      intro m
      induction m with
      | zero => intro e env h ds R q; cases q
      | succ m ih =>
        intro e env h ds R q
        have q : seqF (loopF (codeF n C cf rd c) m) (codeF n C cf rd c e h ds) = .at x e' h' ds' := q
        obtain ⟨y, e1, h1, ds1, h2, h3⟩ := seqF_ok q
        obtain ⟨env1, R1, h4⟩ := codeF_ok hc c e env h ds y e1 h1 ds1 R h2
        simp only [loopV, h4]
        rcases h3 with ⟨rfl, h3⟩ | ⟨hy, rfl, rfl, rfl, rfl⟩
        · exact ih e1 env1 h1 ds1 R1 h3
        · refine ⟨env1, R1, ?_⟩
          cases x with
          | norm => exact absurd rfl hy
          | exit i => rfl
          | ret => rfl
    exact key _ e env h ds R q
  | .rangeFunc f ps assign body, e, env, h, ds, x, e', h', ds', R, q => by
    have q : Option.rec (motive := fun _ => Rx) .no (fun g => rangeFn n C cf rd ps assign body e h ds (g e)) (cO n f) = .at x e' h' ds' := q
    cases hg : cO n f with
    | none => rw [hg] at q; cases q
    | some g =>
      rw [hg] at q
      exact rangeFn_ok hc R (cO_ok R hg) q

theorem cResults_ok {T : Tab} (R : Rep n e env) : ∀ {l : List ResultVar} {r : Tr → Heap → (List Val → Res) → Res}, cResults n T l = some r → ∀ (k : List Val → Res) (x : Val) (h' : Heap), r e h k = .ok x h' → ∃ vs, resultsV T h env l = some vs ∧ k vs = .ok x h'
  | [], r, q, k, x, h', q2 => by simp only [cResults, Option.some.injEq] at q; subst q; exact ⟨[], rfl, q2⟩
  | .tmp t :: l, r, q, k, x, h', q2 => by
    simp only [cResults] at q
    split at q
    · rename_i r1 h1
      cases hb : Nat.blt t n with
      | false => rw [hb] at q; cases q
      | true =>
        rw [hb, cond_true] at q
        injection q with q; subst q
        dsimp only at q2
        rw [hdV_eq] at q2
        obtain ⟨vs, h2, h3⟩ := cResults_ok R h1 _ x h' q2
        refine ⟨_, ?_, h3⟩
        simp only [resultsV, h2, R.get t (by simpa using hb)]
    · cases q
  | .cell a t :: l, r, q, k, x, h', q2 => by
    simp only [cResults] at q
    have get : Nat.blt a n = true → e.get (way a) = (env[a]?).getD .dead := fun hb => R.get a (by simpa using hb)
    split at q
    · rename_i r1 h1 ha
      cases hb : Nat.blt a n with
      | false => rw [hb] at q; cases q
      | true =>
        rw [hb, cond_true] at q
        injection q with q; subst q
        dsimp only at q2
        cases hl : load1F T (e.get (way a)) h with
        | no => rw [hl] at q2; cases q2
        | ok v hv =>
          rw [hl] at q2
          obtain ⟨vs, h2, h3⟩ := cResults_ok R h1 _ x h' q2
          obtain ⟨h4, h5⟩ := load1_read hl
          refine ⟨v :: vs, ?_, h3⟩
          simp only [resultsV, ← get hb, loadV, ha, h4, h2]
    · rename_i r1 h1 ha
      split at q
      · rename_i m hm
        cases hb : Nat.blt a n with
        | false => rw [hb] at q; cases q
        | true =>
          rw [hb, cond_true] at q
          injection q with q; subst q
          dsimp only at q2
          cases hl : loadNF T m (e.get (way a)) h with
          | no => rw [hl] at q2; cases q2
          | ok v hv =>
            rw [hl] at q2
            obtain ⟨vs, h2, h3⟩ := cResults_ok R h1 _ x h' q2
            obtain ⟨cs, h4, h5, h6⟩ := loadN_read hl
            refine ⟨v :: vs, ?_, h3⟩
            simp only [resultsV, ← get hb, loadV, ha, hm, h4, h2, h5, Option.map_some]
      · cases q
    · cases q

theorem resultsF_ok {T : Tab} (R : Rep n e env) {l : List ResultVar} {k : List Val → Res} {x : Val} (q : resultsF n T h e l k = .ok x h') : ∃ vs, resultsV T h env l = some vs ∧ k vs = .ok x h' := by
  unfold resultsF at q
  cases hr : cResults n T l with
  | none => rw [hr] at q; cases q
  | some r => rw [hr] at q; exact cResults_ok R hr k x h' q

theorem enterF_ok (hc : CallFOk cf cv) {fn : Func} {c : Code} {args : List Val} {ds : Ds} (q : enterF C cf fn c args h = .at e h' ds) : ∃ env, Rep fn.ntmps e env ∧ enterV C cv fn c args h = some { env, h := h', ds, rd := none } := by
  unfold enterF at q
  rw [forceN_eq] at q
  cases hb : Nat.ble args.length fn.ntmps with
  | false => rw [hb] at q; cases q
  | true =>
    rw [hb, cond_true] at q
    obtain ⟨e0, h1, R0⟩ := enter_rep (Nat.le_of_ble_eq_true hb) (k := fun e => Rx.rec (motive := fun _ => Re) .no (fun x e h ds => Ex.rec (motive := fun _ => Re) (.at e h ds) (fun _ => .no) (.at e h ds) x) (codeF fn.ntmps C cf none c e h []))
    rw [h1] at q
    cases hr : codeF fn.ntmps C cf none c e0 h [] with
    | no => rw [hr] at q; cases q
    | «at» x e1 h2 ds1 =>
      rw [hr] at q
      obtain ⟨env1, R1, h3⟩ := codeF_ok hc c e0 _ h [] x e1 h2 ds1 R0 hr
      unfold enterV
      rw [h3]
      cases x with
      | norm => cases q; exact ⟨env1, R1, rfl⟩
      | ret => cases q; exact ⟨env1, R1, rfl⟩
      | exit i => cases q

theorem deferRun_ok (hc : CallFOk cf cv) : ∀ (l : Ds) (h h' : Heap), deferRun C cf l h = some h' → deferV C cv l h = some h'
  | [], h, h', q => q
  | none :: l, h, h', q => by
    simp only [deferV]
    exact deferRun_ok hc l h h' q
  | some (f, args) :: l, h, h', q => by
    have q : (match C.tab.fn f with
        | some fn => match fn.body with
          | some c => Re.rec (motive := fun _ => Option Heap) none (fun e h ds => match ds with
            | [] => Res.rec (motive := fun _ => Option Heap) none (fun _ _ => deferRun C cf l h) (forceN fn.ntmps fun n => resultsF n C.tab h e fn.results.toList fun _ => .ok .dead h)
            | _ => none) (enterF C cf fn c args h)
          | none => none
        | none => none) = some h' := q
    simp only [deferV]
    split at q
    · rename_i fn hfn
      rw [hfn]
      simp only
      split at q
      · rename_i c hcb
        rw [hcb]
        simp only
        cases hr : enterF C cf fn c args h with
        | no => rw [hr] at q; cases q
        | «at» e1 h1 ds1 =>
          rw [hr] at q
          obtain ⟨env1, R1, h2⟩ := enterF_ok hc hr
          rw [h2]
          simp only
          cases ds1 with
          | cons a m => cases q
          | nil =>
            have q : Res.rec (motive := fun _ => Option Heap) none (fun _ _ => deferRun C cf l h1) (resultsF fn.ntmps C.tab h1 e1 fn.results.toList fun _ => .ok .dead h1) = some h' := q
            cases hrs : resultsF fn.ntmps C.tab h1 e1 fn.results.toList fun _ => .ok .dead h1 with
            | no => rw [hrs] at q; cases q
            | ok x y =>
              rw [hrs] at q
              obtain ⟨vs, h3, _⟩ := resultsF_ok R1 hrs
              rw [h3]
              exact deferRun_ok hc l h1 h' q
      · cases q
    · cases q

theorem bodyF_ok (hc : CallFOk cf cv) {f : FuncId} {fn : Func} {args : List Val} (q : bodyF C cf f fn args h = .ok v h') : bodyV C cv f fn args h = some (v, h') := by
  unfold bodyF at q
  unfold bodyV
  cases hb : fn.body with
  | none =>
    rw [hb] at q
    simp only at q ⊢
    split at q
    · rename_i x hx
      rw [hx]
      exact pairR_ok q
    · cases q
  | some c =>
    rw [hb] at q
    simp only at q ⊢
    cases hr : enterF C cf fn c args h with
    | no => rw [hr] at q; cases q
    | «at» e1 h1 ds1 =>
      rw [hr] at q
      obtain ⟨env1, R1, h2⟩ := enterF_ok hc hr
      rw [h2]
      have q : Option.rec (motive := fun _ => Res) .no (fun h => forceN fn.ntmps fun n => resultsF n C.tab h e1 fn.results.toList (finF h)) (deferRun C cf ds1 h1) = .ok v h' := q
      cases hd : deferRun C cf ds1 h1 with
      | none => rw [hd] at q; cases q
      | some h3 =>
        rw [hd] at q
        have q : resultsF fn.ntmps C.tab h3 e1 fn.results.toList (finF h3) = .ok v h' := q
        simp only [deferRun_ok hc ds1 h1 h3 hd]
        obtain ⟨vs, h4, h5⟩ := resultsF_ok R1 q
        rw [h4]
        unfold finF at h5
        split at h5
        · cases h5; rfl
        · rename_i hne
          cases h5
          rcases vs with _ | ⟨a, _ | ⟨b, l⟩⟩
          · rfl
          · exact absurd rfl (hne a)
          · rfl

theorem putAllF_ok : ∀ (l : List (Tmp × Val)) (e : Tr) (env : Env) (k : Tr → Res), Rep n e env → putAllF n l e k = .ok v h' → ∃ e', Rep n e' (putAll env l) ∧ k e' = .ok v h'
  | [], e, env, k, R, q => ⟨e, R, q⟩
  | (t, x) :: l, e, env, k, R, q => by
    simp only [putAllF] at q
    rcases putF_cases (n := n) (some t) with hp | hp
    · rw [hp] at q; cases q
    · obtain ⟨e1, R1, h3⟩ := hp x e env R
      rw [h3] at q
      exact putAllF_ok l e1 _ k R1 q

theorem roundF_ok (hc : CallFOk cf cv) {l : Nat} {args : List Val} (q : roundF C cf l args h = .ok v h') : roundV C cv l args h = some (v, h') := by
  unfold roundF at q
  unfold roundV
  rw [getH_eq] at q
  split at q
  · rename_i p0 env ps assign body hg
    rw [hg]
    simp only
    cases hlen : Nat.beq ps.length args.length with
    | false => rw [hlen] at q; cases q
    | true =>
      rw [hlen, cond_true, forceN_eq] at q
      rw [cond_true]
      cases hb : Nat.ble env.length 2000 with
      | false => rw [hb] at q; cases q
      | true =>
        rw [hb, cond_true] at q
        have R0 := Rep.ofEnv (env := env) (Nat.le_of_ble_eq_true hb)
        obtain ⟨e1, R1, q⟩ := putAllF_ok _ _ env _ R0 q
        cases hr : codeF env.length C cf (some l) assign e1 h [] with
        | no => rw [hr] at q; cases q
        | «at» x e2 h2 ds2 =>
          rw [hr] at q
          obtain ⟨env2, R2, h3⟩ := codeF_ok hc assign e1 _ h [] x e2 h2 ds2 R1 hr
          rw [h3]
          cases x with
          | exit i => cases q
          | ret => cases q
          | norm =>
            dsimp only at q
            rw [getH_eq] at q
            simp only
            split at q
            · rename_i pending env' ps' assign' body' hg2
              rw [hg2]
              simp only
              rw [putHK_eq] at q
              cases hr2 : codeF env.length C cf (some l) body e2 (h2.put l (.loop .busy pending env' ps' assign' body')) ds2 with
              | no => rw [hr2] at q; cases q
              | «at» y e3 h4 ds3 =>
                rw [hr2] at q
                obtain ⟨env3, R3, h5⟩ := codeF_ok hc body e2 env2 _ ds2 y e3 h4 ds3 R2 hr2
                rw [h5]
                dsimp only at q
                rw [getH_eq] at q
                simp only
                split at q
                · rename_i p2 env4 ps4 assign4 body4 hg3
                  rw [hg3]
                  simp only
                  cases y with
                  | norm =>
                    simp only at q ⊢
                    rw [putHK_eq] at q
                    cases q; rfl
                  | ret =>
                    simp only at q ⊢
                    rw [putHK_eq] at q
                    cases q; rfl
                  | exit i =>
                    simp only at q ⊢
                    rw [putHK_eq] at q
                    cases q; rfl
                · cases q
            · cases q
  · cases q

theorem callF_ok (C : Conf) : ∀ m, CallFOk (callF C m) (callV C m)
  | 0 => fun t args h v h' q => by cases q
  | m + 1 => fun t args h v h' q => by
    have ih := callF_ok C m
    cases t with
    | yld l => exact roundF_ok ih q
    | fn f =>
      have q : Option.rec (motive := fun _ => Res)
        (Option.rec (motive := fun _ => Res) .no (fun fn => Bool.rec (motive := fun _ => Res) (bodyF C (callF C m) f fn args h)
          (match frzL (frz h 30) args with
          | none => .no
          | some args' => match bodyF C (callF C m) f fn args' .nil with
            | .no => .no
            | .ok v h' => match frz h' 30 v with
              | some v => bif args.all (fun a => idFree 30 a) || plainV 30 v then nfV v fun v => .ok v h else .no
              | none => .no) (C.alone f)) (C.tab.fn f))
        (fun v => .ok v h) (C.sum f args) = .ok v h' := q
      simp only [callV]
      cases hs : C.sum f args with
      | some x => rw [hs] at q; cases q; rfl
      | none =>
        rw [hs] at q
        simp only
        cases hf : C.tab.fn f with
        | none => rw [hf] at q; cases q
        | some fn =>
          rw [hf] at q
          simp only
          have q : Bool.rec (motive := fun _ => Res) (bodyF C (callF C m) f fn args h)
            (match frzL (frz h 30) args with
            | none => .no
            | some args' => match bodyF C (callF C m) f fn args' .nil with
              | .no => .no
              | .ok v h' => match frz h' 30 v with
                | some v => bif args.all (fun a => idFree 30 a) || plainV 30 v then nfV v fun v => .ok v h else .no
                | none => .no) (C.alone f) = .ok v h' := q
          cases ha : C.alone f with
          | false =>
            rw [ha] at q
            rw [cond_false]
            exact bodyF_ok ih q
          | true =>
            rw [ha] at q
            rw [cond_true]
            dsimp only at q
            split at q
            · cases q
            · rename_i args' h1
              rw [h1]
              simp only
              split at q
              · cases q
              · rename_i x hx h2
                rw [bodyF_ok ih h2]
                simp only
                split at q
                · rename_i y h3
                  rw [h3]
                  simp only
                  cases hb : (args.all (fun a => idFree 30 a) || plainV 30 y) with
                  | false => rw [hb] at q; cases q
                  | true =>
                    rw [hb, cond_true, nfV_eq] at q
                    cases q; rfl
                · cases q
end
end Go.B
end
