/- A part of the proof that scrim/scrimlaw21.QueryPixels returns true at every input. -/
import Derived.Test.YtcchpcpanogbpaaGreatDoorB10
import Derived.OrdersIn
set_option linter.unusedSimpArgs false
set_option linter.unusedVariables false
section
/- Regions that draw the order of their operations: what B computes in the text's order holds at every order. -/
namespace Go.B
open Go Go.RowKit

section
variable {P : Program} {C : Conf} {w0 wS : World} {Γ0 Γ Δ : Ctx} {T : Tab} {w w' : World} {N : Nat}
variable {call : CallF} {ops : Array Oper} {σ : Nat → St} {wd : Nat → Bool} {v : Nat → Val} {D : Nat → List (Nat × Option (Nat × Nat))} {ds : List Did}

/-- It changes a block that stood ahead of it. -/
def Eop (σ : Nat → St) (D : Nat → List (Nat × Option (Nat × Nat))) (y : Nat) : Prop := ∃ d ∈ D y, d.1 < (σ y).h.next

theorem filter_eop {y : Nat} : (D y).filter (fun q => Nat.blt q.1 (σ y).h.next) = [] ↔ ¬ Eop σ D y := by
  rw [List.filter_eq_nil_iff]
  constructor
  · rintro h ⟨d, h1, h2⟩
    exact h d h1 (by simp only [Nat.blt_eq]; exact h2)
  · intro h d hd hq
    simp only [Nat.blt_eq] at hq
    exact h ⟨d, hd, hq⟩

theorem free_spec (hfr : freeAll (Region.before ops) ds = true) (K : Chain C call ops 0 ops.size σ wd v D ds) {x y : Nat} {ox oy : Oper} (hx : ops[x]? = some ox) (hy : ops[y]? = some oy) (hwx : wd x = true) (hwy : wd y = true) (he : Eop σ D y) :
    y = x ∨ ordered (Region.before ops) y x = true ∨ (¬ Eop σ D x ∧ (touchOf C.tab (σ x).env ox = .no ∨ ∃ id off m, touchOf C.tab (σ x).env ox = .load id off m ∧ ∀ d ∈ D y, d.1 < (σ y).h.next → d.1 = id → Off d off m)) := by
  have hx' : x < ops.size := (Array.getElem?_eq_some_iff.1 hx).1
  have hy' : y < ops.size := (Array.getElem?_eq_some_iff.1 hy).1
  obtain ⟨dx, mx, ax, tx, fx⟩ := K.did x ox (Nat.zero_le _) hx' hx hwx
  obtain ⟨dy, my, ay, ty, fy⟩ := K.did y oy (Nat.zero_le _) hy' hy hwy
  unfold freeAll at hfr
  have h1 := List.all_eq_true.1 hfr dy my
  have hne : dy.dirty ≠ [] := by rw [fy]; exact fun q => filter_eop.1 q he
  have h2 : (ds.all fun x => Nat.beq dy.at_ x.at_ || ordered (Region.before ops) dy.at_ x.at_ || freeOf dy x) = true := by
    revert h1
    cases hq : dy.dirty with
    | nil => exact absurd hq hne
    | cons a l => exact fun h => h
  have h3 := List.all_eq_true.1 h2 dx mx
  simp only [Bool.or_eq_true] at h3
  rw [ax, ay] at h3
  rcases h3 with (h3 | h3) | h3
  · exact .inl (nat_beq_eq h3)
  · exact .inr (.inl h3)
  · right; right
    unfold freeOf at h3
    split at h3
    · rename_i hq; exact absurd hq hne
    · split at h3
      · rename_i h4 h5
        exact ⟨filter_eop.1 (by rw [← fx]; exact h4), .inl (by rw [← tx]; exact h5)⟩
      · rename_i id off m h4 h5
        refine ⟨filter_eop.1 (by rw [← fx]; exact h4), .inr ⟨id, off, m, by rw [← tx]; exact h5, fun d hd hlt e => ?_⟩⟩
        have h6 := List.all_eq_true.1 h3 d (by rw [fy, List.mem_filter]; exact ⟨hd, by simp only [Nat.blt_eq]; exact hlt⟩)
        simp only [Bool.or_eq_true, Bool.not_eq_true'] at h6
        rcases h6 with h6 | h6
        · rw [e] at h6; rw [Nat.beq_refl] at h6; cases h6
        · unfold Off
          split at h6
          · rename_i a m' h7
            simp only [Bool.or_eq_true] at h6
            exact ⟨a, m', h7, h6.imp Nat.le_of_ble_eq_true Nat.le_of_ble_eq_true⟩
          · cases h6
      · cases h3

/-! ### The temporaries -/

def Dst (ops : Array Oper) (p t : Nat) : Prop := ∃ o, ops[p]? = some o ∧ o.dst = some t

open Classical in
/-- A temporary, as the operations that were done left it. -/
noncomputable def curE (σ : Nat → St) (ops : Array Oper) (L : Nat → Prop) : Nat → Nat → Option Val
  | 0, t => (σ 0).env[t]?
  | p + 1, t => if L p ∧ Dst ops p t then (σ (p + 1)).env[t]? else curE σ ops L p t

theorem link_env_ne (K : Chain C call ops 0 ops.size σ wd v D ds) {p t : Nat} (hp : p < ops.size) (h : ¬ Dst ops p t) : (σ (p + 1)).env[t]? = (σ p).env[t]? := by
  have ho := Array.getElem?_eq_getElem hp
  have L := K.link p _ (Nat.zero_le _) hp ho
  rw [L.env]
  unfold putV
  split
  · rename_i d hd
    rw [List.getElem?_set_ne]
    intro e; subst e
    exact h ⟨_, ho, hd⟩
  · rfl

theorem curE_all (K : Chain C call ops 0 ops.size σ wd v D ds) {L : Nat → Prop} {t : Nat} : ∀ (p : Nat), p ≤ ops.size → (∀ i, i < p → Dst ops i t → L i) → curE σ ops L p t = (σ p).env[t]?
  | 0, _, _ => rfl
  | p + 1, hp, h => by
    unfold curE
    by_cases ht : Dst ops p t
    · rw [if_pos ⟨h p (by omega) ht, ht⟩]
    · rw [if_neg fun q => ht q.2, curE_all K p (by omega) fun i hi => h i (by omega), link_env_ne K (by omega) ht]

theorem curE_same {L : Nat → Prop} {t p : Nat} : ∀ (q : Nat), p ≤ q → (∀ i, p ≤ i → i < q → L i → ¬ Dst ops i t) → curE σ ops L q t = curE σ ops L p t
  | 0, h, _ => by have : p = 0 := by omega
                  subst this; rfl
  | q + 1, h, hk => by
    by_cases e : p = q + 1
    · subst e; rfl
    · conv => lhs; unfold curE
      rw [if_neg fun r => hk q (by omega) (by omega) r.1 r.2, curE_same q (by omega) fun i h1 h2 => hk i h1 (by omega)]

theorem curE_more {L : Nat → Prop} {t x : Nat} (hx : ¬ Dst ops x t) : ∀ (p : Nat), curE σ ops (fun i => L i ∨ i = x) p t = curE σ ops L p t
  | 0 => rfl
  | p + 1 => by
    unfold curE
    rw [curE_more hx p]
    by_cases ht : Dst ops p t
    · by_cases hl : L p
      · rw [if_pos ⟨.inl hl, ht⟩, if_pos ⟨hl, ht⟩]
      · have hno : ¬ ((L p ∨ p = x) ∧ Dst ops p t) := by
          rintro ⟨h1 | h1, _⟩
          · exact hl h1
          · subst h1; exact hx ht
        rw [if_neg hno, if_neg (fun r => hl r.1)]
    · rw [if_neg (fun r => ht r.2), if_neg (fun r => ht r.2)]

theorem curE_none {L : Nat → Prop} (hL : ∀ i, ¬ L i) (t : Nat) : ∀ p, curE σ ops L p t = (σ 0).env[t]?
  | 0 => rfl
  | p + 1 => by
    unfold curE
    rw [if_neg fun h => hL p h.1]
    exact curE_none hL t p

theorem env_length (K : Chain C call ops 0 ops.size σ wd v D ds) : ∀ (p : Nat), p ≤ ops.size → (σ p).env.length = (σ 0).env.length
  | 0, _ => rfl
  | p + 1, hp => by
    have L := K.link p _ (Nat.zero_le _) (by omega) (Array.getElem?_eq_getElem (by omega))
    rw [L.env, ← env_length K p (by omega)]
    unfold putV
    split
    · simp
    · rfl

theorem ds_length (K : Chain C call ops 0 ops.size σ wd v D ds) : ∀ (q p : Nat), p ≤ q → q ≤ ops.size → (σ p).ds.length ≤ (σ q).ds.length
  | 0, p, h, _ => by have : p = 0 := by omega
                     subst this; exact Nat.le_refl _
  | q + 1, p, h, hq => by
    by_cases e : p = q + 1
    · subst e; exact Nat.le_refl _
    · refine Nat.le_trans (ds_length K q p (by omega) (by omega)) ?_
      have L := K.link q _ (Nat.zero_le _) (by omega) (Array.getElem?_eq_getElem (by omega))
      cases hw : wd q with
      | true =>
        obtain ⟨h', h1, _, _⟩ := L.step hw
        rcases oper_ds h1 with ⟨h2, _⟩ | h2
        · rw [h2]; exact Nat.le_refl _
        · rw [h2]; exact Nat.le_succ _
      | false => rw [(L.skip hw).2.2.2]; exact Nat.le_refl _

/-- No operation of it defers. -/
theorem ds_same (K : Chain C call ops 0 ops.size σ wd v D ds) (hl : (σ ops.size).ds.length = (σ 0).ds.length) {p : Nat} (hp : p < ops.size) : (σ (p + 1)).ds = (σ p).ds ∧ (wd p = true → ∀ o, ops[p]? = some o → ∀ c, o.op ≠ .defer c) := by
  have e1 := ds_length K p 0 (Nat.zero_le _) (by omega)
  have e2 := ds_length K ops.size (p + 1) hp (Nat.le_refl _)
  have e3 := ds_length K (p + 1) p (by omega) hp
  have L := K.link p _ (Nat.zero_le _) hp (Array.getElem?_eq_getElem hp)
  cases hw : wd p with
  | true =>
    obtain ⟨h', h1, _, _⟩ := L.step hw
    rcases oper_ds h1 with ⟨h2, h3⟩ | h2
    · exact ⟨h2, fun _ o ho => by
        rw [Array.getElem?_eq_getElem hp] at ho
        injection ho with ho
        subst ho; exact h3⟩
    · simp only at h2; omega
  | false => exact ⟨(L.skip hw).2.2.2, fun h => (by cases h)⟩

theorem ds_all (K : Chain C call ops 0 ops.size σ wd v D ds) (hl : (σ ops.size).ds.length = (σ 0).ds.length) : ∀ (p : Nat), p ≤ ops.size → (σ p).ds = (σ 0).ds
  | 0, _ => rfl
  | p + 1, hp => by rw [(ds_same K hl (by omega)).1, ds_all K hl p (by omega)]

theorem rd_all (K : Chain C call ops 0 ops.size σ wd v D ds) : ∀ (p : Nat), p ≤ ops.size → (σ p).rd = (σ 0).rd
  | 0, _ => rfl
  | p + 1, hp => by rw [(K.link p _ (Nat.zero_le _) (by omega) (Array.getElem?_eq_getElem (by omega))).rd, rd_all K p (by omega)]

theorem wanted_congr {env env' : Env} {o : Oper} (h : ∀ t ∈ looksOf ops o, env[t]? = env'[t]?) : wantedV ops env o = wantedV ops env' o := by
  unfold wantedV
  cases hg : o.guard with
  | none => rfl
  | some g =>
    obtain ⟨j, want⟩ := g
    simp only
    cases hd : (ops[j]?).bind (·.dst) with
    | none => rfl
    | some d =>
      have := h d (by unfold looksOf; simp [hg, hd])
      simp only [this]

theorem looks_eval {env env' : Env} {o : Oper} (h : ∀ t ∈ looksOf ops o, env[t]? = env'[t]?) : ∀ x ∈ o.op.operands, evalO env x = evalO env' x := by
  intro x hx
  cases x with
  | tmp t =>
    have := h t (by unfold looksOf; exact List.mem_append_left _ (List.mem_filterMap.2 ⟨.tmp t, by simpa using hx, rfl⟩))
    simp only [evalO, this]
  | const c => rfl
  | global g => rfl
  | func f => rfl

theorem DsRel.of_heap {B : Nat} {x : List (Option (FuncId × List Val))} {d : List Deferred} (h : DsRel Γ w N B x d) (hw : w'.heap = w.heap) : DsRel Γ w' N B x d := by
  induction h with
  | nil => exact .nil
  | mark hr h1 h2 _ ih => exact .mark (by rw [hw]; exact hr) h1 h2 ih
  | call hl _ ih => exact .call hl ih

end
end Go.B
end
section
/- Regions that draw their order: each operation has a heap to be run at, whatever was done ahead of it; DrawOk. -/
namespace Go.B
open Go Go.RowKit

section
variable {P : Program} {C : Conf} {w0 wS : World} {Γ0 Γ Δ : Ctx} {T : Tab} {w w' : World} {N : Nat}
variable {call : CallF} {ops : Array Oper} {σ : Nat → St} {wd : Nat → Bool} {v : Nat → Val} {D : Nat → List (Nat × Option (Nat × Nat))} {ds : List Did}

/-- Where an operation may be run. -/
structure At (C : Conf) (call : CallF) (n : Nat) (σ : Nat → St) (D : Nat → List (Nat × Option (Nat × Nat))) (L : Nat → Prop) (Γ : Ctx) (x : Nat) (o : Oper) (v : Val) (E : Env) (Hx Hx' : Heap) : Prop where
  next : Hx.next = (σ x).h.next
  next' : Hx'.next = (σ (x + 1)).h.next
  dirty : Hx.dirty = []
  dirty' : Hx'.dirty = D x
  old : ∀ id b, Hx.get id = some b → id < Hx.next
  here : ∀ id b, Hx.get id = some b → (∃ g c, Γ.mu id g = some c) → cur σ D L n id = some b
  there : ∀ id, Touches σ D x id → cur σ D (fun i => L i ∨ i = x) n id = Hx'.get id
  run : operV C call { env := E, h := Hx, ds := (σ x).ds, rd := (σ x).rd } o = some (v, Hx', (σ x).ds)

theorem get_dirty (h : Heap) (l : List (Nat × Option (Nat × Nat))) (id : Nat) : ({ h with dirty := l } : Heap).get id = h.get id := rfl

theorem at_of (hdr : drawOk ops = true) (hfr : freeAll (Region.before ops) ds = true) (K : Chain C call ops 0 ops.size σ wd v D ds) (hl : (σ ops.size).ds.length = (σ 0).ds.length)
    (hs : ∀ i, i < ops.size → Steps (σ i).h (σ (i + 1)).h (D i)) (old : ∀ i, i ≤ ops.size → ∀ id b, (σ i).h.get id = some b → id < (σ i).h.next)
    {L : Nat → Prop} (hL : ∀ j o, ops[j]? = some o → L j → ∀ e ∈ o.after, Region.binds .any e = true → L e.on) (I : Inv w0 wS T Γ0 ops.size σ D L Γ w) {x : Nat} {o : Oper} (ho : ops[x]? = some o) (hnx : ¬ L x)
    (hpre : ∀ e ∈ o.after, Region.binds .any e = true → L e.on) (hw : wd x = true) {E : Env} (hE : ∀ y ∈ o.op.operands, evalO (σ x).env y = evalO E y) {a : Act} (he : ERel Γ E a.tmps) : ∃ Hx Hx', At C call ops.size σ D L Γ x o (v x) E Hx Hx' := by
  obtain ⟨hlt, hdst⟩ := drawOk_spec hdr
  have hx : x < ops.size := (Array.getElem?_eq_some_iff.1 ho).1
  have hle := next_le hs
  have hnn : (σ x).h.next ≤ (σ (x + 1)).h.next := hle (x + 1) x (by omega) (by omega)
  have hn1 : (σ (x + 1)).h.next ≤ (σ ops.size).h.next := hle ops.size (x + 1) (by omega) (by omega)
  have LK := K.link x o (Nat.zero_le _) hx ho
  obtain ⟨h', hop, hdx, hsx⟩ := LK.step hw
  obtain ⟨hds, hndef⟩ := ds_same K hl hx
  have hndef := hndef hw o ho
  rw [hds] at hop
  have order := @next_order ops hlt L hL x o ho hpre hnx
  have want : ∀ y, y < ops.size → Eop σ D y → wd y = true := fun y hy ⟨d, hd, _⟩ => by
    cases hq : wd y with
    | true => rfl
    | false => rw [((K.link y _ (Nat.zero_le _) hy (Array.getElem?_eq_getElem hy)).skip hq).2.1] at hd; cases hd
  -- nobody that is done has touched its own new blocks
  have fresh : ∀ y, y < ops.size → L y → ∀ id, (σ x).h.next ≤ id → id < (σ (x + 1)).h.next → ¬ Touches σ D y id := by
    intro y hy hLy id h1 h2 ht
    have hyx : y ≠ x := fun e => hnx (e ▸ hLy)
    rcases ht with ⟨⟨d, hd, rfl⟩, h3⟩ | ⟨h3, h4⟩
    · rcases I.know y hy hLy d hd h3 with h4 | ⟨z, hz, hLz, h5, h6⟩
      · have := hle x 0 (by omega) (by omega); omega
      · have hzx : z ≠ x := fun e => hnx (e ▸ hLz)
        rcases Nat.lt_or_gt_of_ne hzx with h7 | h7
        · have := hle x (z + 1) (by omega) (by omega); omega
        · have := hle z (x + 1) (by omega) (by omega); omega
    · rcases Nat.lt_or_gt_of_ne hyx with h7 | h7
      · have := hle x (y + 1) (by omega) (by omega); omega
      · have := hle y (x + 1) (by omega) (by omega); omega
  by_cases hA : ∀ y, y < ops.size → Eop σ D y → y = x ∨ ordered (Region.before ops) y x = true
  · -- in order with all that change blocks
    have below : ∀ y, y < x → Eop σ D y → L y := fun y hy hey => by
      rcases hA y (by omega) hey with h | h
      · omega
      · exact (order (.inr h)).1 hy
    have above : ∀ y, x < y → y < ops.size → Eop σ D y → ¬ L y := fun y hy hyn hey => by
      rcases hA y hyn hey with h | h
      · omega
      · exact (order (.inr h)).2 hy
    refine ⟨{ (σ x).h with dirty := [] }, h', rfl, by rw [hsx], rfl, hdx, old x (by omega), fun id b hg ⟨g, c, hm⟩ => ?_, fun id ht => ?_, ?_⟩
    · have hg : (σ x).h.get id = some b := hg
      have hid := old x (by omega) id b hg
      rw [cur_same (p := x) ops.size (by omega) ?_, cur_all hs old x (by omega) ?_, hg]
      · intro i hi ht
        rcases ht with ⟨hd, h3⟩ | ⟨h3, h4⟩
        · obtain ⟨d, hd, rfl⟩ := hd; exact below i hi ⟨d, hd, h3⟩
        · by_cases hLi : L i
          · exact hLi
          · rw [I.hole i (by omega) hLi id g h3 h4] at hm; cases hm
      · rintro i h1 h2 hLi (⟨⟨d, hd, rfl⟩, h3⟩ | ⟨h3, h4⟩)
        · by_cases e : i = x
          · subst e; exact hnx hLi
          · exact above i (by omega) h2 ⟨d, hd, h3⟩ hLi
        · have := hle i x (by omega) (by omega); omega
    · rw [cur_same (p := x + 1) ops.size (by omega) ?_]
      · unfold cur
        rw [if_pos ⟨.inr rfl, ht⟩, hsx]
        rfl
      · rintro i h1 h2 (hLi | hLi) hti
        · have hin : id < (σ (x + 1)).h.next := by rcases ht with ⟨_, h3⟩ | ⟨_, h3⟩ <;> omega
          by_cases h0 : (σ x).h.next ≤ id
          · exact fresh i h2 hLi id h0 hin hti
          · rcases hti with ⟨⟨d, hd, rfl⟩, h3⟩ | ⟨h3, h4⟩
            · exact above i (by omega) h2 ⟨d, hd, h3⟩ hLi
            · have := hle i (x + 1) (by omega) (by omega); omega
        · omega
    · rw [← oper_congr call (s := { (σ x) with h := { (σ x).h with dirty := [] } }) (s' := { env := E, h := { (σ x).h with dirty := [] }, ds := (σ x).ds, rd := (σ x).rd }) hE rfl rfl rfl]
      exact hop
  · -- it looks at no heap, or at one row
    have hA' : ∃ y, y < ops.size ∧ Eop σ D y ∧ y ≠ x ∧ ¬ ordered (Region.before ops) y x = true := by
      apply Classical.byContradiction
      intro hno
      apply hA
      intro y hy hey
      apply Classical.byContradiction
      intro hno2
      exact hno ⟨y, hy, hey, fun e => hno2 (.inl e), fun e => hno2 (.inr e)⟩
    obtain ⟨y, hy, hey, hyx, hnord⟩ := hA'
    have hyo := Array.getElem?_eq_getElem hy
    rcases free_spec hfr K ho hyo hw (want y hy hey) hey with h | h | ⟨hnE, hto⟩
    · exact absurd h hyx
    · exact absurd h hnord
    rcases hto with hto | ⟨id, off, m, hto, _⟩
    · -- no heap
      have hbl := oper_blind (s := { (σ x) with h := { (σ x).h with dirty := [] } }) hndef hto hop
      have hop' : ∀ H, operV C call { env := E, h := H, ds := (σ x).ds, rd := (σ x).rd } o = operV C call { (σ x) with h := H } o := fun H =>
        (oper_congr call (s := { (σ x) with h := H }) (s' := { env := E, h := H, ds := (σ x).ds, rd := (σ x).rd }) hE rfl rfl rfl).symm
      have getn : ∀ id, ({ next := (σ x).h.next, blks := [], dirty := [] } : Heap).get id = none := fun _ => rfl
      rcases hbl with ⟨h1, h2⟩ | ⟨b, h1, h2⟩
      · have hd0 : D x = [] := by rw [← hdx, h1]
        have hnx' : (σ (x + 1)).h.next = (σ x).h.next := by rw [hsx, h1]
        refine ⟨{ next := (σ x).h.next, blks := [], dirty := [] }, { next := (σ x).h.next, blks := [], dirty := [] }, rfl, hnx'.symm, rfl, hd0.symm, fun id b hg => (by rw [getn] at hg; cases hg), fun id b hg => (by rw [getn] at hg; cases hg), fun id ht => ?_, ?_⟩
        · exfalso
          rcases ht with ⟨⟨d, hd, _⟩, _⟩ | ⟨h3, h4⟩
          · rw [hd0] at hd; cases hd
          · omega
        · rw [hop' _]
          exact h2 _ rfl
      · have hd0 : D x = [] := by rw [← hdx, h1]; rfl
        have hnx' : (σ (x + 1)).h.next = (σ x).h.next + 1 := by rw [hsx, h1]; rfl
        refine ⟨{ next := (σ x).h.next, blks := [], dirty := [] }, ({ next := (σ x).h.next, blks := [], dirty := [] } : Heap).new b, rfl, hnx'.symm, rfl, hd0.symm, fun id b hg => (by rw [getn] at hg; cases hg), fun id b hg => (by rw [getn] at hg; cases hg), fun id ht => ?_, ?_⟩
        · have hid : id = (σ x).h.next := by
            rcases ht with ⟨⟨d, hd, _⟩, _⟩ | ⟨h3, h4⟩
            · rw [hd0] at hd; cases hd
            · omega
          subst hid
          rw [cur_same (p := x + 1) ops.size (by omega) ?_]
          · unfold cur
            rw [if_pos ⟨.inr rfl, ht⟩, hsx, h1]
            show look _ _ = look _ _
            simp [Heap.new, look]
          · rintro i h3 h4 (hLi | hLi) hti
            · exact fresh i h4 hLi _ (Nat.le_refl _) (by omega) hti
            · omega
        · rw [hop' _]
          exact h2 _ rfl
    · -- one row
      obtain ⟨h1, ⟨t, oa, g, hop2, hptr⟩, ⟨b0, hb0⟩, h2⟩ := oper_load (s := { (σ x) with h := { (σ x).h with dirty := [] } }) hto hop
      have hb0 : (σ x).h.get id = some b0 := hb0
      have hid := old x (by omega) id b0 hb0
      have hd0 : D x = [] := by rw [← hdx, h1]
      have hnx' : (σ (x + 1)).h.next = (σ x).h.next := by rw [hsx, h1]
      have hpE : evalO E oa = some (.ptr id g off) := by rw [← hE oa (by rw [hop2]; simp [Op.operands])]; exact hptr
      have hmu : ∃ c, Γ.mu id g = some c := by
        have hv := evalO_rel he hpE
        generalize a.eval oa = q at hv
        cases hv with
        | ptr hm => exact ⟨_, hm⟩
      obtain ⟨c, hmu⟩ := hmu
      -- who changes that row's block, and isn't in order with it, leaves those cells
      have free : ∀ y, y < ops.size → ∀ d ∈ D y, d.1 = id → d.1 < (σ y).h.next → ordered (Region.before ops) y x = true ∨ ∀ d ∈ D y, d.1 = id → Off d off m := by
        intro y hy d hd hdi hlt'
        have hey : Eop σ D y := ⟨d, hd, hlt'⟩
        rcases free_spec hfr K ho (Array.getElem?_eq_getElem hy) hw (want y hy hey) hey with h | h | ⟨_, hto'⟩
        · subst h; rw [hd0] at hd; cases hd
        · exact .inl h
        · right
          intro d' hd' hdi'
          rcases hto' with h | ⟨id', off', m', h, hoff⟩
          · rw [hto] at h; cases h
          · rw [hto] at h
            injection h with e1 e2 e3
            subst e1; subst e2; subst e3
            exact hoff d' hd' (by rw [hdi']; rw [hdi] at hlt'; exact hlt') hdi'
      have eord : ∀ i j, i < ops.size → j < ops.size → Eop σ D i → Eop σ D j → j < i → L i → L j := by
        intro i j hi hj hei hej hji hLi
        rcases free_spec hfr K (Array.getElem?_eq_getElem hi) (Array.getElem?_eq_getElem hj) (want i hi hei) (want j hj hej) hej with h | h | ⟨h, _⟩
        · omega
        · unfold ordered at h
          simp only [Bool.or_eq_true] at h
          rcases h with h | h
          · have := before_lt hlt j i h; omega
          · exact down_closed hlt hL i j hLi h
        · exact absurd hei h
      have seg0 : (cur σ D L x id).bind (·.seg off m) = ((σ x).h.get id).bind (·.seg off m) := by
        refine cur_seg hs old x (by omega) fun i hi ht => ?_
        rcases ht with ⟨⟨d, hd, hdi⟩, h3⟩ | ⟨h3, h4⟩
        · rcases free i (by omega) d hd hdi (by rw [hdi]; exact h3) with h | h
          · exact .inl ((order (.inr h)).1 hi)
          · exact .inr ⟨h3, h⟩
        · left
          by_cases hLi : L i
          · exact hLi
          · rw [I.hole i (by omega) hLi id g h3 h4] at hmu; cases hmu
      have seg1 : (cur σ D L ops.size id).bind (·.seg off m) = ((σ x).h.get id).bind (·.seg off m) := by
        refine cur_seg_above hs old seg0 ops.size (by omega) (Nat.le_refl _) fun i hi1 hi2 hLi hti j hj1 hj2 htj => ?_
        have nx : (σ x).h.next ≤ (σ j).h.next := hle j x hj1 (by omega)
        have nx' : (σ x).h.next ≤ (σ i).h.next := hle i x hi1 (by omega)
        have hdj : ∃ d ∈ D j, d.1 = id := by
          rcases htj with ⟨h, _⟩ | ⟨h, _⟩
          · exact h
          · omega
        have hdi : ∃ d ∈ D i, d.1 = id := by
          rcases hti with ⟨h, _⟩ | ⟨h, _⟩
          · exact h
          · omega
        obtain ⟨d, hd, hdid⟩ := hdj
        obtain ⟨d', hd', hdid'⟩ := hdi
        refine ⟨by omega, ?_⟩
        have hjne : j ≠ x := fun e => by subst e; rw [hd0] at hd; cases hd
        have hLj : L j := by
          by_cases e : j = i
          · subst e; exact hLi
          · exact eord i j hi2 (by omega) ⟨d', hd', by omega⟩ ⟨d, hd, by omega⟩ (by omega) hLi
        rcases free j (by omega) d hd hdid (by omega) with h | h
        · exact absurd hLj ((order (.inr h)).2 (by omega))
        · exact h
      have hsome : ∃ b, cur σ D L ops.size id = some b := by
        cases hq : cur σ D L ops.size id with
        | some b => exact ⟨b, rfl⟩
        | none =>
          exfalso
          have h3 := seg1
          rw [hq, hb0] at h3
          -- B read cells there
          have h4 := h2 { next := (σ x).h.next, blks := [], dirty := [] } (by
            show (none : Option Blk).bind _ = _
            rw [get_dirty, hb0]
            exact h3)
          have hrun : operV C call { (σ x) with h := { next := (σ x).h.next, blks := [], dirty := [] } } o = none := by
            rw [oper_step (by rw [hop2]; exact fun c q => by cases q) hndef, hop2]
            have : evalO (σ x).env oa = some (.ptr id g off) := hptr
            simp only [stepV, this]
            have hl : loadV C.tab { next := (σ x).h.next, blks := [], dirty := [] } t (.ptr id g off) = none := by
              have hr : ∀ n, readCells C.tab { next := (σ x).h.next, blks := [], dirty := [] } (.ptr id g off) n = none := fun n => rfl
              unfold loadV
              split
              · split
                · rw [hr]; rfl
                · rfl
              · rw [hr]
              · rfl
            rw [hl]
          have h4 : operV C call { (σ x) with h := { next := (σ x).h.next, blks := [], dirty := [] } } o = _ := h4
          rw [hrun] at h4
          cases h4
      obtain ⟨b, hb⟩ := hsome
      have get1 : ∀ i, ({ next := (σ x).h.next, blks := [(id, b)], dirty := [] } : Heap).get i = if i = id then some b else none := by
        intro i
        show look i [(id, b)] = _
        unfold look
        by_cases e : i = id
        · subst e; simp
        · have : Nat.beq id i = false := by
            cases hq : Nat.beq id i with
            | false => rfl
            | true => exact absurd (Nat.eq_of_beq_eq_true hq).symm e
          simp [this, e, look]
      refine ⟨{ next := (σ x).h.next, blks := [(id, b)], dirty := [] }, { next := (σ x).h.next, blks := [(id, b)], dirty := [] }, rfl, hnx'.symm, rfl, hd0.symm, fun i b' hg => ?_, fun i b' hg _ => ?_, fun i ht => ?_, ?_⟩
      · rw [get1] at hg
        split at hg
        · rename_i e; subst e; exact hid
        · cases hg
      · rw [get1] at hg
        split at hg
        · rename_i e; subst e; rw [hb]; exact hg
        · cases hg
      · exfalso
        rcases ht with ⟨⟨d, hd, _⟩, _⟩ | ⟨h3, h4⟩
        · rw [hd0] at hd; cases hd
        · omega
      · rw [← oper_congr call (s := { (σ x) with h := { next := (σ x).h.next, blks := [(id, b)], dirty := [] } }) (s' := { env := E, h := { next := (σ x).h.next, blks := [(id, b)], dirty := [] }, ds := (σ x).ds, rd := (σ x).rd }) hE rfl rfl rfl]
        refine h2 _ ?_
        rw [get1, if_pos rfl, get_dirty, ← hb]
        exact seg1
end
end Go.B
end
section
/- Regions that draw their order: DrawOk. -/
namespace Go.B
open Go Go.RowKit

section
variable {P : Program} {C : Conf} {w0 wS : World} {Γ0 Γ Δ : Ctx} {T : Tab} {w w' : World} {N : Nat}
variable {call : CallF} {ops : Array Oper} {σ : Nat → St} {wd : Nat → Bool} {v : Nat → Val} {D : Nat → List (Nat × Option (Nat × Nat))} {ds : List Did}

def listedL (listed : Array Bool) : Nat → Prop := fun i => listed.getD i false = true

theorem listedL_set {listed : Array Bool} {x : Nat} (hx : x < listed.size) : listedL (listed.setIfInBounds x true) = fun i => listedL listed i ∨ i = x := by
  funext i
  apply propext
  unfold listedL
  by_cases e : x = i
  · subst e; simp [Array.getD, hx]
  · have e' : ¬ i = x := fun h => e h.symm
    rw [getD_set_ne false e]
    simp [e']

theorem unlisted {listed : Array Bool} {x : Nat} (h : listed.getD x true = false) : x < listed.size ∧ ¬ listedL listed x := by
  unfold listedL
  by_cases hx : x < listed.size
  · simp [Array.getD, hx] at h ⊢; exact h
  · simp [Array.getD, hx] at h

theorem count_set {listed : Array Bool} {x : Nat} (h : listed.getD x true = false) : (listed.setIfInBounds x true).toList.count false + 1 = listed.toList.count false := by
  have hx := (unlisted h).1
  have hv : listed.toList[x]'(by simpa using hx) = false := by simpa [Array.getD, hx] using h
  have hmem : 0 < listed.toList.count false := List.count_pos_iff.2 (by rw [← hv]; exact List.getElem_mem _)
  rw [Array.toList_setIfInBounds, List.count_set (by simpa using hx)]
  rw [if_pos (by rw [hv]; rfl), if_neg (by decide)]
  omega

theorem draw_go (hT : TabOk P C.tab) (hc : CallOk C P w0 call) (hdr : drawOk ops = true) (hfr : freeAll (Region.before ops) ds = true) (K : Chain C call ops 0 ops.size σ wd v D ds) (hl : (σ ops.size).ds.length = (σ 0).ds.length)
    (hs : ∀ i, i < ops.size → Steps (σ i).h (σ (i + 1)).h (D i)) (old : ∀ i, i ≤ ops.size → ∀ id b, (σ i).h.get id = some b → id < (σ i).h.next) {ro : Option Nat} {Q : Exit → Act → World → Prop} 
    (hQ : ∀ Γ w a, Inv w0 wS C.tab Γ0 ops.size σ D (fun i => i < ops.size) Γ w → ERel Γ (σ ops.size).env a.tmps → DsRel Γ w N w.heap.size (σ 0).ds a.defers → N ≤ w.heap.size → Q .normal a w) :
    ∀ (fuel : Nat) (listed : Array Bool) (Γ : Ctx) (w : World) (a : Act) (E : Env), listed.size = ops.size → listed.toList.count false ≤ fuel → Inv w0 wS C.tab Γ0 ops.size σ D (listedL listed) Γ w → ERel Γ E a.tmps →
      (∀ t, E[t]? = curE σ ops (listedL listed) ops.size t) → (∀ j o, ops[j]? = some o → listedL listed j → ∀ e ∈ o.after, Region.binds .any e = true → listedL listed e.on) →
      DsRel Γ w N w.heap.size (σ 0).ds a.defers → N ≤ w.heap.size → wpAnyIn (Fat ro) 0 P .any ops Q fuel listed a w := by
  obtain ⟨hlt, hdst⟩ := drawOk_spec hdr
  -- all are listed
  have fin : ∀ (listed : Array Bool) (Γ : Ctx) (w : World) (a : Act) (E : Env), listed.size = ops.size → Inv w0 wS C.tab Γ0 ops.size σ D (listedL listed) Γ w → ERel Γ E a.tmps →
      (∀ t, E[t]? = curE σ ops (listedL listed) ops.size t) → DsRel Γ w N w.heap.size (σ 0).ds a.defers → N ≤ w.heap.size → (∀ i, i < ops.size → listedL listed i) → Q .normal a w := by
    intro listed Γ w a E hsz I hE hEt hds hN hall
    have e : listedL listed = fun i => i < ops.size := by
      funext i
      apply propext
      refine ⟨fun h => ?_, hall i⟩
      unfold listedL at h
      rw [← hsz]
      by_cases hi : i < listed.size
      · exact hi
      · simp [Array.getD, hi] at h
    rw [e] at I hEt
    refine hQ Γ w a I ?_ hds hN
    have : E = (σ ops.size).env := by
      apply List.ext_getElem?
      intro t
      rw [hEt t, curE_all K ops.size (Nat.le_refl _) fun i hi _ => hi]
    rw [← this]; exact hE
  have none_ready : ∀ (listed : Array Bool), listed.size = ops.size → Region.ready .any ops listed = [] → ∀ i, i < ops.size → listedL listed i := by
    intro listed hsz hr i
    induction i using Nat.strongRecOn with
    | _ i ih =>
      intro hi
      apply Classical.byContradiction
      intro hn
      have : i ∈ Region.ready .any ops listed := by
        rw [mem_ready]
        refine ⟨?_, _, Array.getElem?_eq_getElem hi, fun e he hb => ?_⟩
        · unfold listedL at hn
          simp [Array.getD, hsz, hi] at hn ⊢
          exact hn
        · have h1 := hlt i _ (Array.getElem?_eq_getElem hi) e he hb
          exact ih e.on h1 (by omega)
      rw [hr] at this
      cases this
  intro fuel
  induction fuel with
  | zero =>
    intro listed Γ w a E hsz hcnt I hE hEt hL hds hN
    have hall : ∀ i, i < ops.size → listedL listed i := by
      intro i hi
      have h0 : listed.toList.count false = 0 := by omega
      have h1 := List.count_eq_zero.1 h0
      unfold listedL
      cases hq : listed.getD i false with
      | true => rfl
      | false =>
        exfalso
        apply h1
        have hi' : i < listed.size := by omega
        simp [Array.getD, hi'] at hq
        rw [← hq]
        simp
    refine ⟨?_, fin listed Γ w a E hsz I hE hEt hds hN hall⟩
    cases hr : Region.ready .any ops listed with
    | nil => rfl
    | cons i l =>
      exfalso
      have hm : i ∈ Region.ready .any ops listed := by rw [hr]; simp
      rw [mem_ready] at hm
      have h1 := unlisted hm.1
      exact h1.2 (hall i (by omega))
  | succ fuel ih =>
    intro listed Γ w a E hsz hcnt I hE hEt hL hds hN
    refine ⟨fun hr => fin listed Γ w a E hsz I hE hEt hds hN (none_ready listed hsz hr), fun x hxr => ?_⟩
    rw [mem_ready] at hxr
    obtain ⟨hun, o, ho, hpre⟩ := hxr
    obtain ⟨hxs, hnx⟩ := unlisted hun
    have hx : x < ops.size := by omega
    have hpre : ∀ e ∈ o.after, Region.binds .any e = true → listedL listed e.on := hpre
    have order := @next_order ops hlt (listedL listed) hL x o ho hpre hnx
    have LK := K.link x o (Nat.zero_le _) hx ho
    have hcnt' := count_set hun
    -- what it looks at is as it was in the text's order
    have looks : ∀ t ∈ looksOf ops o, (σ x).env[t]? = E[t]? := by
      intro t ht
      rw [hEt t, curE_same (p := x) ops.size (by omega) ?_, curE_all K x (by omega) ?_]
      · rintro i hi ⟨oi, hoi, hdi⟩
        exact (order (.inr (hdst i oi x o t hoi ho hdi (by omega) (.inl ht)))).1 hi
      · rintro i hi1 hi2 hLi ⟨oi, hoi, hdi⟩
        by_cases e : i = x
        · subst e; exact hnx hLi
        · exact (order (.inr (hdst i oi x o t hoi ho hdi e (.inl ht)))).2 (by omega) hLi
    have hL' : ∀ j o, ops[j]? = some o → (fun i => listedL listed i ∨ i = x) j → ∀ e ∈ o.after, Region.binds .any e = true → (fun i => listedL listed i ∨ i = x) e.on := by
      rintro j oj hj (hLj | rfl) e he hb
      · exact .inl (hL j oj hj hLj e he hb)
      · rw [ho] at hj; injection hj with hj; subst hj
        exact .inl (hpre e he hb)
    have hE' : ∀ t, (putV E o.dst (v x))[t]? = curE σ ops (fun i => listedL listed i ∨ i = x) ops.size t := by
      intro t
      by_cases hd : o.dst = some t
      · have hdx : Dst ops x t := ⟨o, ho, hd⟩
        rw [curE_same (p := x + 1) ops.size (by omega) ?_]
        · unfold curE
          rw [if_pos ⟨.inr rfl, hdx⟩, LK.env, hd]
          simp only [putV]
          have hlen : E.length = (σ x).env.length := by
            have h1 := env_length K x (by omega)
            rw [h1]
            have h2 : ∀ p, p ≤ ops.size → ∀ t, (curE σ ops (listedL listed) p t).isSome = ((σ 0).env[t]?).isSome := by
              intro p
              induction p with
              | zero => exact fun _ _ => rfl
              | succ p ihp =>
                intro hp t
                unfold curE
                split
                · have h3 := env_length K (p + 1) hp
                  rw [Bool.eq_iff_iff]
                  simp [h3]
                · exact ihp (by omega) t
            have h4 : ∀ t, (E[t]?).isSome = ((σ 0).env[t]?).isSome := fun t => by rw [hEt t]; exact h2 ops.size (Nat.le_refl _) t
            have h5 : ∀ t, t < E.length ↔ t < (σ 0).env.length := fun t => by
              have := h4 t
              rw [Bool.eq_iff_iff] at this
              simpa using this
            have h6 := h5 E.length
            have h7 := h5 (σ 0).env.length
            omega
          by_cases h8 : t < E.length
          · rw [List.getElem?_set_self h8, List.getElem?_set_self (by omega)]
          · rw [List.getElem?_eq_none (by simp; omega), List.getElem?_eq_none (by simp; omega)]
        · rintro i hi1 hi2 (hLi | rfl) ⟨oi, hoi, hdi⟩
          · exact (order (.inl (hdst x o i oi t ho hoi hd (by omega) (.inr hdi)))).2 (by omega) hLi
          · omega
      · rw [curE_more (x := x) (fun ⟨o', ho', hd'⟩ => by rw [ho] at ho'; injection ho' with ho'; subst ho'; exact hd hd') ops.size, ← hEt t]
        unfold putV
        split
        · rename_i d hd'
          rw [List.getElem?_set_ne]
          intro e; subst e; exact hd hd'
        · rfl
    have hwE : wantedV ops E o = some (wd x) := by
      rw [← wanted_congr (ops := ops) (env := (σ x).env) (env' := E) looks]
      exact LK.wanted
    have go : ∀ Δ (w' : World) (a' : Act), Inv w0 wS C.tab Γ0 ops.size σ D (fun i => listedL listed i ∨ i = x) Δ w' → ERel Δ (putV E o.dst (v x)) a'.tmps → DsRel Δ w' N w'.heap.size (σ 0).ds a'.defers → N ≤ w'.heap.size →
        wpAnyIn (Fat ro) 0 P .any ops Q fuel (listed.setIfInBounds x true) a' w' := by
      intro Δ w' a' I' hE2 hds' hN'
      rw [← listedL_set hxs] at I' hE' hL'
      exact ih (listed.setIfInBounds x true) Δ w' a' _ (by simp [hsz]) (by omega) I' hE2 hE' hL' hds' hN'
    unfold wpOpIn
    simp only [ho]
    rw [wanted_rel hE hwE]
    cases hw : wd x with
    | true =>
      rw [if_pos rfl]
      obtain ⟨Hx, Hx', A⟩ := at_of hdr hfr K hl hs old hL I ho hnx hpre hw (looks_eval looks) hE
      have hR : Rel w0 C.tab Γ Hx w := I.rel.part (fun id b g hm => by rw [get_cur hs old]; exact A.here id b g hm) A.old
      obtain ⟨hds0, hndef⟩ := ds_same K hl hx
      have hfx : Fresh Γ Hx.next Hx'.next := by rw [A.next, A.next']; exact I.hole x hx hnx
      obtain ⟨hg, _⟩ := oper_sound C hT hc A.run (hndef hw o ho) hR hE hfx
      refine wpIn_of_next (hndef hw o ho) hg fun v' w' ⟨Δ, D', h1, h2⟩ => ?_
      have hD : D' = D x := by
        have h3 := h2.dirty
        rw [A.dirty, A.dirty', List.append_nil] at h3
        exact h3.symm
      subst hD
      have I' := I.step hs old hx hnx h2 A.next A.next' A.old A.here A.there
      refine go Δ w' _ I' (putV_rel (hE.mono h2.le) h1 o.dst) ?_ (Nat.le_trans hN h2.size)
      rw [put_defers]
      exact hds.adv hR h2 h2.size
    | false =>
      simp only [Bool.false_eq_true, if_false]
      obtain ⟨h1, h2, h3, h4⟩ := LK.skip hw
      refine ⟨fun f _ => trivial, ?_⟩
      have hR : Rel w0 C.tab Γ { next := (σ x).h.next, blks := [], dirty := [] } w := I.rel.part (fun id b g _ => by cases g) fun id b g => by cases g
      have A0 : Adv w0 C.tab Γ { next := (σ x).h.next, blks := [], dirty := [] } w Γ { next := (σ x).h.next, blks := [], dirty := [] } w (D x) := by rw [h2]; exact .refl hR
      have I' := I.step hs old hx hnx A0 rfl (by rw [h3]) (fun id b g => by cases g) (fun id b g => by cases g) (fun id ht => by
        rcases ht with ⟨⟨d, hd, _⟩, _⟩ | ⟨h5, h6⟩
        · rw [h2] at hd; cases hd
        · rw [h3] at h6; omega)
      refine go Γ w _ I' ?_ ?_ hN
      · rw [h1]; exact putV_rel hE undef_rel o.dst
      · rw [put_defers]; exact hds

theorem Adv.of_start {h h' : Heap} {Γ Δ : Ctx} {wd : World} (A : Adv w0 T Γ h wd Δ h' w' (D 0)) (hh : wd.heap = w.heap) : Adv w0 T Γ h w Δ h' w' (D 0) where
  le := A.le
  rel := A.rel
  next := A.next
  size := by rw [← hh]; exact A.size
  frame := by rw [← hh]; exact A.frame
  mu := A.mu
  was := by rw [← hh]; exact A.was
  new := by rw [← hh]; exact A.new
  dirty := A.dirty
  log := A.log
  dom := A.dom
  fzn := by rw [← hh]; exact A.fzn

theorem draw_ok (hT : TabOk P C.tab) (hm : P.follows .mixedOrders = true) (hc : CallOk C P w0 call) (hgr : Grows call) : DrawOk C P w0 call := by
  intro ops s s' h N Γ ro a w S hf id
  unfold drawV at h
  split at h
  · rename_i s2 l hops
    obtain ⟨hb, h⟩ := bif_some h
    injection h with h
    subst h
    simp only [Bool.and_eq_true] at hb
    obtain ⟨⟨hdr, hlen⟩, hfr⟩ := hb
    have hlen := nat_beq_eq hlen
    obtain ⟨σ, wd, v, D, e0, en, K⟩ := chain_of ops.toList 0 (fun j => by simp) s s2 l hops
    simp only [Nat.zero_add, Array.length_toList] at en K
    subst e0
    subst en
    have hs := chain_steps hT hc hgr K S hf
    have old : ∀ i, i ≤ ops.size → ∀ id b, (σ i).h.get id = some b → id < (σ i).h.next := fun i hi => by
      obtain ⟨Γi, ai, wi, Si, _⟩ := chain_model hT hc hgr K S hf i hi
      exact Si.rel.old
    refine wpIn_region_any hm ?_
    have R' : Rel w0 C.tab Γ (σ 0).h { w with drawn := w.drawn + 1 } := S.rel.of_heap rfl rfl rfl rfl
    have I0 := Inv.start (D := D) hs old R' hf
    have hnone : listedL (Array.replicate ops.size false) = fun _ => False := by
      funext i
      apply propext
      unfold listedL
      by_cases hi : i < ops.size <;> simp [Array.getD, hi]
    refine draw_go (wS := { w with drawn := w.drawn + 1 }) (Γ0 := Γ) (N := N) hT hc hdr hfr K hlen hs old (fun Δ w' a' I hE hds hN => ?_) ops.size (Array.replicate ops.size false) Γ _ a (σ 0).env (by simp) ?_ ?_ S.env ?_ ?_ (S.ds.of_heap rfl) S.big
    · obtain ⟨DD, A⟩ := I.done hs old
      refine ⟨rfl, Δ, DD, ⟨A.rel, hE, ?_, hN, ?_⟩, Adv.of_start (D := fun _ => DD) A rfl⟩
      · rw [ds_all K hlen ops.size (Nat.le_refl _)]; exact hds
      · rw [rd_all K ops.size (Nat.le_refl _)]; exact S.rd.mono A.le
    · simp
    · rw [hnone]; exact I0
    · intro t
      rw [hnone, curE_none (fun _ h => h)]
    · intro j o _ hj
      rw [hnone] at hj
      exact hj.elim
  · cases h
end
end Go.B
end
