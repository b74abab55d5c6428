/- A part of the proof that scrim/scrimlaw21.QueryPixels returns true at every input. -/
import Derived.Test.YtcchpcpanogbpaaGreatDoorB11
import Derived.Test.YtcchpcpanogbpaaGreatDoorF3
set_option linter.unusedSimpArgs false
set_option linter.unusedVariables false
section
/- Answers of calls that are known: a table of them; a configuration with more of them is right, too. -/
namespace Go.B
open Go Go.RowKit

def sameS : List UInt8 → List UInt8 → Bool
  | [], [] => true
  | a :: l, b :: m => Nat.beq a.toNat b.toNat && sameS l m
  | _, _ => false

theorem sameS_eq : ∀ {l m : List UInt8}, sameS l m = true → l = m
  | [], [], _ => rfl
  | a :: l, b :: m, h => by
    simp only [sameS, Bool.and_eq_true] at h
    have := UInt8.toNat_inj.1 (Nat.eq_of_beq_eq_true h.1)
    rw [this, sameS_eq h.2]

def sameL (f : Val → Val → Bool) : List Val → List Val → Bool
  | [], [] => true
  | a :: l, b :: m => f a b && sameL f l m
  | _, _ => false

theorem sameL_eq {f : Val → Val → Bool} (hf : ∀ a b, f a b = true → a = b) : ∀ {l m : List Val}, sameL f l m = true → l = m
  | [], [], _ => rfl
  | a :: l, b :: m, h => by
    simp only [sameL, Bool.and_eq_true] at h
    rw [hf a b h.1, sameL_eq hf h.2]

/-- Are two values the same? (Of those that hold no address, at least.) -/
noncomputable def sameV : Nat → Val → Val → Bool
  | 0, _, _ => false
  | _ + 1, .bool a, .bool b => Bool.rec (Bool.rec true false b) (Bool.rec false true b) a
  | _ + 1, .int k a, .int k' b => Nat.beq (kindN k) (kindN k') && eqI a b
  | _ + 1, .str a, .str b => sameS a b
  | _ + 1, .nilp, .nilp => true
  | _ + 1, .nils, .nils => true
  | _ + 1, .nilf, .nilf => true
  | _ + 1, .nili, .nili => true
  | _ + 1, .nilm, .nilm => true
  | n + 1, .agg a, .agg b => sameL (sameV n) a b
  | n + 1, .tup a, .tup b => sameL (sameV n) a b
  | n + 1, .ifc t a, .ifc u b => Nat.beq t u && sameV n a b
  | _, _, _ => false

theorem sameV_eq : ∀ (n : Nat) (a b : Val), sameV n a b = true → a = b
  | 0, a, b, h => by simp [sameV] at h
  | n + 1, a, b, h => by
    cases a <;> cases b <;> first | rfl | (simp [sameV] at h; done) | skip
    case bool.bool a b => cases a <;> cases b <;> first | rfl | (cases h; done)
    case int.int k a k' b =>
      simp only [sameV, Bool.and_eq_true] at h
      have h1 := kindN_inj h.1
      have h2 := h.2
      rw [eqI_eq, beq_iff_eq] at h2
      rw [h1, h2]
    case str.str a b => rw [sameS_eq h]
    case agg.agg a b => rw [sameL_eq (sameV_eq n) h]
    case tup.tup a b => rw [sameL_eq (sameV_eq n) h]
    case ifc.ifc t a u b =>
      simp only [sameV, Bool.and_eq_true] at h
      rw [Nat.eq_of_beq_eq_true h.1, sameV_eq n _ _ h.2]

/-- Known answers, by function. -/
abbrev Tbl := List (Nat × List (List Val × Val))
def tblOf : Tbl → Nat → List (List Val × Val)
  | [], _ => []
  | (g, l) :: t, f => bif Nat.beq g f then l else tblOf t f
noncomputable def findA (args : List Val) : List (List Val × Val) → Option Val
  | [] => none
  | (a, v) :: l => bif sameL (sameV 20) a args then some v else findA args l

/-- More answers are known. -/
noncomputable def Conf.with (C : Conf) (L : Tbl) : Conf := { C with sum := fun f args => match findA args (tblOf L f) with
  | some v => some v
  | none => C.sum f args }
def Conf.al (C : Conf) (a : FuncId → Bool) : Conf := { C with alone := a }

/-- Such an answer is what B comes to, wherever it is called. -/
def Known (C : Conf) (f : FuncId) (e : List Val × Val) : Prop := ∃ a n, ∀ h, callV (C.al a) n (.fn f) e.1 h = some (e.2, h)
def KnownL (C : Conf) (f : FuncId) : List (List Val × Val) → Prop
  | [] => True
  | e :: l => Known C f e ∧ KnownL C f l
def KnownT (C : Conf) : Tbl → Prop
  | [] => True
  | p :: t => KnownL C p.1 p.2 ∧ KnownT C t

theorem knownL {C : Conf} {f : FuncId} : ∀ {l : List (List Val × Val)}, KnownL C f l → ∀ e ∈ l, Known C f e
  | [], _, e, he => by cases he
  | x :: l, h, e, he => by
    rcases List.mem_cons.1 he with rfl | he
    · exact h.1
    · exact knownL h.2 e he
theorem knownT {C : Conf} : ∀ {L : Tbl}, KnownT C L → ∀ f, KnownL C f (tblOf L f)
  | [], _, f => trivial
  | (g, l) :: t, h, f => by
    simp only [tblOf]
    cases hb : Nat.beq g f with
    | true =>
      have := Nat.eq_of_beq_eq_true hb
      subst this
      exact h.1
    | false => exact knownT h.2 f

theorem findA_mem {args : List Val} {v : Val} : ∀ {l : List (List Val × Val)}, findA args l = some v → (args, v) ∈ l
  | [], h => by cases h
  | (a, x) :: l, h => by
    simp only [findA] at h
    cases hb : sameL (sameV 20) a args with
    | true =>
      rw [hb, cond_true] at h
      injection h with h
      subst h
      rw [sameL_eq (sameV_eq 20) hb]; simp
    | false =>
      rw [hb, cond_false] at h
      exact List.mem_cons_of_mem _ (findA_mem h)

/-- What is asked of a configuration. -/
structure ConfGood (C : Conf) (P : Program) (Good : World → Prop) : Prop where
  tab : TabOk P C.tab
  keep : ∀ w w', Good w → Below w.heap.size w w' → Good w'
  mixed : P.follows .mixedOrders = true
  sum : ∀ w0, Good w0 → ∀ f args v, C.sum f args = some v → ∀ (Γ : Ctx) (h : Heap) (w : World) (args' : Array Value), Rel w0 C.tab Γ h w → LRel Γ args args'.toList → Gives P w0 C.tab Γ h w (callFunc f args') v h

variable {C : Conf} {P : Program} {Good : World → Prop}

theorem ConfGood.ok (H : ConfGood C P Good) : ConfOk C P Good := ⟨H.tab, H.keep, H.sum, fun _ _ _ hc hgr => draw_ok H.tab H.mixed hc hgr⟩

theorem ConfGood.al (H : ConfGood C P Good) (a : FuncId → Bool) : ConfGood (C.al a) P Good := ⟨H.tab, H.keep, H.mixed, H.sum⟩

theorem ConfGood.more (H : ConfGood C P Good) {L : Tbl} (hL : KnownT C L) : ConfGood (C.with L) P Good where
  tab := H.tab
  keep := H.keep
  mixed := H.mixed
  sum := fun w0 hg f args v hs Γ h w args' R ha => by
    have hs : (match findA args (tblOf L f) with | some v => some v | none => C.sum f args) = some v := hs
    split at hs
    · rename_i x hx
      injection hs with hs
      subst hs
      obtain ⟨a, n, hc⟩ := knownL (knownT hL f) _ (findA_mem hx)
      exact (call_ok (H.al a).ok n w0 hg).fn f args h x h (hc h) Γ w args' R ha fun id g h1 h2 => by omega
    · exact H.sum w0 hg f args v hs Γ h w args' R ha

/-- Answers that were found over another configuration of the same program. -/
theorem ConfGood.more' {C' : Conf} (H : ConfGood C P Good) (H' : ConfGood C' P Good) (ht : C'.tab = C.tab) {L : Tbl} (hL : KnownT C' L) : ConfGood (C.with L) P Good where
  tab := H.tab
  keep := H.keep
  mixed := H.mixed
  sum := fun w0 hg f args v hs Γ h w args' R ha => by
    have hs : (match findA args (tblOf L f) with | some v => some v | none => C.sum f args) = some v := hs
    split at hs
    · rename_i x hx
      injection hs with hs
      subst hs
      obtain ⟨a, n, hc⟩ := knownL (knownT hL f) _ (findA_mem hx)
      have R : Rel w0 C.tab Γ h w := R
      show Gives P w0 C.tab Γ h w (callFunc f args') x h
      rw [← ht] at R ⊢
      exact (call_ok (H'.al a).ok n w0 hg).fn f args h x h (hc h) Γ w args' R ha fun id g h1 h2 => by omega
    · exact H.sum w0 hg f args v hs Γ h w args' R ha

theorem known_of {f : FuncId} {args : List Val} {v : Val} (a : FuncId → Bool) (n : Nat) (h : ∀ h, callF (C.al a) n (.fn f) args h = .ok v h) : Known C f (args, v) :=
  ⟨a, n, fun h0 => callF_ok (C.al a) n _ _ _ _ _ (h h0)⟩
end Go.B
end
section
/- What must hold ahead of B's code for a condition to hold behind it: by computation, calls left to their contracts. Plain definitions. -/
namespace Go.B
open Go
noncomputable section

/-- A call comes to a value and a heap of which 'k' holds. -/
def wpT (call : CallF) (t : Tgt) (args : List Val) (h : Heap) (k : Val → Heap → Prop) : Prop := ∃ v h', call t args h = some (v, h') ∧ k v h'

def plR (h : Heap) (v : Option Val) : Res := Option.rec (motive := fun _ => Res) .no (fun v => .ok v h) v
def plP (v : Option (Val × Heap)) : Res := Option.rec (motive := fun _ => Res) .no (fun r => Prod.rec (motive := fun _ => Res) (fun v h => .ok v h) r) v
def plH (v : Option Heap) : Res := Option.rec (motive := fun _ => Res) .no (fun h => .ok (.tup []) h) v

/-- Numbers as they come. -/
def cmpB (op : BinOp) (a b : Int) : Bool := BinOp.rec (motive := fun _ => Bool) false false false false false false false false false false false
  (eqI a b) (Bool.not (eqI a b)) (ltI a b) (Bool.not (ltI b a)) (ltI b a) (Bool.not (ltI a b)) op
def wrapI (k : IntKind) (z : Int) : Int := Bool.rec (motive := fun _ => Int) (k.wrap z) z (inK k z)
def arW (op : BinOp) (k : IntKind) (a b : Int) : Int := BinOp.rec (motive := fun _ => Int)
  (wrapI k (addI a b)) (wrapI k (a - b)) (wrapI k (a * b)) (k.wrap (a.tdiv b)) (a.tmod b)
  (k.wrap (BitVec.ofInt k.bits a &&& BitVec.ofInt k.bits b).toNat) (k.wrap (BitVec.ofInt k.bits a ||| BitVec.ofInt k.bits b).toNat) (k.wrap (BitVec.ofInt k.bits a ^^^ BitVec.ofInt k.bits b).toNat)
  (k.wrap (a * 2 ^ (min b.toNat k.bits))) (a.fdiv (2 ^ (min b.toNat k.bits))) (k.wrap (BitVec.ofInt k.bits a &&& ~~~(BitVec.ofInt k.bits b)).toNat)
  0 0 0 0 0 0 op
/-- Texts. -/
def eqS (x : List UInt8) : List UInt8 → Bool := List.rec (motive := fun _ => List UInt8 → Bool) (fun y => List.rec (motive := fun _ => Bool) true (fun _ _ _ => false) y)
  (fun a _ ih y => List.rec (motive := fun _ => Bool) false (fun b m _ => Bool.rec (motive := fun _ => Bool) false (ih m) (Nat.beq a.toNat b.toNat)) y) x
def cmpS (op : BinOp) (x y : List UInt8) : Bool := BinOp.rec (motive := fun _ => Bool) false false false false false false false false false false false
  (eqS x y) (Bool.not (eqS x y)) (bytesLt x y) (bytesLt x y || x == y) (!(bytesLt x y || x == y)) (!bytesLt x y) op
inductive Ts where
  | no
  | str (s : List UInt8)
def asTs (v : Val) : Ts :=
  Val.rec (motive_1 := fun _ => Ts) (motive_2 := fun _ => Unit) (fun _ => .no) (fun _ _ => .no) (fun s => .str s) .no (fun _ _ _ => .no) (fun _ _ _ => .no) (fun _ _ => .no)
    .no (fun _ _ _ _ _ => .no) (fun _ _ _ _ _ => .no) .no (fun _ _ _ _ _ => .no) (fun _ _ _ => .no) (fun _ => .no) .no (fun _ _ _ => .no) .no (fun _ _ => .no) (fun _ _ => .no) (fun _ => .no) .no .no () (fun _ _ _ _ => ()) v
/-- 0: reckons; 1: compares; 2: divides; 3: shifts. -/
def kindOp : BinOp → Nat
  | .add | .sub | .mul | .and | .or | .xor | .andNot => 0
  | .quo | .rem => 2
  | .shl | .shr => 3
  | _ => 1
def intL (op : BinOp) (k : IntKind) (a b : Int) (h : Heap) : Nat → Res
  | 0 => .ok (.int k (arW op k a b)) h
  | 1 => .ok (.bool (cmpB op a b)) h
  | _ => Bool.rec (motive := fun _ => Res) (.ok (.int k (arW op k a b)) h) .no (eqI b (.ofNat 0))
def binL (T : Tab) (op : BinOp) (t : TypeId) (c : Bool) (x y : Val) (h : Heap) : Res :=
  Nm.rec (motive := fun _ => Res)
    (Ts.rec (motive := fun _ => Res) (plR h (binV T op t x y c)) (fun a => Ts.rec (motive := fun _ => Res) (plR h (binV T op t x y c)) (fun b =>
      Bool.rec (motive := fun _ => Res) (plR h (binV T op t x y c)) (.ok (.bool (cmpS op a b)) h) (Nat.beq (kindOp op) 1)) (asTs y)) (asTs x))
    (fun k a => Nm.rec (motive := fun _ => Res) (plR h (binV T op t x y c)) (fun k' b =>
      Bool.rec (motive := fun _ => Res) (Bool.rec (motive := fun _ => Res) (plR h (binV T op t x y c)) (intL op k a b h (kindOp op)) (Nat.beq (kindN k) (kindN k')))
        (Bool.rec (motive := fun _ => Res) (.ok (.int k (arW op k a b)) h) .no (ltI b (.ofNat 0))) (Nat.beq (kindOp op) 3)) (asNm y)) (asNm x)

def boxL (m : Nat) (t : TypeId) (v : Val) (h : Heap) : Res :=
  bif lenK (cellsF v) m && allCell (cellsF v) then
    hdL (cellsF v) fun cs => Heap.rec (motive := fun _ => Res) (fun nx bs d => forceN nx fun nx => forceN (Nat.succ nx) fun nx' => .ok (.ptr nx 0 0) ⟨nx', (nx, .row cs 0 false 0 m t false) :: bs, d⟩) h
  else .no

section
variable (n : Nat) (C : Conf)
/-- An operation, staged; numbers are left as they come. -/
def cStepL (op : Op) : Option Fo :=
  match op with
  | .binOp op t x y _ => twoF (cO n x) (cO n y) fun a b e h => binL C.tab op t (isConst x || isConst y) (a e) (b e) h
  | .unOp op _ x => oneF (cO n x) fun g e h => plR h (unV op (g e))
  | .convert s d x => oneF (cO n x) fun g e h => plP (convV C.tab h s d (g e))
  | .slice t x lo hi mx => match cO n x, cM n lo, cM n hi, cM n mx with
    | some x, some lo, some hi, some mx => some fun e h => plR h (sliceV C.tab t (x e) (lo e) (hi e) (mx e))
    | _, _, _, _ => none
  | .index t x i => twoF (cO n x) (cO n i) fun x i e h => plR h (indexV C.tab t (x e) (i e))
  | .lookup t x i ok => twoF (cO n x) (cO n i) fun x i e h => plR h (lookupV C.tab h t (x e) (i e) ok)
  | .mapUpdate t m k x => match cO n m, cO n k, cO n x with
    | some m, some k, some x => some fun e h => plH (updateV C.tab h t (m e) (k e) (x e))
    | _, _, _ => none
  | .insert t m k x => match cO n m, cO n k, cO n x with
    | some m, some k, some x => some fun e h => plH (updateV C.tab h t (m e) (k e) (x e))
    | _, _, _ => none
  | .typeAssert x _ t ok => oneF (cO n x) fun g e h => plR h (assertV C.tab (g e) t ok)
  | .box t x => match cO n x, sizeOf C.tab t with
    | some g, some m => some fun e h => boxL m t (g e) h
    | _, _ => none
  | .makeSlice t l c => twoF (cO n l) (cO n c) fun l c e h => plP (makeSliceV C.tab h t (l e) (c e))
  | op => cStep n C op

def Res.wp (r : Res) (k : Val → Heap → Prop) : Prop := Res.rec (motive := fun _ => Prop) False k r
def whoK (call : CallF) (h : Heap) (k : Val → Heap → Prop) (w : Who) : Prop := Who.rec (motive := fun _ => Prop) False (fun t args => hdL args fun args => wpT call t args h k) w
abbrev FoK := Tr → Heap → (Val → Heap → Prop) → Prop
def cBuiltinL (b : Builtin) (ts : Array TypeId) (as : Tr → List Val) : FoK :=
  match b with
  | .len => fun e h k => (plR h (match as e with | [x] => (lengthV C.tab h ts x).map fun (n : Nat) => .int .i64 n | _ => none)).wp k
  | _ => fun e h k => (plP (builtinV C h b ts (as e))).wp k
def pickK (a b : Gt) (e : Tr) (h : Heap) (k : Val → Heap → Prop) : Val → Prop
  | .bool c => Bool.rec (motive := fun _ => Prop) (hdV (b e) fun v => k v h) (hdV (a e) fun v => k v h) c
  | _ => False
def cOpK (call : CallF) (op : Op) : Option FoK :=
  match op with
  | .call c => match c.callee with
    | .builtin b => match cL n c.args.toList with
      | some as => some (cBuiltinL C b c.argTypes as)
      | none => none
    | .value f => match cL n c.args.toList, cO n f with
      | some as, some f => some fun e h k => hdL (as e) fun as => whoK call h k (whoF C.tab h as (f e))
      | _, _ => none
    | .invoke r m => match cL n c.args.toList, cO n r with
      | some as, some r => some fun e h k => hdL (as e) fun as => whoK call h k (invF C.tab h m as (r e))
      | _, _ => none
  | .defer _ => none
  | .pick c a b => match cO n c, cO n a, cO n b with
    | some c, some a, some b => some fun e h k => pickK a b e h k (c e)
    | _, _, _ => none
  | op => Option.rec (motive := fun _ => Option FoK) none (fun f => some fun e h k => (f e h).wp k) (cStepL n C op)

abbrev KK := Tr → Heap → Ds → (Ex → Tr → Heap → Ds → Prop) → Prop
def wantK (want : Bool) (yes no : Prop) : Val → Prop
  | .bool b => Bool.rec (motive := fun _ => Prop) (Bool.rec (motive := fun _ => Prop) yes no want) (Bool.rec (motive := fun _ => Prop) no yes want) b
  | .dead => False
  | _ => no
def guardK (g : Gd) (e : Tr) (yes no : Prop) : Prop := Gd.rec (motive := fun _ => Prop) yes False no (fun t want => wantK want yes no (Tr.get e t)) g
def putK' (p : Pt) (v : Val) (e : Tr) (k : Tr → Prop) : Prop := Pt.rec (motive := fun _ => Prop) False (k e) (fun p => Tr.putK v p e k) p

def cOpsK (call : CallF) (ops : Array Oper) : List Oper → Option (Tr → Heap → (Tr → Heap → Prop) → Prop)
  | [] => some fun e h k => k e h
  | o :: l => match cOpK n C call o.op, cOpsK call ops l with
    | some f, some kk => some fun e h k =>
      guardK (cGuard n ops o) e (f e h fun v h => putK' (cPut n o.dst) v e fun e => kk e h k) (putK' (cPut n o.dst) (.tup []) e fun e => kk e h k)
    | _, _ => none
/-- A region that draws: what the operations did is told at the end. -/
def cOpsTK (call : CallF) (ops : Array Oper) : List Oper → Nat → Option (Tr → Heap → List Did → (Tr → Heap → List Did → Prop) → Prop)
  | [], _ => some fun e h acc k => k e h acc
  | o :: l, i => match cOpK n C call o.op, cOpsTK call ops l (i + 1) with
    | some f, some kk => some fun e h acc k =>
      guardK (cGuard n ops o) e (Heap.rec (motive := fun _ => Prop) (fun nx bs d => f e ⟨nx, bs, []⟩ fun v h' => Heap.rec (motive := fun _ => Prop) (fun nx' bs' d' => putK' (cPut n o.dst) v e fun e' =>
          kk e' ⟨nx', bs', d' ++ d⟩ ({ at_ := i, touch := touchF n C.tab o e, dirty := d'.filter (fun k => Nat.blt k.1 nx) } :: acc) k) h') h)
        (putK' (cPut n o.dst) (.tup []) e fun e => kk e h acc k)
    | _, _ => none
def drawK (call : CallF) (ops : Array Oper) (e : Tr) (h : Heap) (k : Tr → Heap → Prop) : Prop :=
  drawOk ops = true ∧ Option.rec (motive := fun _ => Prop) False (fun f => f e h [] fun e h l => freeAll (Region.before ops) l = true ∧ k e h) (cOpsTK n C call ops ops.toList 0)

def condK (a b : Prop) : Val → Prop
  | .bool c => Bool.rec (motive := fun _ => Prop) b a c
  | _ => False
def exK (nm : Prop) (ex : Nat → Prop) (rt : Prop) (x : Ex) : Prop := Ex.rec (motive := fun _ => Prop) nm ex rt x

/-- Code: loops and ranges over functions are left as they stand. -/
def wpLoop (call : CallF) (rd : Option Nat) (c : Code) : KK := fun e h ds k => ∃ x e' h' ds', (∀ env, Rep n e env → ∃ env', Rep n e' env' ∧ codeV C call (.loop c) { env, h, ds, rd } = some (x, { env := env', h := h', ds := ds', rd })) ∧ k x e' h' ds'
def wpRange (call : CallF) (rd : Option Nat) (c : Code) : KK := fun e h ds k => ∃ x e' h' ds', (∀ env, Rep n e env → ∃ env', Rep n e' env' ∧ codeV C call c { env, h, ds, rd } = some (x, { env := env', h := h', ds := ds', rd })) ∧ k x e' h' ds'

def codeK (call : CallF) (rd : Option Nat) : Code → KK := fun c => Code.rec (motive := fun _ => KK)
  (fun e h ds k => k .norm e h ds)
  (fun _ ops d e h ds k => Bool.rec (motive := fun _ => Prop) (Option.rec (motive := fun _ => Prop) False (fun f => f e h fun e h => k .norm e h ds) (cOpsK n C call ops ops.toList)) (drawK n C call ops e h fun e h => k .norm e h ds) d)
  (fun _ _ ka kb e h ds k => ka e h ds fun x e h ds => exK (kb e h ds k) (fun i => k (.exit i) e h ds) (k .ret e h ds) x)
  (fun c _ _ ka kb e h ds k => Option.rec (motive := fun _ => Prop) False (fun g => condK (ka e h ds k) (kb e h ds k) (g e)) (cO n c))
  (fun id _ kb e h ds k => kb e h ds fun x e h ds => exK (k .norm e h ds) (fun i => Bool.rec (motive := fun _ => Prop) (k (.exit i) e h ds) (k .norm e h ds) (Nat.beq i id)) (k .ret e h ds) x)
  (fun c _ e h ds k => wpLoop n C call rd c e h ds k)
  (fun f ps assign body _ _ e h ds k => wpRange n C call rd (.rangeFunc f ps assign body) e h ds k)
  (fun i e h ds k => k (.exit i) e h ds)
  (fun _ k => k)
  (fun _ e h ds k => k .norm e h ds)
  (fun _ _ _ _ _ => False)
  (fun e h ds k => k .ret e h ds)
  (fun _ _ _ _ _ => False) c

def cResultsK (T : Tab) : List ResultVar → Option (Tr → Heap → (List Val → Prop) → Prop)
  | [] => some fun _ _ k => k []
  | .tmp t :: l => match cResultsK T l with
    | some r => bif Nat.blt t n then some fun e h k => hdV (Tr.get e (way t)) fun v => r e h fun vs => k (v :: vs) else none
    | none => none
  | .cell a t :: l => match cResultsK T l, isAgg T t with
    | some r, some false => bif Nat.blt a n then some fun e h k => (load1F T (Tr.get e (way a)) h).wp fun v _ => r e h fun vs => k (v :: vs) else none
    | some r, some true => match sizeOf T t with
      | some m => bif Nat.blt a n then some fun e h k => (loadNF T m (Tr.get e (way a)) h).wp fun v _ => r e h fun vs => k (v :: vs) else none
      | none => none
    | _, _ => none
def finK (k : Val → Prop) : List Val → Prop
  | [v] => k v
  | vs => k (.tup vs)
/-- A whole tree. -/
def mkT (n : Nat) (f : Nat → Val) (fuel : Nat) : Nat → Tr := Nat.rec (motive := fun _ => Nat → Tr) (fun _ => .nil) (fun _ ih i => Bool.rec (motive := fun _ => Tr) .nil (.node (f i) (ih (2 * i + 1)) (ih (2 * i + 2))) (Nat.blt i n)) fuel
def mkTr (n : Nat) (f : Nat → Val) : Tr := mkT n f 12 0
/-- Some places known. -/
def updL (l : List (Nat × Val)) (f : Nat → Val) (i : Nat) : Val := List.rec (motive := fun _ => Val) (f i) (fun p _ ih => Prod.rec (motive := fun _ => Val) (fun a v => Bool.rec (motive := fun _ => Val) ih v (Nat.beq i a)) p) l
/-- A function's body: no defers. -/
def bodyK (call : CallF) (fn : Func) (c : Code) (args : List Val) (h : Heap) (k : Val → Heap → Prop) : Prop :=
  (Nat.ble args.length fn.ntmps && Nat.ble fn.ntmps 2000) = true ∧ putArgs args 0 (mkTr fn.ntmps fun _ => .tup []) fun e => codeK fn.ntmps C call none c e h [] fun x e h ds =>
    exK (ds = [] ∧ Option.rec (motive := fun _ => Prop) False (fun r => r e h (finK fun v => k v h)) (cResultsK fn.ntmps C.tab fn.results.toList)) (fun _ => False)
      (ds = [] ∧ Option.rec (motive := fun _ => Prop) False (fun r => r e h (finK fun v => k v h)) (cResultsK fn.ntmps C.tab fn.results.toList)) x
end
end
end Go.B
end
section
/- What 'L' asks ahead of B's code is enough. -/
namespace Go.B
open Go

section
variable {C : Conf} {h h' : Heap} {v : Val} {n : Nat} {e : Tr} {env : Env} {call : CallF}

theorem plR_ok {o : Option Val} (q : plR h o = .ok v h') : o = some v ∧ h' = h := by
  cases o with
  | none => cases q
  | some x => cases q; exact ⟨rfl, rfl⟩
theorem plP_ok {o : Option (Val × Heap)} (q : plP o = .ok v h') : o = some (v, h') := by
  cases o with
  | none => cases q
  | some x => obtain ⟨x, y⟩ := x; cases q; rfl
theorem plH_ok {o : Option Heap} (q : plH o = .ok v h') : v = .tup [] ∧ o = some h' := by
  cases o with
  | none => cases q
  | some x => cases q; exact ⟨rfl, rfl⟩

theorem eqS_eq : ∀ (x y : List UInt8), eqS x y = (x == y)
  | [], [] => rfl
  | [], _ :: _ => rfl
  | _ :: _, [] => rfl
  | a :: l, b :: m => by
    show Bool.rec (motive := fun _ => Bool) false (eqS l m) (Nat.beq a.toNat b.toNat) = _
    rw [eqS_eq l m, List.cons_beq_cons]
    cases hb : Nat.beq a.toNat b.toNat with
    | true =>
      have := UInt8.toNat_inj.1 (Nat.eq_of_beq_eq_true hb)
      subst this; simp
    | false =>
      have : (a == b) = false := by
        rw [beq_eq_false_iff_ne]
        intro e
        subst e
        rw [Nat.beq_refl] at hb; cases hb
      rw [this]; rfl
theorem wrapI_eq (k : IntKind) (z : Int) : wrapI k z = k.wrap z := by
  unfold wrapI
  cases h : inK k z with
  | false => rfl
  | true => exact (wrap_in h).symm
theorem cmp_eql (a b : Int) : cmpB .eql a b = (a == b) := eqI_eq a b
theorem cmp_neq (a b : Int) : cmpB .neq a b = (a != b) := by show Bool.not (eqI a b) = _; rw [eqI_eq]; rfl
theorem cmp_lss (a b : Int) : cmpB .lss a b = decide (a < b) := ltI_eq a b
theorem cmp_leq (a b : Int) : cmpB .leq a b = decide (a ≤ b) := by show Bool.not (ltI b a) = _; rw [ltI_eq, Bool.eq_iff_iff]; simp
theorem cmp_gtr (a b : Int) : cmpB .gtr a b = decide (a > b) := ltI_eq b a
theorem cmp_geq (a b : Int) : cmpB .geq a b = decide (a ≥ b) := by show Bool.not (ltI a b) = _; rw [ltI_eq, Bool.eq_iff_iff]; simp
theorem ar_add (k : IntKind) (a b : Int) : arW .add k a b = k.wrap (a + b) := by show wrapI k (addI a b) = _; rw [wrapI_eq, addI_eq]
theorem ar_sub (k : IntKind) (a b : Int) : arW .sub k a b = k.wrap (a - b) := wrapI_eq _ _
theorem ar_mul (k : IntKind) (a b : Int) : arW .mul k a b = k.wrap (a * b) := wrapI_eq _ _
theorem ar_rem (k : IntKind) (a b : Int) : arW .rem k a b = a.tmod b := rfl
theorem ar_quo (k : IntKind) (a b : Int) : arW .quo k a b = k.wrap (a.tdiv b) := rfl
theorem ar_shr (k : IntKind) (a b : Int) : arW .shr k a b = a.fdiv (2 ^ (min b.toNat k.bits)) := rfl
theorem int_ar {op : BinOp} {k : IntKind} {a b : Int} (h : kindOp op = 0) : intOp op k a b = some (.int k (arW op k a b)) := by
  cases op <;> first | (cases h; done) | rfl | skip
  · rw [ar_add]; rfl
  · rw [ar_sub]; rfl
  · rw [ar_mul]; rfl
theorem int_cmp {op : BinOp} {k : IntKind} {a b : Int} (h : kindOp op = 1) : intOp op k a b = some (.bool (cmpB op a b)) := by
  cases op <;> first | (cases h; done) | skip
  · rw [cmp_eql]; rfl
  · rw [cmp_neq]; rfl
  · rw [cmp_lss]; rfl
  · rw [cmp_leq]; rfl
  · rw [cmp_gtr]; rfl
  · rw [cmp_geq]; rfl
theorem str_cmp {op : BinOp} {a b : List UInt8} (h : kindOp op = 1) : strOp op a b = some (.bool (cmpS op a b)) := by
  cases op <;> first | (cases h; done) | rfl | skip
  · show _ = some (Val.bool (eqS a b)); rw [eqS_eq]; rfl
  · show _ = some (Val.bool (Bool.not (eqS a b))); rw [eqS_eq]; rfl

theorem asTs_ok (x : Val) : asTs x = .no ∨ ∃ s, asTs x = .str s ∧ x = .str s := by
  cases x <;> first | exact .inl rfl | exact .inr ⟨_, rfl, rfl⟩

theorem binL_ok {T : Tab} {op : BinOp} {t : TypeId} {c : Bool} {x y : Val} (q : binL T op t c x y h = .ok v h') : binV T op t x y c = some v ∧ h' = h := by
  unfold binL at q
  rcases asNm_ok x with e | ⟨k, a, e, rfl⟩
  · rw [e] at q
    rcases asTs_ok x with e1 | ⟨s, e1, rfl⟩
    · rw [e1] at q; exact plR_ok q
    · rw [e1] at q
      rcases asTs_ok y with e2 | ⟨s', e2, rfl⟩
      · rw [e2] at q; exact plR_ok q
      · rw [e2] at q
        cases op
        all_goals first
          | exact plR_ok q
          | (cases q; simp only [binV]; exact ⟨str_cmp rfl, trivial⟩)
          | (cases q; simp only [binV]; exact ⟨str_cmp rfl, rfl⟩)
  · rw [e] at q
    rcases asNm_ok y with e2 | ⟨k', b, e2, rfl⟩
    · rw [e2] at q; exact plR_ok q
    · rw [e2] at q
      have zero : eqI b (.ofNat 0) = false → ¬ b = 0 := fun h e => by subst e; cases h
      have neg : ltI b (.ofNat 0) = false → ¬ b < 0 := fun h e => by
        rw [ltI_eq] at h
        simp at h
        omega
      have shift : ∀ op, (op = .shl ∨ op = .shr) → Bool.rec (motive := fun _ => Res) (.ok (.int k (arW op k a b)) h) .no (ltI b (.ofNat 0)) = .ok v h' → shiftOp op k a b = some v ∧ h' = h := by
        intro op hop q
        cases hb : ltI b (.ofNat 0) with
        | true => rw [hb] at q; cases q
        | false =>
          rw [hb] at q
          cases q
          rcases hop with rfl | rfl
          · simp only [shiftOp, if_neg (neg hb)]; exact ⟨rfl, trivial⟩
          · simp only [shiftOp, if_neg (neg hb)]; exact ⟨rfl, trivial⟩
      cases op
      case shl => exact shift _ (.inl rfl) q
      case shr => exact shift _ (.inr rfl) q
      all_goals
        have q : Bool.rec (motive := fun _ => Res) (plR h (binV T _ t (.int k a) (.int k' b) c)) (intL _ k a b h (kindOp _)) (Nat.beq (kindN k) (kindN k')) = .ok v h' := q
        cases hk : Nat.beq (kindN k) (kindN k') with
        | false => rw [hk] at q; exact plR_ok q
        | true =>
          rw [hk] at q
          have := kindN_inj hk
          subst this
          simp only [binV, if_true]
          first
            | (cases q; exact ⟨int_ar rfl, rfl⟩)
            | (cases q; exact ⟨int_cmp rfl, rfl⟩)
            | (have q : Bool.rec (motive := fun _ => Res) (.ok (.int k (arW _ k a b)) h) .no (eqI b (.ofNat 0)) = .ok v h' := q
               cases hb : eqI b (.ofNat 0) with
               | true => rw [hb] at q; cases q
               | false =>
                 rw [hb] at q
                 cases q
                 simp only [intOp, if_neg (zero hb)]
                 exact ⟨rfl, trivial⟩)

theorem boxL_ok {m : Nat} {t : TypeId} {x : Val} (q : boxL m t x h = .ok v h') : (bif Nat.beq x.cells.length m && x.cells.all Val.isCell then some (newRow h x.cells m t) else none) = some (v, h') := by
  unfold boxL at q
  rw [lenK_eq, cellsF_eq, allCell_eq] at q
  cases hb : (Nat.beq x.cells.length m && x.cells.all Val.isCell) with
  | false => rw [hb] at q; cases q
  | true =>
    rw [hb, cond_true, hdL_eq] at q
    cases h with
    | mk nx bs d => cases q; rfl

theorem cStepL_ok (R : Rep n e env) {op : Op} {f : Fo} (q : cStepL n C op = some f) (q2 : f e h = .ok v h') : stepV C env h op = some (v, h') := by
  cases op
  case binOp op t x y u =>
    obtain ⟨g, j, h1, h2, rfl⟩ := twoF_ok q
    obtain ⟨h3, h4⟩ := binL_ok q2
    simp only [stepV, cO_ok R h1, cO_ok R h2, h3, h4]
  case unOp op t x =>
    obtain ⟨g, h1, rfl⟩ := oneF_ok q
    obtain ⟨h3, h4⟩ := plR_ok q2
    simp only [stepV, cO_ok R h1, h3, h4]
  case convert s d x =>
    obtain ⟨g, h1, rfl⟩ := oneF_ok q
    simp only [stepV, cO_ok R h1]
    exact plP_ok q2
  case slice t x lo hi mx =>
    simp only [cStepL] at q
    split at q
    · rename_i g1 g2 g3 g4 h1 h2 h3 h4
      injection q with q; subst q
      obtain ⟨h5, h6⟩ := plR_ok q2
      simp only [stepV, cO_ok R h1, cM_ok R h2, cM_ok R h3, cM_ok R h4, h5, h6]
    · cases q
  case index t x i =>
    obtain ⟨g, j, h1, h2, rfl⟩ := twoF_ok q
    obtain ⟨h3, h4⟩ := plR_ok q2
    simp only [stepV, cO_ok R h1, cO_ok R h2, h3, h4]
  case lookup t x i ok =>
    obtain ⟨g, j, h1, h2, rfl⟩ := twoF_ok q
    obtain ⟨h3, h4⟩ := plR_ok q2
    simp only [stepV, cO_ok R h1, cO_ok R h2, h3, h4]
  case mapUpdate t m k x =>
    simp only [cStepL] at q
    split at q
    · rename_i gm gk gx h1 h2 h3
      injection q with q; subst q
      obtain ⟨h4, h5⟩ := plH_ok q2
      simp only [stepV, cO_ok R h1, cO_ok R h2, cO_ok R h3, h5, h4]
    · cases q
  case insert t m k x =>
    simp only [cStepL] at q
    split at q
    · rename_i gm gk gx h1 h2 h3
      injection q with q; subst q
      obtain ⟨h4, h5⟩ := plH_ok q2
      simp only [stepV, cO_ok R h1, cO_ok R h2, cO_ok R h3, h5, h4]
    · cases q
  case typeAssert x a t ok =>
    obtain ⟨g, h1, rfl⟩ := oneF_ok q
    obtain ⟨h3, h4⟩ := plR_ok q2
    simp only [stepV, cO_ok R h1, h3, h4]
  case box t x =>
    simp only [cStepL] at q
    split at q
    · rename_i g m h1 h2
      injection q with q; subst q
      simp only [stepV, cO_ok R h1, h2]
      exact boxL_ok q2
    · cases q
  case makeSlice t l c =>
    obtain ⟨g, j, h1, h2, rfl⟩ := twoF_ok q
    simp only [stepV, cO_ok R h1, cO_ok R h2]
    exact plP_ok q2
  all_goals exact cStep_ok R q q2

theorem Res.wp_ok {r : Res} {k : Val → Heap → Prop} (q : r.wp k) : ∃ v h', r = .ok v h' ∧ k v h' := by
  cases r with
  | no => exact q.elim
  | ok v h' => exact ⟨v, h', rfl, q⟩
theorem Res.wp_of {r : Res} {v : Val} {h' : Heap} {k : Val → Heap → Prop} (hr : r = .ok v h') (q : k v h') : r.wp k := by subst hr; exact q

theorem whoK_ok {k : Val → Heap → Prop} {w : Who} (q : whoK call h k w) : ∃ t args v h', w = .some t args ∧ call t args h = some (v, h') ∧ k v h' := by
  cases w with
  | none => exact q.elim
  | some t args =>
    have q : hdL args (fun args => wpT call t args h k) := q
    rw [hdL_eq] at q
    obtain ⟨v, h', h1, h2⟩ := q; exact ⟨t, args, v, h', rfl, h1, h2⟩

theorem cBuiltinL_ok {b : Builtin} {ts : Array TypeId} {as : Tr → List Val} {k : Val → Heap → Prop} (q : cBuiltinL C b ts as e h k) : ∃ v h', builtinV C h b ts (as e) = some (v, h') ∧ k v h' := by
  have gen : (plP (builtinV C h b ts (as e))).wp k → ∃ v h', builtinV C h b ts (as e) = some (v, h') ∧ k v h' := fun q => by
    obtain ⟨v, h', h1, h2⟩ := Res.wp_ok q
    exact ⟨v, h', plP_ok h1, h2⟩
  cases b
  case len =>
    obtain ⟨v, h', h1, h2⟩ := Res.wp_ok (show (plR h (match as e with | [x] => (lengthV C.tab h ts x).map fun (n : Nat) => .int .i64 n | _ => none)).wp k from q)
    obtain ⟨h3, h4⟩ := plR_ok h1
    split at h3
    · rename_i x hx
      simp only [Option.map_eq_some_iff] at h3
      obtain ⟨m, h5, h6⟩ := h3
      refine ⟨v, h', ?_, h2⟩
      rw [hx]
      simp only [builtinV, h5, Option.map_some, h6, h4]
    · cases h3
  all_goals exact gen q

theorem cOpK_ok (R : Rep n e env) {o : Oper} (hd : ∀ c, o.op ≠ .defer c) {f : FoK} (q : cOpK n C call o.op = some f) {k : Val → Heap → Prop} (q2 : f e h k) (ds : Ds) (rd : Option Nat) :
    ∃ v h', operV C call { env, h, ds, rd } o = some (v, h', ds) ∧ k v h' := by
  have gen : (∀ c, o.op ≠ .call c) → (∀ c a b, o.op ≠ .pick c a b) → ∃ v h', operV C call { env, h, ds, rd } o = some (v, h', ds) ∧ k v h' := by
    intro hc hp
    have q : Option.rec (motive := fun _ => Option FoK) none (fun f => some fun e h k => (f e h).wp k) (cStepL n C o.op) = some f := by
      unfold cOpK at q
      cases ho : o.op <;> first | exact absurd ho (hc _) | exact absurd ho (hd _) | exact absurd ho (hp _ _ _) | (rw [ho] at q; exact q)
    cases hs : cStepL n C o.op with
    | none => rw [hs] at q; cases q
    | some g =>
      rw [hs] at q
      have q : some (fun e h k => (g e h).wp k) = some f := q
      injection q with q; subst q
      obtain ⟨v, h', h1, h2⟩ := Res.wp_ok q2
      have h3 := cStepL_ok R hs h1
      refine ⟨v, h', ?_, h2⟩
      unfold operV
      cases ho : o.op <;> first | exact absurd ho (hc _) | exact absurd ho (hd _) | (rw [ho] at h3; simp only [h3])
  cases ho : o.op
  case call c =>
    rw [ho] at q
    simp only [cOpK] at q
    unfold operV
    rw [ho]
    simp only
    cases hcal : c.callee with
    | builtin b =>
      rw [hcal] at q
      simp only at q ⊢
      split at q
      · rename_i as h1
        injection q with q; subst q
        obtain ⟨v, h', h2, h3⟩ := cBuiltinL_ok q2
        refine ⟨v, h', ?_, h3⟩
        rw [cL_ok R h1]
        simp only [h2]
      · cases q
    | value g =>
      rw [hcal] at q
      simp only at q ⊢
      split at q
      · rename_i as g1 h1 h2
        injection q with q; subst q
        try dsimp only at q2
        rw [hdL_eq] at q2
        obtain ⟨t, args, v, h', h3, h4, h5⟩ := whoK_ok q2
        have ht : target C h env c = some (t, args) := by
          unfold target
          rw [cL_ok R h1, hcal]
          simp only [cO_ok R h2]
          generalize g1 e = x at h3
          unfold whoF at h3
          split at h3
          · injection h3 with h5 h6; subst h5; subst h6; rfl
          · injection h3 with h5 h6; subst h5; subst h6; rfl
          · split at h3
            · rename_i hm
              injection h3 with h5 h6; subst h5; subst h6
              simp only [hm]
            · cases h3
          · cases h3
        refine ⟨v, h', ?_, h5⟩
        rw [ht]
        simp only [h4]
      · cases q
    | invoke r m =>
      rw [hcal] at q
      simp only at q ⊢
      split at q
      · rename_i as g1 h1 h2
        injection q with q; subst q
        try dsimp only at q2
        rw [hdL_eq] at q2
        obtain ⟨t, args, v, h', h3, h4, h5⟩ := whoK_ok q2
        have ht : target C h env c = some (t, args) := by
          unfold target
          rw [cL_ok R h1, hcal]
          simp only [cO_ok R h2]
          generalize g1 e = x at h3
          unfold invF at h3
          split at h3
          · split at h3
            · rename_i hm
              injection h3 with h5 h6; subst h5; subst h6
              simp only [hm]
            · cases h3
          · cases h3
        refine ⟨v, h', ?_, h5⟩
        rw [ht]
        simp only [h4]
      · cases q
  case pick c a b =>
    rw [ho] at q
    simp only [cOpK] at q
    split at q
    · rename_i gc ga gb h1 h2 h3
      injection q with q; subst q
      try dsimp only at q2
      unfold operV
      rw [ho]
      simp only [stepV, cO_ok R h1, cO_ok R h2, cO_ok R h3]
      unfold pickK at q2
      split at q2
      · rename_i bb hb
        rw [hb]
        cases bb with
        | true =>
          have q2 : hdV (ga e) (fun v => k v h) := q2
          rw [hdV_eq] at q2
          exact ⟨_, _, rfl, q2⟩
        | false =>
          have q2 : hdV (gb e) (fun v => k v h) := q2
          rw [hdV_eq] at q2
          exact ⟨_, _, rfl, q2⟩
      · exact q2.elim
    · cases q
  all_goals exact gen (fun c => by rw [ho]; exact fun h => by cases h) (fun c a b => by rw [ho]; exact fun h => by cases h)

theorem cOpK_nodefer {o : Oper} {f : FoK} (q : cOpK n C call o.op = some f) : ∀ c, o.op ≠ .defer c := fun c h => by
  rw [h] at q; cases q

theorem putK'_ok {d : Option Tmp} {v : Val} {k : Tr → Prop} (R : Rep n e env) (q : putK' (cPut n d) v e k) : ∃ e', Rep n e' (putV env d v) ∧ k e' := by
  unfold cPut at q
  cases d with
  | none => exact ⟨e, R, q⟩
  | some d =>
    simp only at q
    cases hb : Nat.blt d n with
    | false => rw [hb] at q; exact q.elim
    | true =>
      rw [hb] at q
      have q : Tr.putK v (way d) e k := q
      rw [putK_eq] at q
      exact ⟨_, R.set (by simpa using hb) v, q⟩

theorem guardK_ok (R : Rep n e env) {ops : Array Oper} {o : Oper} {yes no : Prop} (q : guardK (cGuard n ops o) e yes no) : (wantedV ops env o = some true ∧ yes) ∨ (wantedV ops env o = some false ∧ no) := by
  unfold cGuard at q
  unfold wantedV
  cases hg : o.guard with
  | none => rw [hg] at q; exact .inl ⟨rfl, q⟩
  | some p =>
    obtain ⟨j, want⟩ := p
    rw [hg] at q
    simp only at q ⊢
    cases hd : (ops[j]?).bind (·.dst) with
    | none => rw [hd] at q; exact .inr ⟨rfl, q⟩
    | some d =>
      rw [hd] at q
      simp only at q ⊢
      cases hb : Nat.blt d n with
      | false => rw [hb] at q; exact q.elim
      | true =>
        rw [hb] at q
        have q : wantK want yes no (e.get (way d)) := q
        rw [← R.get d (by simpa using hb)]
        generalize e.get (way d) = x at q
        cases x
        case bool b => cases b <;> cases want <;> first | exact .inl ⟨rfl, q⟩ | exact .inr ⟨rfl, q⟩
        case dead => exact q.elim
        all_goals exact .inr ⟨rfl, q⟩

theorem cOpsK_ok {rd : Option Nat} {ops : Array Oper} {ds : Ds} : ∀ (l : List Oper) (kk : Tr → Heap → (Tr → Heap → Prop) → Prop), cOpsK n C call ops l = some kk → ∀ (e : Tr) (env : Env) (h : Heap) (k : Tr → Heap → Prop), Rep n e env → kk e h k →
    ∃ e' env' h', Rep n e' env' ∧ opsV C call ops l { env, h, ds, rd } = some { env := env', h := h', ds, rd } ∧ k e' h'
  | [], kk, q, e, env, h, k, R, q2 => by
    simp only [cOpsK, Option.some.injEq] at q
    subst q
    exact ⟨e, env, h, R, rfl, q2⟩
  | o :: l, kk, q, e, env, h, k, R, q2 => by
    simp only [cOpsK] at q
    split at q
    · rename_i f kl h1 h2
      injection q with q; subst q
      try dsimp only at q2
      rcases guardK_ok R q2 with ⟨hw, q2⟩ | ⟨hw, q2⟩
      · obtain ⟨v, h', h3, q2⟩ := cOpK_ok R (cOpK_nodefer h1) h1 q2 ds rd
        obtain ⟨e1, R1, q2⟩ := putK'_ok R q2
        obtain ⟨e', env', h'', R', h4, h5⟩ := cOpsK_ok l kl h2 e1 _ h' k R1 q2
        refine ⟨e', env', h'', R', ?_, h5⟩
        simp only [opsV, hw, h3]
        exact h4
      · obtain ⟨e1, R1, q2⟩ := putK'_ok R q2
        obtain ⟨e', env', h'', R', h4, h5⟩ := cOpsK_ok l kl h2 e1 _ h k R1 q2
        refine ⟨e', env', h'', R', ?_, h5⟩
        simp only [opsV, hw]
        exact h4
    · cases q

theorem touchK_ok (R : Rep n e env) {o : Oper} {f : FoK} (q : cOpK n C call o.op = some f) : touchF n C.tab o e = touchOf C.tab env o := by
  unfold touchF touchOf
  cases ho : o.op <;> try (simp only [touchG, touchO, ho]; done)
  case load t a =>
    have : ∃ g, cO n a = some g := by
      rw [ho] at q
      have q : Option.rec (motive := fun _ => Option FoK) none (fun f => some fun e h k => (f e h).wp k) (cStepL n C (.load t a)) = some f := q
      cases hco : cStepL n C (.load t a) with
      | none => rw [hco] at q; cases q
      | some g =>
        obtain ⟨g1, h1, _⟩ := oneF_ok (show oneF (cO n a) (fun g => cLoad C g t) = some g from hco)
        exact ⟨g1, h1⟩
    obtain ⟨g, hg⟩ := this
    simp only [touchG, touchO, ho, hg, cO_ok R hg]
    generalize g e = x
    cases x <;> rfl
  case call c =>
    simp only [touchG, touchO, ho]
    cases hcal : c.callee with
    | value f => rfl
    | invoke r m => rfl
    | builtin b =>
      cases b <;> try rfl
      simp only
      have : ∃ as, cL n c.args.toList = some as := by
        rw [ho] at q
        simp only [cOpK, hcal] at q
        split at q
        · exact ⟨_, by assumption⟩
        · cases q
      obtain ⟨as, has⟩ := this
      rcases hl : c.args.toList with _ | ⟨a, _ | ⟨b, l⟩⟩
      · rfl
      · rw [hl] at has
        simp only [cL] at has
        split at has
        · rename_i g gs hg _
          simp only [hg, cO_ok R hg]
          generalize g e = x
          cases x <;> rfl
        · cases has
      · rfl

theorem cOpsTK_ok {rd : Option Nat} {ops : Array Oper} {ds : Ds} : ∀ (l : List Oper) (i : Nat) (kk : Tr → Heap → List Did → (Tr → Heap → List Did → Prop) → Prop), cOpsTK n C call ops l i = some kk → ∀ (e : Tr) (env : Env) (h : Heap) (acc : List Did) (k : Tr → Heap → List Did → Prop), Rep n e env → kk e h acc k →
    ∃ e' env' h' l', Rep n e' env' ∧ opsT C call ops l i { env, h, ds, rd } = some ({ env := env', h := h', ds, rd }, l') ∧ k e' h' (l'.reverse ++ acc)
  | [], i, kk, q, e, env, h, acc, k, R, q2 => by
    simp only [cOpsTK, Option.some.injEq] at q
    subst q
    exact ⟨e, env, h, [], R, rfl, q2⟩
  | o :: l, i, kk, q, e, env, h, acc, k, R, q2 => by
    simp only [cOpsTK] at q
    split at q
    · rename_i f kl h1 h2
      injection q with q; subst q
      try dsimp only at q2
      rcases guardK_ok R q2 with ⟨hw, q2⟩ | ⟨hw, q2⟩
      · cases h with
        | mk nx bs d =>
        have q2 : f e ⟨nx, bs, []⟩ (fun v h' => Heap.rec (motive := fun _ => Prop) (fun nx' bs' d' => putK' (cPut n o.dst) v e fun e' =>
          kl e' ⟨nx', bs', d' ++ d⟩ ({ at_ := i, touch := touchF n C.tab o e, dirty := d'.filter (fun k => Nat.blt k.1 nx) } :: acc) k) h') := q2
        obtain ⟨v, h', h3, q2⟩ := cOpK_ok R (cOpK_nodefer h1) h1 q2 ds rd
        cases h' with
        | mk nx' bs' d' =>
        have q2 : putK' (cPut n o.dst) v e (fun e' => kl e' ⟨nx', bs', d' ++ d⟩ ({ at_ := i, touch := touchF n C.tab o e, dirty := d'.filter (fun k => Nat.blt k.1 nx) } :: acc) k) := q2
        obtain ⟨e1, R1, q2⟩ := putK'_ok R q2
        obtain ⟨e', env', h'', l', R', h4, h5⟩ := cOpsTK_ok l (i + 1) kl h2 e1 _ _ _ k R1 q2
        refine ⟨e', env', h'', { at_ := i, touch := touchOf C.tab env o, dirty := d'.filter (fun k => Nat.blt k.1 nx) } :: l', R', ?_, ?_⟩
        · simp only [opsT, hw, h3]
          rw [h4]
        · rw [touchK_ok R h1] at h5
          simpa using h5
      · obtain ⟨e1, R1, q2⟩ := putK'_ok R q2
        obtain ⟨e', env', h'', l', R', h4, h5⟩ := cOpsTK_ok l (i + 1) kl h2 e1 _ h acc k R1 q2
        refine ⟨e', env', h'', l', R', ?_, h5⟩
        simp only [opsT, hw]
        exact h4
    · cases q

theorem drawK_ok {rd : Option Nat} {ops : Array Oper} {ds : Ds} {k : Tr → Heap → Prop} (R : Rep n e env) (q : drawK n C call ops e h k) : ∃ e' env' h', Rep n e' env' ∧ drawV C call ops { env, h, ds, rd } = some { env := env', h := h', ds, rd } ∧ k e' h' := by
  obtain ⟨hd, q⟩ := q
  cases hk : cOpsTK n C call ops ops.toList 0 with
  | none => rw [hk] at q; exact q.elim
  | some f =>
    rw [hk] at q
    have q : f e h [] (fun e h l => freeAll (Region.before ops) l = true ∧ k e h) := q
    obtain ⟨e', env', h', l', R', h1, h2, h3⟩ := cOpsTK_ok (ds := ds) (rd := rd) ops.toList 0 f hk e env h [] _ R q
    refine ⟨e', env', h', R', ?_, h3⟩
    simp only [List.append_nil, freeAll_reverse] at h2
    unfold drawV
    rw [h1]
    simp [hd, h2]

theorem codeK_ok {rd : Option Nat} : ∀ (c : Code) (e : Tr) (env : Env) (h : Heap) (ds : Ds) (k : Ex → Tr → Heap → Ds → Prop), Rep n e env → codeK n C call rd c e h ds k →
    ∃ x e' env' h' ds', Rep n e' env' ∧ codeV C call c { env, h, ds, rd } = some (x, { env := env', h := h', ds := ds', rd }) ∧ k x e' h' ds'
  | .skip, e, env, h, ds, k, R, q => ⟨_, e, env, h, ds, R, rfl, q⟩
  | .label l, e, env, h, ds, k, R, q => ⟨_, e, env, h, ds, R, rfl, q⟩
  | .exit i, e, env, h, ds, k, R, q => ⟨_, e, env, h, ds, R, rfl, q⟩
  | .ret, e, env, h, ds, k, R, q => ⟨_, e, env, h, ds, R, rfl, q⟩
  | .goto l, e, env, h, ds, k, R, q => (show False from q).elim
  | .refuse r, e, env, h, ds, k, R, q => (show False from q).elim
  | .scope c, e, env, h, ds, k, R, q => by
    obtain ⟨x, e', env', h', ds', R', h1, h2⟩ := codeK_ok c e env h ds k R q
    exact ⟨x, e', env', h', ds', R', by simp only [codeV]; exact h1, h2⟩
  | .region id ops true, e, env, h, ds, k, R, q => by
    have q : drawK n C call ops e h fun e h => k .norm e h ds := q
    obtain ⟨e', env', h', R', h1, h2⟩ := drawK_ok (ds := ds) (rd := rd) R q
    exact ⟨.norm, e', env', h', ds, R', by simp only [codeV, h1, Option.map_some], h2⟩
  | .region id ops false, e, env, h, ds, k, R, q => by
    have q : Option.rec (motive := fun _ => Prop) False (fun f => f e h fun e h => k .norm e h ds) (cOpsK n C call ops ops.toList) := q
    cases hk : cOpsK n C call ops ops.toList with
    | none => rw [hk] at q; exact q.elim
    | some f =>
      rw [hk] at q
      obtain ⟨e', env', h', R', h1, h2⟩ := cOpsK_ok (ds := ds) (rd := rd) ops.toList f hk e env h _ R q
      exact ⟨.norm, e', env', h', ds, R', by simp only [codeV, h1, Option.map_some], h2⟩
  | .seq a b, e, env, h, ds, k, R, q => by
    have q : codeK n C call rd a e h ds fun x e h ds => exK (codeK n C call rd b e h ds k) (fun i => k (.exit i) e h ds) (k .ret e h ds) x := q
    obtain ⟨x, e1, env1, h1, ds1, R1, h2, h3⟩ := codeK_ok a e env h ds _ R q
    simp only [codeV, h2]
    cases x with
    | norm => exact codeK_ok b e1 env1 h1 ds1 k R1 h3
    | exit i => exact ⟨_, e1, env1, h1, ds1, R1, rfl, h3⟩
    | ret => exact ⟨_, e1, env1, h1, ds1, R1, rfl, h3⟩
  | .cond c a b, e, env, h, ds, k, R, q => by
    have q : Option.rec (motive := fun _ => Prop) False (fun g => condK (codeK n C call rd a e h ds k) (codeK n C call rd b e h ds k) (g e)) (cO n c) := q
    cases hg : cO n c with
    | none => rw [hg] at q; exact q.elim
    | some g =>
      rw [hg] at q
      have q : condK (codeK n C call rd a e h ds k) (codeK n C call rd b e h ds k) (g e) := q
      simp only [codeV, cO_ok R hg]
      unfold condK at q
      split at q
      · rename_i bb hb
        rw [hb]
        cases bb with
        | true => exact codeK_ok a e env h ds k R q
        | false => exact codeK_ok b e env h ds k R q
      · exact q.elim
  | .block id c, e, env, h, ds, k, R, q => by
    have q : codeK n C call rd c e h ds fun x e h ds => exK (k .norm e h ds) (fun i => Bool.rec (motive := fun _ => Prop) (k (.exit i) e h ds) (k .norm e h ds) (Nat.beq i id)) (k .ret e h ds) x := q
    obtain ⟨x, e1, env1, h1, ds1, R1, h2, h3⟩ := codeK_ok c e env h ds _ R q
    simp only [codeV, h2]
    cases x with
    | norm => exact ⟨_, e1, env1, h1, ds1, R1, rfl, h3⟩
    | ret => exact ⟨_, e1, env1, h1, ds1, R1, rfl, h3⟩
    | exit i =>
      have h3 : Bool.rec (motive := fun _ => Prop) (k (.exit i) e1 h1 ds1) (k .norm e1 h1 ds1) (Nat.beq i id) := h3
      cases hb : Nat.beq i id with
      | true => rw [hb] at h3; exact ⟨_, e1, env1, h1, ds1, R1, by simp only [hb, cond_true], h3⟩
      | false => rw [hb] at h3; exact ⟨_, e1, env1, h1, ds1, R1, by simp only [hb, cond_false], h3⟩
  | .loop c, e, env, h, ds, k, R, q => by
    obtain ⟨x, e', h', ds', h1, h2⟩ := (show wpLoop n C call rd c e h ds k from q)
    obtain ⟨env', R', h3⟩ := h1 env R
    exact ⟨x, e', env', h', ds', R', h3, h2⟩
  | .rangeFunc f ps assign body, e, env, h, ds, k, R, q => by
    obtain ⟨x, e', h', ds', h1, h2⟩ := (show wpRange n C call rd (.rangeFunc f ps assign body) e h ds k from q)
    obtain ⟨env', R', h3⟩ := h1 env R
    exact ⟨x, e', env', h', ds', R', h3, h2⟩

theorem cResultsK_ok {T : Tab} (R : Rep n e env) : ∀ {l : List ResultVar} {r : Tr → Heap → (List Val → Prop) → Prop}, cResultsK n T l = some r → ∀ (k : List Val → Prop), r e h k → ∃ vs, resultsV T h env l = some vs ∧ k vs
  | [], r, q, k, q2 => by simp only [cResultsK, Option.some.injEq] at q; subst q; exact ⟨[], rfl, q2⟩
  | .tmp t :: l, r, q, k, q2 => by
    simp only [cResultsK] at q
    split at q
    · rename_i r1 h1
      cases hb : Nat.blt t n with
      | false => rw [hb] at q; cases q
      | true =>
        rw [hb, cond_true] at q
        injection q with q; subst q
        try dsimp only at q2
        rw [hdV_eq] at q2
        obtain ⟨vs, h2, h3⟩ := cResultsK_ok R h1 _ q2
        refine ⟨_, ?_, h3⟩
        simp only [resultsV, h2, R.get t (by simpa using hb)]
    · cases q
  | .cell a t :: l, r, q, k, q2 => by
    simp only [cResultsK] at q
    have get : Nat.blt a n = true → e.get (way a) = (env[a]?).getD .dead := fun hb => R.get a (by simpa using hb)
    split at q
    · rename_i r1 h1 ha
      cases hb : Nat.blt a n with
      | false => rw [hb] at q; cases q
      | true =>
        rw [hb, cond_true] at q
        injection q with q; subst q
        try dsimp only at q2
        obtain ⟨v, hv, hl, q2⟩ := Res.wp_ok q2
        obtain ⟨vs, h2, h3⟩ := cResultsK_ok R h1 _ q2
        obtain ⟨h4, h5⟩ := load1_read hl
        refine ⟨v :: vs, ?_, h3⟩
        simp only [resultsV, ← get hb, loadV, ha, h4, h2]
    · rename_i r1 h1 ha
      split at q
      · rename_i m hm
        cases hb : Nat.blt a n with
        | false => rw [hb] at q; cases q
        | true =>
          rw [hb, cond_true] at q
          injection q with q; subst q
          try dsimp only at q2
          obtain ⟨v, hv, hl, q2⟩ := Res.wp_ok q2
          obtain ⟨vs, h2, h3⟩ := cResultsK_ok R h1 _ q2
          obtain ⟨cs, h4, h5, h6⟩ := loadN_read hl
          refine ⟨v :: vs, ?_, h3⟩
          simp only [resultsV, ← get hb, loadV, ha, hm, h4, h2, h5, Option.map_some]
      · cases q
    · cases q

theorem mkT_get (n : Nat) (f : Nat → Val) : ∀ (fuel i : Nat) (p : List Bool), p.length < fuel → num p i < n → (mkT n f fuel i).get p = f (num p i)
  | 0, i, p, h, _ => by omega
  | fuel + 1, i, [], _, hn => by
    have hn : i < n := hn
    have hb : Nat.blt i n = true := by simpa using hn
    show Tr.get (Bool.rec (motive := fun _ => Tr) .nil (.node (f i) (mkT n f fuel (2 * i + 1)) (mkT n f fuel (2 * i + 2))) (Nat.blt i n)) [] = f i
    rw [hb]; rfl
  | fuel + 1, i, b :: p, h, hn => by
    have mono : ∀ (p : List Bool) (i : Nat), i ≤ num p i := by
      intro p
      induction p with
      | nil => exact fun i => Nat.le_refl _
      | cons b p ih =>
        intro i
        simp only [num]
        have := ih (if b then 2 * i + 2 else 2 * i + 1)
        cases b <;> simp at this ⊢ <;> omega
    have hi : i < n := Nat.lt_of_le_of_lt (mono _ _) hn
    have hb : Nat.blt i n = true := by simpa using hi
    show Tr.get (Bool.rec (motive := fun _ => Tr) .nil (.node (f i) (mkT n f fuel (2 * i + 1)) (mkT n f fuel (2 * i + 2))) (Nat.blt i n)) (b :: p) = f (num (b :: p) i)
    rw [hb]
    cases b with
    | false => exact mkT_get n f fuel (2 * i + 1) p (by simpa using h) hn
    | true => exact mkT_get n f fuel (2 * i + 2) p (by simpa using h) hn

theorem mkTr_get {n : Nat} (hn : n ≤ 2000) (f : Nat → Val) {t : Nat} (ht : t < n) : (mkTr n f).get (way t) = f t := by
  have hl : (way t).length < 12 := by
    have := length_wayA (t + 1) t 11 [] (by omega)
    unfold way
    simp at this
    omega
  unfold mkTr
  rw [mkT_get n f 12 0 _ hl (by rw [num_way]; exact ht), num_way]

theorem enterK_rep {args : List Val} {n : Nat} (h : args.length ≤ n) (hn : n ≤ 2000) {α : Type} (k : Tr → α) : ∃ e, putArgs args 0 (mkTr n fun _ => .tup []) k = k e ∧ Rep n e (args ++ List.replicate (n - args.length) (.tup [])) := by
  obtain ⟨e, h1, _, h2⟩ := putArgs_eq args 0 (mkTr n fun _ => .tup []) k
  refine ⟨e, h1, by simp; omega, fun t ht => ?_⟩
  rw [h2 t]
  by_cases h3 : t < args.length
  · rw [if_pos (by omega), List.getElem?_append_left h3]; rfl
  · rw [if_neg (by omega), List.getElem?_append_right (by omega), List.getElem?_replicate, if_pos (by omega), mkTr_get hn _ ht]
    rfl

/-- A function, by its body. -/
theorem bodyK_ok {f : FuncId} {fn : Func} {c : Code} (hb : fn.body = some c) {args : List Val} {k : Val → Heap → Prop} (q : bodyK C call fn c args h k) : ∃ v h', bodyV C call f fn args h = some (v, h') ∧ k v h' := by
  obtain ⟨hlen, q⟩ := q
  simp only [Bool.and_eq_true] at hlen
  obtain ⟨e0, h1, R0⟩ := enterK_rep (Nat.le_of_ble_eq_true hlen.1) (Nat.le_of_ble_eq_true hlen.2) (k := fun e => codeK fn.ntmps C call none c e h [] fun x e h ds =>
    exK (ds = [] ∧ Option.rec (motive := fun _ => Prop) False (fun r => r e h (finK fun v => k v h)) (cResultsK fn.ntmps C.tab fn.results.toList)) (fun _ => False)
      (ds = [] ∧ Option.rec (motive := fun _ => Prop) False (fun r => r e h (finK fun v => k v h)) (cResultsK fn.ntmps C.tab fn.results.toList)) x)
  rw [h1] at q
  obtain ⟨x, e1, env1, h2, ds1, R1, h3, h4⟩ := codeK_ok c e0 _ h [] _ R0 q
  have fin : ds1 = [] ∧ Option.rec (motive := fun _ => Prop) False (fun r => r e1 h2 (finK fun v => k v h2)) (cResultsK fn.ntmps C.tab fn.results.toList) := by
    cases x with
    | norm => exact h4
    | ret => exact h4
    | exit i => exact (show False from h4).elim
  have hen : enterV C call fn c args h = some { env := env1, h := h2, ds := ds1, rd := none } := by
    unfold enterV
    rw [h3]
    cases x with
    | norm => rfl
    | ret => rfl
    | exit i => exact (show False from h4).elim
  obtain ⟨rfl, fin⟩ := fin
  cases hr : cResultsK fn.ntmps C.tab fn.results.toList with
  | none => rw [hr] at fin; exact fin.elim
  | some r =>
    rw [hr] at fin
    obtain ⟨vs, h5, h6⟩ := cResultsK_ok R1 hr _ fin
    unfold bodyV
    rw [hb]
    simp only [hen, deferV, h5]
    rcases vs with _ | ⟨a, _ | ⟨b, l⟩⟩
    · exact ⟨_, _, rfl, h6⟩
    · exact ⟨_, _, rfl, h6⟩
    · exact ⟨_, _, rfl, h6⟩

/-- A call, by its function's body. -/
theorem wp_call {f : FuncId} {fn : Func} {c : Code} {args : List Val} {m : Nat} {k : Val → Heap → Prop} (h1 : C.sum f args = none) (h2 : C.tab.fn f = some fn) (h3 : C.alone f = false) (h4 : fn.body = some c)
    (q : bodyK C (callV C m) fn c args h k) : wpT (callV C (m + 1)) (.fn f) args h k := by
  obtain ⟨v, h', h5, h6⟩ := bodyK_ok (f := f) h4 q
  refine ⟨v, h', ?_, h6⟩
  simp only [callV, h1, h2, h3, cond_false]
  exact h5
theorem wp_sum {f : FuncId} {args : List Val} {m : Nat} {v : Val} {k : Val → Heap → Prop} (h1 : C.sum f args = some v) (q : k v h) : wpT (callV C (m + 1)) (.fn f) args h k :=
  ⟨v, h, by simp only [callV, h1], q⟩
theorem wpT.mono {t : Tgt} {args : List Val} {k k' : Val → Heap → Prop} (q : wpT call t args h k) (hk : ∀ v h, k v h → k' v h) : wpT call t args h k' := by
  obtain ⟨v, h', h1, h2⟩ := q
  exact ⟨v, h', h1, hk _ _ h2⟩

/-- A loop that has rounds left: one round, and the loop with one less. -/
theorem loopK_round {rd : Option Nat} {c : Code} {ds : Ds} {k : Ex → Tr → Heap → Ds → Prop} (m : Nat)
    (q : codeK n C call rd c e h ds fun x e h ds => exK (∃ x' e' h' ds', (∀ env, Rep n e env → ∃ env', Rep n e' env' ∧ loopV (codeV C call c) m { env, h, ds, rd } = some (x', { env := env', h := h', ds := ds', rd })) ∧ k x' e' h' ds') (fun i => k (.exit i) e h ds) (k .ret e h ds) x) :
    ∀ env, Rep n e env → ∃ x e' env' h' ds', Rep n e' env' ∧ loopV (codeV C call c) (m + 1) { env, h, ds, rd } = some (x, { env := env', h := h', ds := ds', rd }) ∧ k x e' h' ds' := by
  intro env R
  obtain ⟨x, e1, env1, h1, ds1, R1, h2, h3⟩ := codeK_ok c e env h ds _ R q
  simp only [loopV, h2]
  cases x with
  | norm =>
    obtain ⟨x', e', h', ds', h4, h5⟩ := h3
    obtain ⟨env', R', h6⟩ := h4 env1 R1
    exact ⟨x', e', env', h', ds', R', h6, h5⟩
  | exit i => exact ⟨_, e1, env1, h1, ds1, R1, rfl, h3⟩
  | ret => exact ⟨_, e1, env1, h1, ds1, R1, rfl, h3⟩
end
end Go.B
namespace Go.B
open Go
section
variable {C : Conf} {h : Heap} {n : Nat} {e : Tr} {call : CallF}

theorem rep_toEnv (n : Nat) (e : Tr) : Rep n e (toEnv e n 0) where
  len := toEnv_length e n 0
  get := fun t ht => by rw [toEnv_get e n 0 t ht, Nat.zero_add]; rfl

/-- A loop that has so many rounds left. -/
def LoopN (n : Nat) (C : Conf) (call : CallF) (rd : Option Nat) (c : Code) (m : Nat) : KK := fun e h ds k =>
  ∃ x e' h' ds', (∀ env, Rep n e env → ∃ env', Rep n e' env' ∧ loopV (codeV C call c) m { env, h, ds, rd } = some (x, { env := env', h := h', ds := ds', rd })) ∧ k x e' h' ds'

theorem wpLoop_of {rd : Option Nat} {c : Code} {ds : Ds} {k : Ex → Tr → Heap → Ds → Prop} (q : LoopN n C call rd c C.rounds e h ds k) : wpLoop n C call rd c e h ds k := q

theorem LoopN.round {rd : Option Nat} {c : Code} {ds : Ds} {k : Ex → Tr → Heap → Ds → Prop} {m : Nat}
    (q : codeK n C call rd c e h ds fun x e h ds => exK (LoopN n C call rd c m e h ds k) (fun i => k (.exit i) e h ds) (k .ret e h ds) x) : LoopN n C call rd c (m + 1) e h ds k := by
  obtain ⟨x, e', env', h', ds', R', h1, h2⟩ := loopK_round m q _ (rep_toEnv n e)
  exact ⟨x, e', h', ds', fun env R => ⟨env', R', by rw [← R.toEnv]; exact h1⟩, h2⟩
end
end Go.B
namespace Go.B
open Go
/-- Both ways, where a bool isn't known. -/
theorem brec {b : Bool} {F T : Prop} (h1 : b = false → F) (h2 : b = true → T) : Bool.rec (motive := fun _ => Prop) F T b := by
  cases b with
  | false => exact h1 rfl
  | true => exact h2 rfl
/-- One way, where a bool is known. -/
theorem brecF {b : Bool} {F T : Prop} (h : b = false) (q : F) : Bool.rec (motive := fun _ => Prop) F T b := by subst h; exact q
theorem brecT {b : Bool} {F T : Prop} (h : b = true) (q : T) : Bool.rec (motive := fun _ => Prop) F T b := by subst h; exact q
end Go.B
namespace Go.B
open Go
/-- A call on a heap of its own. -/
theorem wp_alone {C : Conf} {h : Heap} {f : FuncId} {fn : Func} {c : Code} {args args' : List Val} {m : Nat} {k : Val → Heap → Prop} (h1 : C.sum f args = none) (h2 : C.tab.fn f = some fn) (h3 : C.alone f = true) (h4 : fn.body = some c)
    (h5 : frzL (frz h 30) args = some args') (q : bodyK C (callV C m) fn c args' .nil fun v h' => ∃ v2, frz h' 30 v = some v2 ∧ (args.all (fun a => idFree 30 a) || plainV 30 v2) = true ∧ k v2 h) : wpT (callV C (m + 1)) (.fn f) args h k := by
  obtain ⟨v, h', h6, v2, h7, h8, h9⟩ := bodyK_ok (f := f) h4 q
  refine ⟨v2, h, ?_, h9⟩
  simp only [callV, h1, h2, h3, cond_true, h5, h6, h7, h8]
end Go.B
namespace Go.B
open Go
/-- A loop's head: what isn't listed is whatever it is. -/
theorem LoopN.gen {C : Conf} {call : CallF} {rd : Option Nat} {c : Code} {n m : Nat} {T : Tr} {h : Heap} {ds : Ds} {k : Ex → Tr → Heap → Ds → Prop} (l : List (Nat × Val))
    (q : ∀ f, LoopN n C call rd c m (mkTr n (updL l f)) h ds k) (e : mkTr n (updL l fun i => T.get (way i)) = T) : LoopN n C call rd c m T h ds k := by
  have := q fun i => T.get (way i)
  rw [e] at this
  exact this
end Go.B
end
