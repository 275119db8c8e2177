/- The slim code: what is left of a function's text once its types are looked up; what a step asks. -/
import Derived.Test.YtkpijfgananjjaaDoorGa2
set_option linter.unusedVariables false
set_option linter.unusedSimpArgs false
namespace Go.Proofs.YtkpijfgananjjaaDoor.Ga

inductive Opd where
  | tmp (t : Nat) | const (a : A)

/-- What kind of values '==' compares (beside numbers and strings). -/
inductive EqK where
  | none | bool | iface | slice | func

/-- What is held against nil. -/
inductive NilK where
  | iface | ptr | slice | map | func
/-- A field's kind, where structs are compared. -/
inductive FK where
  | int | str | bool

inductive LenK where
  | str | sl | map

inductive SOp where
  | mov (x : Opd)
  | pick (c a b : Opd)
  | alloc (cs : List A)
  | box (x : Opd)
  | build (zero : List A) (parts : List (Nat × Nat × Opd))
  | buildSl (sz : Nat) (zero : A) (len : Nat) (parts : List (Nat × Opd))
  | load (agg : Bool) (sz : Nat) (p : Opd)
  | store (sz : Nat) (p x : Opd)
  | nilCheck (x : Opd)
  | bin (op : BinOp) (k : EqK) (x y : Opd)
  | un (op : UnOp) (x : Opd)
  | toInt (k : IntKind) (x : Opd)
  | toStr (x : Opd)
  | mkIface (t : TypeId) (x : Opd)
  | mkFunc (f : FuncId) (caps : List Opd)
  | mkMap
  | mkSl (sz : Nat) (zero : A) (bytes : Nat) (n c : Opd)
  | sliceStr (x : Opd) (lo hi : Option Opd)
  | sliceSl (sz : Nat) (x : Opd) (lo hi mx : Option Opd)
  | isnil (neg : Bool) (q : NilK) (x : Opd)
  | eqS (neg : Bool) (ks : List FK) (x y : Opd)
  | fieldAddr (off : Nat) (x : Opd)
  | field (agg : Bool) (off sz : Nat) (x : Opd)
  | idxAddr (sz : Nat) (x i : Opd)
  | idxStr (x i : Opd)
  | lookup (str : Bool) (zero : A) (m k : Opd) (ok : Bool)
  | mapUpd (str : Bool) (m k v : Opd)
  | extract (x : Opd) (i : Nat)
  | tassert (t : TypeId) (zero : A) (x : Opd) (ok : Bool)
  | call (f : FuncId) (args : List Opd)
  | callV (f : Opd) (args : List Opd)
  | len (q : LenK) (x : Opd)
  | append (str : Bool) (sz bytes : Nat) (s x : Opd)
  | delete (str : Bool) (m k : Opd)
  | clear (m : Opd)
  | mnmx (mn : Bool) (x y : Opd)
  | panic (x : Opd)

structure SOper where
  dst : Option Nat
  op : SOp
  guard : Option (Nat × Bool)

abbrev Env := List (Nat × A)
def get : Env → Nat → Option A
  | [], _ => none
  | (k, a) :: r, t => if k = t then some a else get r t
def ev (env : Env) : Opd → Option A
  | .tmp t => get env t
  | .const a => some a
def put (env : Env) : Option Nat → A → Env
  | none, _ => env
  | some d, a => (d, a) :: env

/-- Under a condition that can be reckoned. -/
def Dc (p : Prop) [Decidable p] (q : Prop) : Prop := if p then q else False
theorem Dc.out {p : Prop} [Decidable p] {q : Prop} (h : Dc p q) : p ∧ q := by
  unfold Dc at h
  split at h
  · rename_i hp; exact ⟨hp, h⟩
  · exact h.elim
theorem Dc.mk {p : Prop} [Decidable p] {q : Prop} (hp : p) (h : q) : Dc p q := by unfold Dc; rw [if_pos hp]; exact h

/-- With what an operand is, if it is known. -/
def Wi (o : Option A) (k : A → Prop) : Prop := match o with | some a => k a | none => False
/-- With what else is known. -/
def Wo {α : Type} (o : Option α) (k : α → Prop) : Prop := match o with | some a => k a | none => False
theorem wo {α : Type} {o : Option α} {k : α → Prop} (h : Wo o k) : ∃ a, o = some a ∧ k a := by
  cases o with
  | none => exact h.elim
  | some a => exact ⟨a, rfl, h⟩
theorem Wi_some (a : A) (k : A → Prop) : Wi (some a) k = k a := rfl
/-- By a truth value. -/
def Bc (c : Bool) (p q : Prop) : Prop := (c = true → p) ∧ (c = false → q)
theorem Bc_true (p q : Prop) : Bc true p q = p := by simp [Bc]
theorem Bc_false (p q : Prop) : Bc false p q = q := by simp [Bc]

/-- By a guard's truth value. -/
def Gd (b c : Bool) (p q : Prop) : Prop := if b then Bc c p q else Bc c q p
theorem Gd.yes {b c : Bool} {p q : Prop} (h : Gd b c p q) (hc : (c == b) = true) : p := by
  cases b <;> cases c <;> first | (simp at hc; done) | exact h.1 rfl | exact h.2 rfl
theorem Gd.no {b c : Bool} {p q : Prop} (h : Gd b c p q) (hc : (c == b) = false) : q := by
  cases b <;> cases c <;> first | (simp at hc; done) | exact h.1 rfl | exact h.2 rfl

def evs (env : Env) : List Opd → Option (List A)
  | [] => some []
  | x :: r => match ev env x, evs env r with | some a, some l => some (a :: l) | _, _ => none

/-- One cell? -/
def A.scalar : A → Bool
  | .agg _ | .tup _ => false
  | _ => true
def scalars : List A → Bool
  | [] => true
  | a :: r => a.scalar && scalars r

inductive AEnd where
  | ret (a : A) | pan (a : A)
def EndR (y : X) : AEnd → Ending → Prop
  | .ret a, e => ∃ v, e = .returned v ∧ VR y a v
  | .pan a, e => ∃ v, e = .panicked [{ v, recovered := false }] ∧ VR y a v

/-- A contract over abstract states: 'm': what may be written. -/
def ACalls (P : Program) (f : FuncId) (args : List A) (σ : St) (m : Nat → Nat → Prop) (R : AEnd → St → Prop) : Prop :=
  ∀ (x : X) (vs : List Value), Rel x → x.σ = σ → vs.length = args.length → (∀ (j : Nat) (a : A), args[j]? = some a → VR x a (vs.getD j undef)) →
    Calls P f vs.toArray x.w fun e w' => ∃ y : X, y.w = w' ∧ Evol m x y ∧ Rel y ∧ ∃ ae, EndR y ae e ∧ R ae y.σ

def Goes (k : A → St → Prop) (pk : A → St → Prop) : AEnd → St → Prop
  | .ret a, σ => k a σ
  | .pan a, σ => pk a σ

def ACallsW (P : Program) (f : FuncId) (args : List A) (σ : St) (m : Nat → Nat → Prop) (k : A → St → Prop) (pk : A → St → Prop) : Prop :=
  ∃ m', (∀ id off, id < σ.n → m' id off → m id off) ∧ ACalls P f args σ m' (Goes k pk)

theorem ACalls.mono {P : Program} {f : FuncId} {args : List A} {σ : St} {m : Nat → Nat → Prop} {R R' : AEnd → St → Prop} (h : ACalls P f args σ m R) (hr : ∀ e σ', R e σ' → R' e σ') : ACalls P f args σ m R' :=
  fun x vs hx hσ hl hv => (h x vs hx hσ hl hv).mono fun e w' ⟨y, h1, h2, h3, ae, h4, h5⟩ => ⟨y, h1, h2, h3, ae, h4, hr _ _ h5⟩

/-- What is known of a state behind a call: what may not have been written is as it was. -/
def Kept (m : Nat → Nat → Prop) (σ σ' : St) : Prop :=
  σ.n ≤ σ'.n ∧ σ'.base = σ.base ∧ ∀ id, id < σ.n → match σ.obj id with
    | .cells cs => ∃ cs', σ'.obj id = .cells cs' ∧ cs'.length = cs.length ∧ ∀ off, ¬ m id off → cs'[off]? = cs[off]?
    | .map es => ∃ es', σ'.obj id = .map es' ∧ (¬ m id 0 → es' = es)
    | .row hw => ∃ hw', σ'.obj id = .row hw' ∧ hw ≤ hw' ∧ (¬ m id 0 → hw' = hw)

theorem Evol.kept {m : Nat → Nat → Prop} {x y : X} (h : Evol m x y) : Kept m x.σ y.σ :=
  ⟨h.n, h.base, fun id hid => by
    have a := h.objs id hid
    cases ho : x.σ.obj id with
    | cells cs => rw [ho] at a; obtain ⟨_, cs', a2, a3, a4⟩ := a; exact ⟨cs', a2, a3, fun off q => (a4 off q).1⟩
    | map es => rw [ho] at a; obtain ⟨_, es', a2, a3⟩ := a; exact ⟨es', a2, fun q => (a3 q).1⟩
    | row hw => rw [ho] at a; exact a⟩

theorem Kept.same {m : Nat → Nat → Prop} {σ σ' : St} (h : Kept m σ σ') {id : Nat} (hid : id < σ.n) (hm : ∀ off, ¬ m id off) : σ'.obj id = σ.obj id := by
  have a := h.2.2 id hid
  cases ho : σ.obj id with
  | cells cs =>
    rw [ho] at a
    obtain ⟨cs', a1, a2, a3⟩ := a
    rw [a1]
    congr 1
    exact List.ext_getElem? fun off => a3 off (hm off)
  | map es => rw [ho] at a; obtain ⟨es', a1, a2⟩ := a; rw [a1, a2 (hm 0)]
  | row hw => rw [ho] at a; obtain ⟨hw', a1, _, a2⟩ := a; rw [a1, a2 (hm 0)]

/-- A contract's post may be met with what has been kept. -/
theorem ACallsW.of {P : Program} {f : FuncId} {args : List A} {σ : St} {m m' : Nat → Nat → Prop} {R : AEnd → St → Prop} {k pk : A → St → Prop} (h : ACalls P f args σ m' R)
    (hm : ∀ id off, id < σ.n → m' id off → m id off) (hr : ∀ e σ', Kept m' σ σ' → R e σ' → Goes k pk e σ') : ACallsW P f args σ m k pk :=
  ⟨m', hm, fun x vs hx hσ hl hv => (h x vs hx hσ hl hv).mono fun e w' ⟨y, h1, h2, h3, ae, h4, h5⟩ => ⟨y, h1, h2, h3, ae, h4, hr _ _ (hσ ▸ h2.kept) h5⟩⟩

/-! ### What a step asks -/
def binInt (op : BinOp) (k : IntKind) (a b : Int) (g : A → Prop) : Prop :=
  match op with
  | .add => g (.int k (k.wrap (a + b)))
  | .sub => g (.int k (k.wrap (a - b)))
  | .mul => g (.int k (k.wrap (a * b)))
  | .eql => g (.bool (a == b))
  | .neq => g (.bool (a != b))
  | .lss => g (.bool (a < b))
  | .leq => g (.bool (a ≤ b))
  | .gtr => g (.bool (a > b))
  | .geq => g (.bool (a ≥ b))
  | .quo => b ≠ 0 ∧ g (.int k (k.wrap (a.tdiv b)))
  | .rem => b ≠ 0 ∧ g (.int k (a.tmod b))
  | .and => g (.int k (k.wrap ((BitVec.ofInt k.bits a &&& BitVec.ofInt k.bits b).toNat : Int)))
  | .or => g (.int k (k.wrap ((BitVec.ofInt k.bits a ||| BitVec.ofInt k.bits b).toNat : Int)))
  | .xor => g (.int k (k.wrap ((BitVec.ofInt k.bits a ^^^ BitVec.ofInt k.bits b).toNat : Int)))
  | _ => False

def binStr (op : BinOp) (a b : List UInt8) (g : A → Prop) : Prop :=
  match op with
  | .add => a.length + b.length ≤ 9223372036854775807 ∧ g (.str (a ++ b))
  | .eql => g (.bool (a == b))
  | .neq => g (.bool (!(a == b)))
  | .lss => g (.bool (Op.bytesLess a b))
  | .leq => g (.bool (Op.bytesLess a b || a == b))
  | .gtr => g (.bool (!(Op.bytesLess a b || a == b)))
  | .geq => g (.bool (!(Op.bytesLess a b)))
  | _ => False

/-- Is it nil? -/
def isNilA : NilK → A → Option Bool
  | .iface, .nili => some true
  | .iface, .iface _ _ => some false
  | .ptr, .nilp => some true
  | .ptr, .ptr _ _ => some false
  | .ptr, .rp _ => some false
  | .slice, .nils => some true
  | .slice, .sl _ _ (_ :: _) => some false
  | .map, .nilm => some true
  | .map, .map _ => some false
  | .func, .nilf => some true
  | .func, .clos _ _ => some false
  | _, _ => none

/-- Structs' cells held against each other. -/
def eqCs : List FK → List A → List A → Bool → (Bool → Prop) → Prop
  | [], _, _, acc, g => g acc
  | .int :: ks, .int k a :: cs, .int k' b :: ds, acc, g => Dc (k = k') (eqCs ks cs ds (acc && (a == b)) g)
  | .str :: ks, .str a :: cs, .str b :: ds, acc, g => eqCs ks cs ds (acc && (a == b)) g
  | .bool :: ks, .bool a :: cs, .bool b :: ds, acc, g => eqCs ks cs ds (acc && (a == b)) g
  | _, _, _, _, _ => False

/-- A string's bytes, as elements. -/
def bs (l : List UInt8) : List A := l.map fun b => .int .u8 (b.toNat : Int)

def binA (op : BinOp) (k : EqK) (x y : A) (g : A → Prop) : Prop :=
  match x, y with
  | .int k a, .int k' b => match op with
    | .shl => 0 ≤ b ∧ g (.int k (k.wrap (a * 2 ^ min b.toNat k.bits)))
    | .shr => 0 ≤ b ∧ g (.int k (a.fdiv (2 ^ min b.toNat k.bits)))
    | _ => Dc (k = k') (binInt op k a b g)
  | .str a, .str b => binStr op a b g
  | .bool a, .bool b => match k, op with
    | .bool, .eql => g (.bool (a == b))
    | .bool, .neq => g (.bool (!(a == b)))
    | _, _ => False
  | _, _ => False

def slBounds (len : Nat) (lo hi : Option A) (g : Nat → Nat → Prop) : Prop :=
  match lo, hi with
  | none, none => g 0 len
  | some (.int _ l), none => 0 ≤ l ∧ l ≤ len ∧ g l.toNat len
  | none, some (.int _ h) => 0 ≤ h ∧ h ≤ len ∧ g 0 h.toNat
  | some (.int _ l), some (.int _ h) => 0 ≤ h ∧ h ≤ len ∧ 0 ≤ l ∧ l ≤ h ∧ g l.toNat h.toNat
  | _, _ => False

/-- With an upper bound, too. -/
def slBounds3 (len : Nat) (lo hi mx : Option A) (g : Nat → Nat → Own → Prop) : Prop :=
  match mx with
  | none => slBounds len lo hi fun l h => g l h .no
  | some (.int _ m) => 0 ≤ m ∧ m ≤ len ∧ match lo, hi with
    | none, some (.int _ h) => 0 ≤ h ∧ h ≤ m ∧ g 0 h.toNat (if h = m ∧ 0 < m then .full else .no)
    | some (.int _ l), some (.int _ h) => 0 ≤ h ∧ h ≤ m ∧ 0 ≤ l ∧ l ≤ h ∧ g l.toNat h.toNat (if h = m ∧ 0 < m then .full else .no)
    | _, _ => False
  | _ => False

def evo (env : Env) : Option Opd → Option (Option A)
  | none => some none
  | some x => (ev env x).map some

/-- The parts of a composite value. -/
def setParts (env : Env) : List A → List (Nat × Nat × Opd) → (List A → Prop) → Prop
  | cs, [], g => g cs
  | cs, (off, sz, x) :: r, g => Wi (ev env x) fun a => Dc (a.cells.length = sz) (Dc (off + sz ≤ cs.length) (setParts env (setL cs off a.cells) r g))

def setElems (env : Env) (sz : Nat) : List A → List (Nat × Opd) → (List A → Prop) → Prop
  | xs, [], g => g xs
  | xs, (i, x) :: r, g => Wi (ev env x) fun a => Dc (a.cells.length = sz) (Dc (i < xs.length) (setElems env sz (xs.set i a) r g))

/-- A function that has a body, by its number. -/
def callable (P : Program) (f : FuncId) : Bool := match P.funcs[f]? with | some fn => fn.body.isSome && fn.name != "runtime.NumGoroutine" | none => false

/-- A slice's elements (of so many cells), a string's bytes. -/
def elemsOf (str : Bool) (sz : Nat) : A → Option (List A)
  | .nils => if str then none else some []
  | .sl _ s ys => if str then none else if s = sz then some ys else none
  | .str s => if str then some (s.map fun b => .int .u8 (b.toNat : Int)) else none
  | _ => none
/-- What a slice is, for whoever appends. -/
def destOf (sz : Nat) : A → Option (Own × List A)
  | .nils => some (.full, [])
  | .sl o s xs => if s = sz then some (o, xs) else none
  | _ => none
def appendS (m : Nat → Nat → Prop) (σ : St) (sz bytes : Nat) (o : Own) (xs ys : List A) (k : A → St → Prop) : Prop :=
  2 * (xs.length + ys.length) * bytes ≤ 281474976710656 ∧ xs.length + ys.length ≤ 140737488355328 ∧ (∀ e ∈ ys, e.cells.length = sz ∧ scalars e.cells = true) ∧
    match o with
    | .no => False
    | .full => (ys = [] → xs = []) ∧ k (.sl (.tok σ.n) sz (xs ++ ys)) (σ.new (.row (xs ++ ys).length))
    | .tok t => m t 0 ∧ σ.obj t = .row xs.length ∧ k (.sl (.tok t) sz (xs ++ ys)) (σ.set t (.row (xs ++ ys).length))

/-- A map's keys: numbers, or strings. -/
def keyEq (str : Bool) (a b : A) : Option Bool := match a, b with
  | .int k a, .int k' b => if str then none else if k = k' then some (a == b) else none
  | .str a, .str b => if str then some (a == b) else none
  | _, _ => none
def keyOk (str : Bool) : A → Bool
  | .int _ _ => !str
  | .str _ => str
  | _ => false
def mget (str : Bool) : List (A × A) → A → Option (Option A)
  | [], _ => some none
  | (k, v) :: r, key => match keyEq str key k with
    | some true => some (some v)
    | some false => mget str r key
    | none => none
def mput (str : Bool) : List (A × A) → A → A → Option (List (A × A))
  | [], key, v => some [(key, v)]
  | (k, u) :: r, key, v => match keyEq str key k with
    | some true => some ((key, v) :: r)
    | some false => (mput str r key v).map ((k, u) :: ·)
    | none => none
def mdel (str : Bool) : List (A × A) → A → Option (List (A × A))
  | [], _ => some []
  | (k, u) :: r, key => match keyEq str key k with
    | some true => some r
    | some false => (mdel str r key).map ((k, u) :: ·)
    | none => none
/-- What a map holds. -/
def mapOf (σ : St) : A → Option (List (A × A))
  | .nilm => some []
  | .map id => match σ.obj id with | .map es => some es | _ => none
  | _ => none
def gotten (zero : A) (ok : Bool) : Option A → A
  | some v => if ok then .tup [v, .bool true] else v
  | none => if ok then .tup [zero, .bool false] else zero

def stepO (P : Program) (m : Nat → Nat → Prop) (env : Env) (σ : St) (o : SOp) (k : A → St → Prop) (pk : A → St → Prop) : Prop :=
  match o with
  | .mov x => Wi (ev env x) fun a => k a σ
  | .pick c a b => Wi (ev env c) fun v => match v with
    | .bool t => Bc t (Wi (ev env a) fun v => k v σ) (Wi (ev env b) fun v => k v σ)
    | _ => False
  | .alloc cs => k (.ptr σ.n 0) (σ.new (.cells cs))
  | .box x => Wi (ev env x) fun a => k (.ptr σ.n 0) (σ.new (.cells a.cells))
  | .build zero parts => setParts env zero parts fun cs => k (.agg cs) σ
  | .buildSl sz zero len parts => setElems env sz (List.replicate len zero) parts fun xs => k (.sl .full sz xs) σ
  | .load agg sz p => Wi (ev env p) fun v => match v with
    | .ptr id off => match σ.obj id with
      | .cells cs => if agg then Dc (off + sz ≤ cs.length) (k (.agg ((cs.drop off).take sz)) σ) else Wi cs[off]? fun c => k c σ
      | _ => False
    | .rp cs => if agg then Dc (sz ≤ cs.length) (k (.agg (cs.take sz)) σ) else Wi cs[0]? fun c => k c σ
    | _ => False
  | .store sz p x => Wi (ev env p) fun v => Wi (ev env x) fun a => match v with
    | .ptr id off => match σ.obj id with
      | .cells cs => Dc (a.cells.length = sz) <| Dc (off + sz ≤ cs.length) <| Dc (scalars a.cells = true) <| (∀ j, j < sz → m id (off + j)) ∧ k (.tup []) (σ.set id (.cells (setL cs off a.cells)))
      | _ => False
    | _ => False
  | .nilCheck x => Wi (ev env x) fun v => match v with
    | .ptr _ _ | .rp _ | .clos _ _ => k v σ
    | _ => False
  | .bin op q x y => Wi (ev env x) fun a => Wi (ev env y) fun b => binA op q a b fun r => k r σ
  | .un op x => Wi (ev env x) fun a => match op, a with
    | .not, .bool b => k (.bool (!b)) σ
    | .neg, .int q n => k (.int q (q.wrap (0 - n))) σ
    | _, _ => False
  | .toInt q x => Wi (ev env x) fun a => match a with
    | .int _ n => k (.int q (q.wrap n)) σ
    | _ => False
  | .mkIface t x => Wi (ev env x) fun a => k (.iface t a) σ
  | .mkFunc f caps => match evs env caps with | some l => k (.clos f l) σ | none => False
  | .mkMap => k (.map σ.n) (σ.new (.map []))
  | .sliceStr x lo hi => Wi (ev env x) fun a => match a, evo env lo, evo env hi with
    | .str s, some lo, some hi => slBounds s.length lo hi fun l h => k (.str ((s.take h).drop l)) σ
    | _, _, _ => False
  | .isnil neg q x => Wi (ev env x) fun v => match isNilA q v with
    | some b => k (.bool (if neg then !b else b)) σ
    | none => False
  | .eqS neg ks x y => Wi (ev env x) fun v => Wi (ev env y) fun u => match v, u with
    | .agg cs, .agg ds => eqCs ks cs ds true fun b => k (.bool (if neg then !b else b)) σ
    | _, _ => False
  | .toStr x => Wi (ev env x) fun v => match v with
    | .sl _ sz xs => Dc (sz = 1) (∃ l, xs = bs l ∧ k (.str l) σ)
    | .nils => k (.str []) σ
    | _ => False
  | .sliceSl sz x lo hi mx => Wi (ev env x) fun a => match evo env lo, evo env hi, evo env mx with
    | some lo, some hi, some mx => match a with
      | .sl _ s xs => Dc (s = sz) (slBounds3 xs.length lo hi mx fun l h o => k (.sl o s ((xs.take h).drop l)) σ)
      | .nils => slBounds3 0 lo hi mx fun _ _ _ => k .nils σ
      | _ => False
    | _, _, _ => False
  | .fieldAddr off x => Wi (ev env x) fun v => match v with
    | .ptr id o => k (.ptr id (o + off)) σ
    | .rp cs => Dc (off ≤ cs.length) (k (.rp (cs.drop off)) σ)
    | _ => False
  | .field agg off sz x => Wi (ev env x) fun v => match v with
    | .agg cs => if agg then Dc (off + sz ≤ cs.length) (k (.agg ((cs.drop off).take sz)) σ) else Wi cs[off]? fun c => k c σ
    | _ => False
  | .idxAddr sz x i => Wi (ev env x) fun v => Wi (ev env i) fun j => match v, j with
    | .sl _ sz' xs, .int _ n => Dc (sz' = sz) (0 ≤ n ∧ Wi xs[n.toNat]? fun e => k (.rp e.cells) σ)
    | .os id off len sz', .int _ n => Dc (sz' = sz) (0 ≤ n ∧ n < len ∧ k (.ptr id (off + n.toNat * sz)) σ)
    | _, _ => False
  | .idxStr x i => Wi (ev env x) fun v => Wi (ev env i) fun j => match v, j with
    | .str s, .int _ n => 0 ≤ n ∧ n < s.length ∧ k (.int .u8 ((s.getD n.toNat 0).toNat : Int)) σ
    | _, _ => False
  | .extract x i => Wi (ev env x) fun v => match v with
    | .tup vs => Wi vs[i]? fun c => k c σ
    | _ => False
  | .tassert t zero x ok => Wi (ev env x) fun v => match v with
    | .iface u a => if u = t then k (if ok then .tup [a, .bool true] else a) σ else (if ok then k (.tup [zero, .bool false]) σ else False)
    | .nili => if ok then k (.tup [zero, .bool false]) σ else False
    | _ => False
  | .call f args => match evs env args with | some l => ACallsW P f l σ m k pk | none => False
  | .callV f args => Wi (ev env f) fun v => match v, evs env args with
    | .clos g caps, some l => callable P g = true ∧ ACallsW P g (l ++ caps) σ m k pk
    | _, _ => False
  | .len q x => Wi (ev env x) fun v => match q, v with
    | .str, .str s => k (.int .i64 s.length) σ
    | .sl, .sl _ _ xs => k (.int .i64 xs.length) σ
    | .sl, .nils => k (.int .i64 0) σ
    | .sl, .os _ _ len _ => k (.int .i64 len) σ
    | .map, .map id => match σ.obj id with | .map es => k (.int .i64 es.length) σ | _ => False
    | .map, .nilm => k (.int .i64 0) σ
    | _, _ => False
  | .append str sz bytes s x => Wi (ev env s) fun v => Wi (ev env x) fun u => match destOf sz v, elemsOf str sz u with
    | some (o, xs), some ys => appendS m σ sz bytes o xs ys k
    | _, _ => False
  | .panic x => Wi (ev env x) fun v => match v with
    | .iface _ _ => pk v σ
    | _ => False
  | .lookup str zero mp key ok => Wi (ev env mp) fun v => Wi (ev env key) fun u => Dc (keyOk str u = true) (Wo (mapOf σ v) fun es => Wo (mget str es u) fun r => k (gotten zero ok r) σ)
  | .mapUpd str mp key x => Wi (ev env mp) fun v => Wi (ev env key) fun u => Wi (ev env x) fun a => Dc (keyOk str u = true) (match v with
    | .map id => match σ.obj id with
      | .map es => Wo (mput str es u a) fun es' => m id 0 ∧ k (.tup []) (σ.set id (.map es'))
      | _ => False
    | _ => False)
  | .delete str mp key => Wi (ev env mp) fun v => Wi (ev env key) fun u => Dc (keyOk str u = true) (match v with
    | .map id => match σ.obj id with
      | .map es => Wo (mdel str es u) fun es' => m id 0 ∧ k (.tup []) (σ.set id (.map es'))
      | _ => False
    | _ => False)
  | .clear mp => Wi (ev env mp) fun v => match v with
    | .map id => match σ.obj id with
      | .map es => m id 0 ∧ k (.tup []) (σ.set id (.map []))
      | _ => False
    | _ => False
  | .mnmx mn x y => Wi (ev env x) fun v => Wi (ev env y) fun u => match v, u with
    | .int q a, .int _ b => k (.int q (if mn then min a b else max a b)) σ
    | _, _ => False
  | _ => False

end Go.Proofs.YtkpijfgananjjaaDoor.Ga
