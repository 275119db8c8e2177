/- The abstract states: what a Go value and the memory that it leads to are, as plain data; the relation to the model's world. -/
import Derived.WalkKit
import Derived.Orders
import Derived.Below
set_option linter.unusedVariables false
set_option linter.unusedSimpArgs false
namespace Go.Proofs.YtkpijfgananjjaaDoor.Ga

/-- Who may append to a slice: nobody; whoever has it (it is full); the owner of a token, if it is the newest. -/
inductive Own where
  | no | full | tok (t : Nat)

/-- An abstract value. -/
inductive A where
  | int (k : IntKind) (n : Int)
  | bool (b : Bool)
  | str (s : List UInt8)
  | nilp | nils | nilm | nilf | nili
  | ptr (id off : Nat)
  | rp (cs : List A)
  | sl (o : Own) (sz : Nat) (xs : List A)
  | map (id : Nat)
  | os (id off len sz : Nat)  -- a slice over an object's cells
  | clos (f : FuncId) (caps : List A)
  | iface (t : TypeId) (v : A)
  | agg (cs : List A)
  | tup (vs : List A)

/-- A value's cells. -/
def A.cells : A → List A
  | .agg cs => cs
  | a => [a]

/-- What a slice holds, cell by cell. -/
def flat (xs : List A) : List A := xs.flatMap A.cells

/-- An object: a variable's cells; a map; a token with how many elements its row has. -/
inductive AO where
  | cells (cs : List A)
  | map (es : List (A × A))
  | row (hw : Nat)

structure St where
  n : Nat
  obj : Nat → AO
  base : Nat → Option Obj  -- what stays as it is: the program's own variables

/-- What a block of the world is. -/
inductive BK where
  | free | obj (id : Nat) | row (n : Nat) (own : Option Nat)

structure Gh where
  blk : Nat → Nat
  kind : Nat → BK

structure X where
  σ : St
  g : Gh
  w : World

/-- May the owner append? -/
def OwnOk (x : X) (b off len sz cap : Nat) : Own → Prop
  | .no => True
  | .full => cap = len
  | .tok t => t < x.σ.n ∧ (0 < len → off = 0 ∧ ∃ k cs e, x.g.kind b = .row k (some t) ∧ x.w.heap[b]? = some (.cells cs e (0, 0))) ∧ ∃ hw, x.σ.obj t = .row hw ∧ len ≤ hw ∧
      (len = hw → cap = len ∨ off = 0 ∧ x.g.kind b = .row (off + len * sz) (some t) ∧ ∃ cs e, x.w.heap[b]? = some (.cells cs e (0, 0)) ∧ off + cap * sz ≤ cs.size)

/-- A value of the model is what an abstract one says. -/
inductive VR (x : X) : A → Value → Prop where
  | int (k : IntKind) (n : Int) : VR x (.int k n) (.int k n)
  | bool (b : Bool) : VR x (.bool b) (.bool b)
  | str (s : List UInt8) : VR x (.str s) (.string ⟨s.toArray⟩)
  | nilp : VR x .nilp (.pointer none)
  | nils : VR x .nils (.slice none 0 0)
  | nilm : VR x .nilm (.map none)
  | nilf : VR x .nilf .nilFunc
  | nili : VR x .nili .nilIface
  | ptr (id off : Nat) (cs : List A) (h : id < x.σ.n) (hc : x.σ.obj id = .cells cs) : VR x (.ptr id off) (.pointer (some ⟨x.g.blk id, off, none⟩))
  | rp (cs : List A) (b off k : Nat) (own : Option Nat) (vs : Nat → Value) (hk : x.g.kind b = .row k own) (hle : off + cs.length ≤ k)
      (hc : ∀ j, j < cs.length → x.w.cell? ⟨b, off + j, none⟩ = some (vs j)) (hv : ∀ j c, cs[j]? = some c → VR x c (vs j)) :
      VR x (.rp cs) (.pointer (some ⟨b, off, none⟩))
  | sl (o : Own) (sz : Nat) (xs cs : List A) (b off cap k : Nat) (own : Option Nat) (vs : Nat → Value) (hcs : cs = flat xs) (hsz : ∀ e ∈ xs, e.cells.length = sz) (hcap : xs.length ≤ cap)
      (hk : cs ≠ [] → x.g.kind b = .row k own ∧ off + cs.length ≤ k) (hc : ∀ j, j < cs.length → x.w.cell? ⟨b, off + j, none⟩ = some (vs j))
      (hv : ∀ j c, cs[j]? = some c → VR x c (vs j)) (ho : OwnOk x b off xs.length sz cap o) :
      VR x (.sl o sz xs) (.slice (some ⟨b, off, none⟩) xs.length cap)
  | slnil (o : Own) (sz : Nat) (ho : OwnOk x 0 0 0 sz 0 o) : VR x (.sl o sz []) (.slice none 0 0)
  | slz (sz : Nat) (ad : Option Addr) (cap : Nat) : VR x (.sl .no sz []) (.slice ad 0 cap)
  | map (id : Nat) (es : List (A × A)) (h : id < x.σ.n) (hc : x.σ.obj id = .map es) : VR x (.map id) (.map (some (x.g.blk id)))
  | os (id off len sz cap : Nat) (cs : List A) (h : id < x.σ.n) (hc : x.σ.obj id = .cells cs) (hle : off + len * sz ≤ cs.length) (hcap : len ≤ cap) : VR x (.os id off len sz) (.slice (some ⟨x.g.blk id, off, none⟩) len cap)
  | clos (f : FuncId) (caps : List A) (vs : Array Value) (hl : vs.size = caps.length) (hv : ∀ j c, caps[j]? = some c → VR x c (vs.getD j undef)) :
      VR x (.clos f caps) (.func (.func f) #[] vs)
  | iface (t : TypeId) (a : A) (v : Value) (h : VR x a v) : VR x (.iface t a) (.iface t v)
  | agg (cs : List A) (vs : Array Value) (hl : vs.size = cs.length) (hv : ∀ j c, cs[j]? = some c → VR x c (vs.getD j undef)) : VR x (.agg cs) (.agg vs)
  | tup (cs : List A) (vs : Array Value) (hl : vs.size = cs.length) (hv : ∀ j c, cs[j]? = some c → VR x c (vs.getD j undef)) : VR x (.tup cs) (.tuple vs)

/-- A row that is kept: its first k cells stay. -/
def RowKept (w w' : World) (b k : Nat) : Prop :=
  ∃ cs e fr cs', w.heap[b]? = some (.cells cs e fr) ∧ w'.heap[b]? = some (.cells cs' e fr) ∧ cs'.size = cs.size ∧ ∀ j, j < k → cs'[j]? = cs[j]?

/-- What an object may become where 'm' says what may be written. -/
def ObjKept (m : Nat → Nat → Prop) (x x' : X) (id : Nat) : AO → Prop
  | .cells cs => x'.g.blk id = x.g.blk id ∧ ∃ cs', x'.σ.obj id = .cells cs' ∧ cs'.length = cs.length ∧
      ∀ off, ¬ m id off → cs'[off]? = cs[off]? ∧ x'.w.cell? ⟨x.g.blk id, off, none⟩ = x.w.cell? ⟨x.g.blk id, off, none⟩
  | .map es => x'.g.blk id = x.g.blk id ∧ ∃ es', x'.σ.obj id = .map es' ∧ (¬ m id 0 → es' = es ∧ x'.w.heap[x.g.blk id]? = x.w.heap[x.g.blk id]?)
  | .row hw => ∃ hw', x'.σ.obj id = .row hw' ∧ hw ≤ hw' ∧ (¬ m id 0 → hw' = hw)

def BlkKept (x x' : X) (b : Nat) : BK → Prop
  | .free => x'.g.kind b = .free ∧ x'.w.heap[b]? = x.w.heap[b]?
  | .obj id => x'.g.kind b = .obj id
  | .row k own => ∃ k', k ≤ k' ∧ x'.g.kind b = .row k' own ∧ RowKept x.w x'.w b k ∧ (∀ t hw, own = some t → t < x.σ.n → x.σ.obj t = .row hw → x'.σ.obj t = .row hw → k' = k)

/-- x' comes of x; only what 'm' says may have been written (of what was there). -/
structure Evol (m : Nat → Nat → Prop) (x x' : X) : Prop where
  n : x.σ.n ≤ x'.σ.n
  size : x.w.heap.size ≤ x'.w.heap.size
  os : x'.w.os = x.w.os
  tape : x'.w.tape = x.w.tape
  output : x'.w.output = x.w.output
  base : x'.σ.base = x.σ.base
  objs : ∀ id, id < x.σ.n → ObjKept m x x' id (x.σ.obj id)
  blks : ∀ b, b < x.w.heap.size → BlkKept x x' b (x.g.kind b)

def ObjRel (x : X) (id : Nat) : AO → Prop
  | .cells cs => x.g.kind (x.g.blk id) = .obj id ∧ ∃ arr e, x.w.heap[x.g.blk id]? = some (.cells arr e (0, 0)) ∧ cs.length ≤ arr.size ∧
      ∀ j c, cs[j]? = some c → VR x c (arr.getD j undef)
  | .map es => x.g.kind (x.g.blk id) = .obj id ∧ ∃ ents clock, x.w.heap[x.g.blk id]? = some (.map ents clock) ∧ ents.size = es.length ∧
      ∀ j k v, es[j]? = some (k, v) → VR x k (ents.getD j default).key ∧ VR x v (ents.getD j default).val
  | .row _ => True

/-- A block that stays as it is: nobody's, or a row that is whole. -/
def Pinned (x : X) (b : Nat) (o : Obj) : Prop := x.g.kind b = .free ∨ ∃ cs e fr, o = .cells cs e fr ∧ x.g.kind b = .row cs.size none

structure Rel (x : X) : Prop where
  objs : ∀ id, id < x.σ.n → ObjRel x id (x.σ.obj id)
  lt : ∀ b, x.w.heap.size ≤ b → x.g.kind b = .free
  rows : ∀ b k o, x.g.kind b = .row k o → ∃ cs e fr, x.w.heap[b]? = some (.cells cs e fr) ∧ k ≤ cs.size
  hits : ∀ b id, x.g.kind b = .obj id → id < x.σ.n ∧ x.g.blk id = b
  toks : ∀ b k t, x.g.kind b = .row k (some t) → t < x.σ.n
  pins : ∀ b o, x.σ.base b = some o → Pinned x b o ∧ x.w.heap[b]? = some o

theorem cell_of {w : World} {b off : Nat} {cs : Array Value} {e : TypeId} {fr : Nat × Nat} (h : w.heap[b]? = some (.cells cs e fr)) : w.cell? ⟨b, off, none⟩ = cs[off]? := by
  simp [World.cell?, h]

theorem RowKept.cell {w w' : World} {b k : Nat} (h : RowKept w w' b k) {j : Nat} (hj : j < k) : w'.cell? ⟨b, j, none⟩ = w.cell? ⟨b, j, none⟩ := by
  obtain ⟨cs, e, fr, cs', h1, h2, _, h4⟩ := h
  rw [cell_of h1, cell_of h2, h4 j hj]

theorem RowKept.trans {w w' w'' : World} {b k k' : Nat} (h : RowKept w w' b k) (h' : RowKept w' w'' b k') (hk : k ≤ k') : RowKept w w'' b k := by
  obtain ⟨cs, e, fr, cs', h1, h2, h3, h4⟩ := h
  obtain ⟨ds, e', fr', ds', k1, k2, k3, k4⟩ := h'
  rw [h2] at k1
  injection k1 with k1
  injection k1 with q1 q2 q3
  subst q1 q2 q3
  exact ⟨cs, e, fr, ds', h1, k2, by omega, fun j hj => by rw [k4 j (by omega), h4 j hj]⟩

theorem Rel.blk_lt {x : X} (h : Rel x) {b : Nat} (hb : x.g.kind b ≠ .free) : b < x.w.heap.size := by
  rcases Nat.lt_or_ge b x.w.heap.size with h' | h'
  · exact h'
  · exact absurd (h.lt b h') hb

theorem RowKept.refl {x : X} (h : Rel x) {b k : Nat} {o : Option Nat} (hb : x.g.kind b = .row k o) : RowKept x.w x.w b k := by
  obtain ⟨cs, e, fr, h1, _⟩ := h.rows b k o hb
  exact ⟨cs, e, fr, cs, h1, h1, rfl, fun _ _ => rfl⟩

theorem Evol.refl {m : Nat → Nat → Prop} {x : X} (h : Rel x) : Evol m x x where
  n := Nat.le_refl _
  size := Nat.le_refl _
  os := rfl
  base := rfl
  tape := rfl
  output := rfl
  objs := fun id hid => by
    cases ho : x.σ.obj id with
    | cells cs => exact ⟨rfl, cs, ho, rfl, fun _ _ => ⟨rfl, rfl⟩⟩
    | map es => exact ⟨rfl, es, ho, fun _ => ⟨rfl, rfl⟩⟩
    | row hw => exact ⟨hw, ho, Nat.le_refl _, fun _ => rfl⟩
  blks := fun b hb => by
    cases hk : x.g.kind b with
    | free => exact ⟨hk, rfl⟩
    | obj id => exact hk
    | row k o => exact ⟨k, Nat.le_refl _, hk, RowKept.refl h hk, fun _ _ _ _ _ _ => rfl⟩

/-- 'm2' speaks of the state behind the first step: what is new there is nobody's. -/
theorem Evol.trans {m m1 m2 : Nat → Nat → Prop} {x y z : X} (h : Evol m1 x y) (k : Evol m2 y z) (h1 : ∀ id off, id < x.σ.n → m1 id off → m id off)
    (h2 : ∀ id off, id < x.σ.n → m2 id off → m id off) : Evol m x z where
  n := Nat.le_trans h.n k.n
  size := Nat.le_trans h.size k.size
  os := k.os.trans h.os
  base := k.base.trans h.base
  tape := k.tape.trans h.tape
  output := k.output.trans h.output
  objs := fun id hid => by
    have a := h.objs id hid
    have b := k.objs id (Nat.lt_of_lt_of_le hid h.n)
    cases ho : x.σ.obj id with
    | cells cs =>
      rw [ho] at a
      obtain ⟨a1, cs', a2, a3, a4⟩ := a
      rw [a2] at b
      obtain ⟨b1, cs'', b2, b3, b4⟩ := b
      refine ⟨b1.trans a1, cs'', b2, b3.trans a3, fun off hm => ?_⟩
      have c1 := a4 off (fun q => hm (h1 id off hid q))
      have c2 := b4 off (fun q => hm (h2 id off hid q))
      rw [a1] at c2
      exact ⟨c2.1.trans c1.1, c2.2.trans c1.2⟩
    | map es =>
      rw [ho] at a
      obtain ⟨a1, es', a2, a3⟩ := a
      rw [a2] at b
      obtain ⟨b1, es'', b2, b3⟩ := b
      refine ⟨b1.trans a1, es'', b2, fun hm => ?_⟩
      have c1 := a3 (fun q => hm (h1 id 0 hid q))
      have c2 := b3 (fun q => hm (h2 id 0 hid q))
      rw [a1] at c2
      exact ⟨c2.1.trans c1.1, c2.2.trans c1.2⟩
    | row hw =>
      rw [ho] at a
      obtain ⟨hw', a1, a2, a3⟩ := a
      rw [a1] at b
      obtain ⟨hw'', b1, b2, b3⟩ := b
      refine ⟨hw'', b1, Nat.le_trans a2 b2, fun hm => ?_⟩
      rw [b3 (fun q => hm (h2 id 0 hid q)), a3 (fun q => hm (h1 id 0 hid q))]
  blks := fun b hb => by
    have a := h.blks b hb
    have c := k.blks b (Nat.lt_of_lt_of_le hb h.size)
    cases hk : x.g.kind b with
    | free =>
      rw [hk] at a
      rw [a.1] at c
      exact ⟨c.1, c.2.trans a.2⟩
    | obj id =>
      rw [hk] at a
      have a' : y.g.kind b = .obj id := a
      rw [a'] at c
      exact c
    | row n o =>
      rw [hk] at a
      obtain ⟨n', a1, a2, a3, a4⟩ := a
      rw [a2] at c
      obtain ⟨n'', c1, c2, c3, c4⟩ := c
      refine ⟨n'', Nat.le_trans a1 c1, c2, a3.trans c3 a1, fun t hw ht hn h0 h2 => ?_⟩
      have q := h.objs t hn
      rw [h0] at q
      obtain ⟨hw1, q1, q2, _⟩ := q
      have r := k.objs t (Nat.lt_of_lt_of_le hn h.n)
      rw [q1] at r
      obtain ⟨hw2, r1, r2, _⟩ := r
      rw [h2] at r1
      injection r1 with r1
      obtain rfl : hw1 = hw := by omega
      rw [c4 t hw1 ht (Nat.lt_of_lt_of_le hn h.n) q1 h2, a4 t hw1 ht hn h0 q1]

theorem Evol.mono {m m' : Nat → Nat → Prop} {x y : X} (h : Evol m x y) (hm : ∀ id off, id < x.σ.n → m id off → m' id off) : Evol m' x y where
  n := h.n
  size := h.size
  os := h.os
  base := h.base
  tape := h.tape
  output := h.output
  objs := fun id hid => by
    have a := h.objs id hid
    cases ho : x.σ.obj id with
    | cells cs =>
      rw [ho] at a
      obtain ⟨a1, cs', a2, a3, a4⟩ := a
      exact ⟨a1, cs', a2, a3, fun off hq => a4 off (fun q => hq (hm id off hid q))⟩
    | map es =>
      rw [ho] at a
      obtain ⟨a1, es', a2, a3⟩ := a
      exact ⟨a1, es', a2, fun hq => a3 (fun q => hq (hm id 0 hid q))⟩
    | row hw =>
      rw [ho] at a
      obtain ⟨hw', a1, a2, a3⟩ := a
      exact ⟨hw', a1, a2, fun hq => a3 (fun q => hq (hm id 0 hid q))⟩
  blks := h.blks

theorem OwnOk.evol {m : Nat → Nat → Prop} {x y : X} (h : Evol m x y) {b off len sz cap : Nat} {o : Own} (ho : OwnOk x b off len sz cap o) (hx : Rel x) : OwnOk y b off len sz cap o := by
  cases o with
  | no => trivial
  | full => exact ho
  | tok t =>
    obtain ⟨h1, hC, hw, h2, h3, h4⟩ := ho
    have a := h.objs t h1
    rw [h2] at a
    obtain ⟨hw', a1, a2, _⟩ := a
    refine ⟨Nat.lt_of_lt_of_le h1 h.n, fun hlen => ?_, hw', a1, Nat.le_trans h3 a2, fun e => ?_⟩
    · obtain ⟨c0, k, cs, e, c1, c2⟩ := hC hlen
      have hk := h.blks b (hx.blk_lt (b := b) (by rw [c1]; simp))
      rw [c1] at hk
      obtain ⟨k', _, d2, ⟨cs1, e1, fr1, cs1', q1, q2, q3, q4⟩, d3⟩ := hk
      rw [c2] at q1
      injection q1 with q1
      injection q1 with r1 r2 r3
      subst r1 r2 r3
      exact ⟨c0, k', cs1', e, d2, q2⟩
    have e' : len = hw := by omega
    obtain rfl : hw' = hw := by omega
    rcases h4 e' with c0 | ⟨c9, c2, cs, e2, c3, c4⟩
    · exact .inl c0
    have hb := hx.blk_lt (b := b) (by rw [c2]; simp)
    have hk := h.blks b hb
    rw [c2] at hk
    obtain ⟨k', _, d2, ⟨cs1, e1, fr1, cs1', q1, q2, q3, q4⟩, d3⟩ := hk
    obtain rfl := d3 t hw' rfl h1 h2 a1
    rw [c3] at q1
    injection q1 with q1
    injection q1 with r1 r2 r3
    subst r1 r2 r3
    exact .inr ⟨c9, d2, cs1', e2, q2, by omega⟩

/-- A value stays what it was. -/
theorem VR.evol {m : Nat → Nat → Prop} {x y : X} (h : Evol m x y) (hx : Rel x) {a : A} {v : Value} (hv : VR x a v) : VR y a v := by
  induction hv with
  | int k n => exact .int k n
  | bool b => exact .bool b
  | str s => exact .str s
  | nilp => exact .nilp
  | nils => exact .nils
  | nilm => exact .nilm
  | nilf => exact .nilf
  | nili => exact .nili
  | ptr id off cs hid hc =>
    have a := h.objs id hid
    rw [hc] at a
    obtain ⟨a1, cs', a2, _, _⟩ := a
    rw [← a1]
    exact .ptr id off cs' (Nat.lt_of_lt_of_le hid h.n) a2
  | rp cs b off k own vs hk hle hc _ ih =>
    have a := h.blks b (hx.blk_lt (by rw [hk]; simp))
    rw [hk] at a
    obtain ⟨k', a1, a2, a3, _⟩ := a
    exact .rp cs b off k' own vs a2 (by omega) (fun j hj => by rw [a3.cell (by omega)]; exact hc j hj) ih
  | sl o sz xs cs b off cap k own vs hcs hsz hcap hk hc _ ho ih =>
    by_cases hne : cs = []
    · exact .sl o sz xs cs b off cap k own vs hcs hsz hcap (fun q => absurd hne q) (fun j hj => by rw [hne] at hj; simp at hj) (fun j c hj => by rw [hne] at hj; simp at hj) (ho.evol h hx)
    · obtain ⟨k1, k2⟩ := hk hne
      have a := h.blks b (hx.blk_lt (by rw [k1]; simp))
      rw [k1] at a
      obtain ⟨k', a1, a2, a3, _⟩ := a
      exact .sl o sz xs cs b off cap k' own vs hcs hsz hcap (fun _ => ⟨a2, by omega⟩) (fun j hj => by rw [a3.cell (by omega)]; exact hc j hj) ih (ho.evol h hx)
  | slnil o sz ho => exact .slnil o sz (ho.evol h hx)
  | slz sz ad cap => exact .slz sz ad cap
  | map id es hid hc =>
    have a := h.objs id hid
    rw [hc] at a
    obtain ⟨a1, es', a2, _⟩ := a
    rw [← a1]
    exact .map id es' (Nat.lt_of_lt_of_le hid h.n) a2
  | os id off len sz cap cs hid hc hle hcap =>
    have a := h.objs id hid
    rw [hc] at a
    obtain ⟨a1, cs', a2, a3, _⟩ := a
    rw [← a1]
    exact .os id off len sz cap cs' (Nat.lt_of_lt_of_le hid h.n) a2 (by omega) hcap
  | clos f caps vs hl _ ih => exact .clos f caps vs hl ih
  | iface t a v _ ih => exact .iface t a v ih
  | agg cs vs hl _ ih => exact .agg cs vs hl ih
  | tup cs vs hl _ ih => exact .tup cs vs hl ih

end Go.Proofs.YtkpijfgananjjaaDoor.Ga
