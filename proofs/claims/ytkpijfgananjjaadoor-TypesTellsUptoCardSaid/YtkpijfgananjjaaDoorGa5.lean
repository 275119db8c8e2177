/- From the model's operations to slim ones; each step by step. -/
import Derived.Test.YtkpijfgananjjaaDoorGa4
import Derived.Laws.Concat
import Derived.Laws.Small
import Derived.Laws.StructEq
set_option linter.unusedVariables false
set_option linter.unusedSimpArgs false
namespace Go.Proofs.YtkpijfgananjjaaDoor.Ga

/-- Does '==' at this type ask for more than the values? -/
def eqK (P : Program) (t : TypeId) : EqK := match P.underlying t with
  | some .bool => .bool
  | some (.interface _) => .iface
  | some (.slice _) => .slice
  | some (.func _ _ _) => .func
  | _ => .none

/-- A comparison with nil? -/
def nilCmp (P : Program) (op : BinOp) (t : TypeId) (y : Operand) : Option (Bool × NilK) :=
  match (match op with | .eql => some false | .neq => some true | _ => none), y, P.underlying t with
  | some b, .const .nilIface, some (.interface _) => some (b, .iface)
  | some b, .const (.pointer none), some (.pointer _) => some (b, .ptr)
  | some b, .const (.slice none 0 0), some (.slice _) => some (b, .slice)
  | some b, .const (.map none), some (.map _ _) => some (b, .map)
  | some b, .const .nilFunc, some (.func _ _ _) => some (b, .func)
  | _, _, _ => none

def fieldKinds (P : Program) : Nat → List Field → Option (List FK)
  | _, [] => some []
  | i, f :: r => if f.offset = i ∧ f.name ≠ "_" then
      match P.underlying f.type, fieldKinds P (i + 1) r with
      | some (.int _), some l => some (.int :: l)
      | some .string, some l => some (.str :: l)
      | some .bool, some l => some (.bool :: l)
      | _, _ => none
    else none
/-- A comparison of plain structs? -/
def eqCmp (P : Program) (op : BinOp) (t : TypeId) : Option (Bool × List FK) :=
  match (match op with | .eql => some false | .neq => some true | _ => none), P.underlying t with
  | some b, some (.struct fs) => if P.stoodInHeld t = false ∧ P.eqGuardType P.depth t = false then (fieldKinds P 0 fs.toList).map fun l => (b, l) else none
  | _, _ => none

def cParts (P : Program) (fs : Array Field) : List (Nat × Operand) → Option (List (Nat × Nat × Opd))
  | [] => some []
  | (i, x) :: r => match fs[i]?, cOpd x, cParts P fs r with
    | some f, some x, some l => match tySz P f.type with | some sz => some ((f.offset, sz, x) :: l) | none => none
    | _, _, _ => none
def cElems : List (Nat × Operand) → Option (List (Nat × Opd))
  | [] => some []
  | (i, x) :: r => match cOpd x, cElems r with | some x, some l => some ((i, x) :: l) | _, _ => none

/-- A map's keys are strings? -/
def keyStr (P : Program) (t : TypeId) : Option Bool := match P.underlying t with
  | some (.int _) => some false
  | some .string => some true
  | _ => none
/-- A map's type: are its keys strings; its elements' type. -/
def mapTy (P : Program) (t : TypeId) : Option (Bool × TypeId) := match P.underlying t with
  | some (.map k e) => (keyStr P k).map fun b => (b, e)
  | _ => none

def cOp (P : Program) (o : Oper) : Option SOp :=
  match o.op with
  | .move x | .assign x => (cOpd x).map .mov
  | .pick c a b => match cOpd c, cOpd a, cOpd b with | some c, some a, some b => some (.pick c a b) | _, _, _ => none
  | .alloc t => match tyZero P t with | some a => some (.alloc a.cells) | none => none
  | .box t x => (cOpd x).map .box
  | .build t parts => match P.underlying t, tyZero P t with
    | some (.struct fs), some (.agg z) => if fs.toList.all (fun f => (tySz P f.type).isSome) = false then none else match cParts P fs parts.toList with | some l => some (.build z l) | none => none
    | _, _ => none
  | .buildSlice t len parts => match P.underlying t with
    | some (.slice e) => match tySz P e, tyZero P e, cElems parts.toList with
      | some sz, some z, some l => if z.cells.length = sz ∧ 0 < sz ∧ len * sz ≤ 16777216 ∧ scalars z.cells = true then some (.buildSl sz z len l) else none
      | _, _, _ => none
    | _ => none
  | .load t p => match tyAgg P t, tySz P t, cOpd p with | some agg, some sz, some p => some (.load agg sz p) | _, _, _ => none
  | .store t p x => match tySz P t, cOpd p, cOpd x with | some sz, some p, some x => some (.store sz p x) | _, _, _ => none
  | .nilCheck x => (cOpd x).map .nilCheck
  | .binOp op t x y _ => match nilCmp P op t y with
    | some (neg, q) => (cOpd x).map (.isnil neg q)
    | none => match cOpd x, cOpd y with
      | some x, some y => match eqCmp P op t with
        | some (neg, ks) => some (.eqS neg ks x y)
        | none => some (.bin op (eqK P t) x y)
      | _, _ => none
  | .unOp op _ x => (cOpd x).map (.un op)
  | .convert s t x => match P.underlying s, P.underlying t with
    | some (.int _), some (.int k) => (cOpd x).map (.toInt k)
    | some (.slice e), some .string => match P.underlying e with
      | some (.int .u8) => (cOpd x).map .toStr
      | _ => none
    | _, _ => none
  | .makeInterface t x => match isIface P t with | some false => (cOpd x).map (.mkIface t) | _ => none
  | .makeFunc (.func f) first caps => if first.size = 0 then (cOpds caps.toList).map (.mkFunc f) else none
  | .makeMap t none => some .mkMap
  | .slice t x lo hi mx => match P.underlying t, cOpd x, cOpt lo, cOpt hi, mx with
    | some .string, some x, some lo, some hi, none => some (.sliceStr x lo hi)
    | some (.slice e), some x, some lo, some hi, mx => match tySz P e, cOpt mx with
      | some (sz + 1), some mx => some (.sliceSl (sz + 1) x lo hi mx)
      | _, _ => none
    | _, _, _, _, _ => none
  | .fieldAddr t x f => match tyField P t f, cOpd x with
    | some f, some x => match tySz P f.type with | some (n + 1) => some (.fieldAddr f.offset x) | _ => none
    | _, _ => none
  | .field t x f => match tyField P t f, cOpd x with
    | some f, some x => match tyAgg P f.type, tySz P f.type with | some agg, some sz => some (.field agg f.offset sz x) | _, _ => none
    | _, _ => none
  | .indexAddr t x i => match P.underlying t, cOpd x, cOpd i with
    | some (.slice e), some x, some i => match tySz P e with | some (sz + 1) => some (.idxAddr (sz + 1) x i) | _ => none
    | _, _, _ => none
  | .index t x i => match P.underlying t, cOpd x, cOpd i with
    | some .string, some x, some i => some (.idxStr x i)
    | _, _, _ => none
  | .extract x i => (cOpd x).map fun x => .extract x i
  | .typeAssert x _ t ok => match isIface P t, tyZero P t, cOpd x with | some false, some z, some x => some (.tassert t z x ok) | _, _, _ => none
  | .call { callee := .value (.func f), args, .. } => if callable P f then (cOpds args.toList).map (.call f) else none
  | .call { callee := .value (.tmp f), args, .. } => (cOpds args.toList).map (.callV (.tmp f))
  | .call { callee := .builtin .len, args, argTypes } => match args.toList, argTypes.toList with
    | [x], [t] => match P.underlying t with
      | some .string => (cOpd x).map (.len .str)
      | some (.slice _) => (cOpd x).map (.len .sl)
      | some (.map _ _) => (cOpd x).map (.len .map)
      | _ => none
    | _, _ => none
  | .call { callee := .builtin .append, args, argTypes } => match args.toList, argTypes.toList with
    | [s, x], [t, tx] => match P.underlying t, P.underlying tx with
      | some (.slice e), some (.slice e') => match P.info? e, tyZero P e, cOpd s, cOpd x with
        | some i, some z, some s, some x => if z.cells.length = i.size ∧ 0 < i.size ∧ scalars z.cells = true then some (.append false i.size i.bytes s x) else none
        | _, _, _, _ => none
      | some (.slice e), some .string => match P.info? e, tyZero P e, cOpd s, cOpd x with
        | some i, some z, some s, some x => if z.cells.length = i.size ∧ i.size = 1 then some (.append true i.size i.bytes s x) else none
        | _, _, _, _ => none
      | _, _ => none
    | _, _ => none
  | .call { callee := .builtin .panic, args, .. } => match args.toList with | [x] => (cOpd x).map .panic | _ => none
  | .panic x => (cOpd x).map .panic
  | .lookup t x i ok => match mapTy P t, cOpd x, cOpd i with
    | some (str, e), some x, some i => (tyZero P e).map fun z => .lookup str z x i ok
    | _, _, _ => none
  | .mapUpdate t mp key x => match mapTy P t, cOpd mp, cOpd key, cOpd x with
    | some (str, _), some mp, some key, some x => some (.mapUpd str mp key x)
    | _, _, _, _ => none
  | .insert t mp key x => match mapTy P t, cOpd mp, cOpd key, cOpd x with
    | some (str, _), some mp, some key, some x => some (.mapUpd str mp key x)
    | _, _, _, _ => none
  | .call { callee := .builtin .delete, args, argTypes } => match args.toList, argTypes.toList with
    | [mp, key], t :: _ => match mapTy P t, cOpd mp, cOpd key with
      | some (str, _), some mp, some key => some (.delete str mp key)
      | _, _, _ => none
    | _, _ => none
  | .call { callee := .builtin .clear, args, argTypes } => match args.toList, argTypes.toList with
    | [mp], [t] => match mapTy P t with
      | some (_, _) => (cOpd mp).map .clear
      | none => none
    | _, _ => none
  | .call { callee := .builtin .min, args, .. } => match args.toList with
    | [x, y] => match cOpd x, cOpd y with | some x, some y => some (.mnmx true x y) | _, _ => none
    | _ => none
  | .call { callee := .builtin .max, args, .. } => match args.toList with
    | [x, y] => match cOpd x, cOpd y with | some x, some y => some (.mnmx false x y) | _, _ => none
    | _ => none
  | _ => none

theorem flat_at {sz : Nat} : ∀ {xs : List A} {i : Nat} {e : A}, (∀ e ∈ xs, e.cells.length = sz) → xs[i]? = some e → ∀ {j : Nat}, j < sz → (flat xs)[i * sz + j]? = e.cells[j]?
  | [], i, e, _, h, j, _ => by simp at h
  | a :: r, i, e, hs, h, j, hj => by
    have h1 := hs a (by simp)
    simp only [flat, List.flatMap_cons]
    cases i with
    | zero =>
      simp at h
      subst h
      rw [List.getElem?_append_left (by omega)]
      simp
    | succ i =>
      rw [List.getElem?_append_right (by rw [h1, Nat.add_mul]; omega), h1, show (i + 1) * sz + j - sz = i * sz + j by rw [Nat.add_mul]; omega]
      exact flat_at (fun e he => hs e (by simp [he])) (by simpa using h) hj

section
variable {P : Program} {m : Nat → Nat → Prop} {x : X} {act : Act} {o : Oper} {k pk : A → St → Prop} {env : Env} {n : Nat}

theorem wi {o : Option A} {k : A → Prop} (h : Wi o k) : ∃ a, o = some a ∧ k a := by
  cases o with
  | none => exact h.elim
  | some a => exact ⟨a, rfl, h⟩

theorem Yl.mov (hx : Rel x) (he : EnvR x env n act) {e : Operand} {so : Opd} (hc : cOpd e = some so) (ho : o.op = .move e ∨ o.op = .assign e) (h : Wi (ev env so) fun a => k a x.σ) : YlAll P x act o k := by
  obtain ⟨a, h1, h2⟩ := wi h
  refine YlAll.mk a (act.eval e) (fun w => ?_) (ev_vr he hc h1) h2
  rcases ho with ho | ho <;> simp [execOp, ho]

theorem Yl.pick (hx : Rel x) (he : EnvR x env n act) {c a b : Operand} {sc sa sb : Opd} (hc : cOpd c = some sc) (ha : cOpd a = some sa) (hb : cOpd b = some sb) (ho : o.op = .pick c a b) (h : stepO P m env x.σ (.pick sc sa sb) k pk) : YlAll P x act o k := by
  obtain ⟨v, h1, h2⟩ := wi h
  have hv := ev_vr he hc h1
  split at h2
  · rename_i t
    generalize hcv : act.eval c = cv at hv
    cases hv
    cases t with
    | true =>
      obtain ⟨r, h3, h4⟩ := wi (h2.1 rfl)
      exact YlAll.mk r (act.eval a) (fun w => by simp [execOp, ho, hcv, asBool]) (ev_vr he ha h3) h4
    | false =>
      obtain ⟨r, h3, h4⟩ := wi (h2.2 rfl)
      exact YlAll.mk r (act.eval b) (fun w => by simp [execOp, ho, hcv, asBool]) (ev_vr he hb h3) h4
  · exact h2.elim

theorem Does.alloc (hx : Rel x) {t : TypeId} {a : A} (ht : tyZero P t = some a) (ho : o.op = .alloc t) (h : stepO P m env x.σ (.alloc a.cells) k pk) : Does P m x act o k pk := by
  obtain ⟨v, h1, h2⟩ := run_zero ht
  obtain ⟨q1, q2⟩ := (absV_vr h2 x).cells
  obtain ⟨r1, r2, r3⟩ := X.box_ok (m := m) hx v.cells t a.cells q1 q2
  exact Does.val (x.box v.cells t a.cells) _ _ (by simp [execOp, ho, Instr.alloc, h1, newVar, newRow]; rfl) r1 r2 r3 h

theorem Does.box (hx : Rel x) (he : EnvR x env n act) {t : TypeId} {e : Operand} {so : Opd} (hc : cOpd e = some so) (ho : o.op = .box t e) (h : stepO P m env x.σ (.box so) k pk) : Does P m x act o k pk := by
  obtain ⟨a, h1, h2⟩ := wi h
  obtain ⟨q1, q2⟩ := (ev_vr he hc h1).cells
  obtain ⟨r1, r2, r3⟩ := X.box_ok (m := m) hx (act.eval e).cells t a.cells q1 q2
  exact Does.val (x.box (act.eval e).cells t a.cells) _ _ (by simp [execOp, ho, Instr.box, newVar, newRow]; rfl) r1 r2 r3 h2

/-- Where what is read is the same in all worlds of S. -/
def LoadOk (S : World → Prop) (x : X) (agg : Bool) (sz : Nat) : A → Prop
  | .ptr id off => SameAt S x (x.g.blk id) off (if agg then sz else 1)
  | _ => ∀ w, S w → ∀ b k own, x.g.kind b = .row k own → ∀ j, j < k → w.cell? ⟨b, j, none⟩ = x.w.cell? ⟨b, j, none⟩

theorem Yl.load {S : World → Prop} (hx : Rel x) (he : EnvR x env n act) {t : TypeId} {p : Operand} {sp : Opd} {agg : Bool} {sz : Nat} (ha : tyAgg P t = some agg) (hs : tySz P t = some sz) (hc : cOpd p = some sp) (ho : o.op = .load t p)
    (hS : ∀ v, ev env sp = some v → LoadOk S x agg sz v) (h : stepO P m env x.σ (.load agg sz sp) k pk) : YlS P S x act o k := by
  obtain ⟨v, h1, h2⟩ := wi h
  have hv := ev_vr he hc h1
  have hSv := hS v h1
  split at h2
  · rename_i id off
    split at h2
    · rename_i cs hcs
      generalize hpv : act.eval p = pv at hv
      cases hv with
      | ptr _ _ cs' hid hc' =>
        obtain ⟨l1, l2⟩ := load_obj (P := P) (S := S) (off := off) ha hs hx hid hcs hSv
        cases agg with
        | true =>
          obtain ⟨h3, h4⟩ := Dc.out h2
          obtain ⟨v, r1, r2⟩ := l1 rfl h3
          exact ⟨_, v, fun w hw => by simp [execOp, ho, hpv, Instr.loadAt, Instr.sureAddr, r1 w hw], r2, h4⟩
        | false =>
          obtain ⟨c, h3, h4⟩ := wi h2
          obtain ⟨v, r1, r2⟩ := l2 rfl c h3
          exact ⟨_, v, fun w hw => by simp [execOp, ho, hpv, Instr.loadAt, Instr.sureAddr, r1 w hw], r2, h4⟩
    · exact h2.elim
  · rename_i cs
    obtain ⟨ad, hpv, l1, l2⟩ := load_rp (P := P) (S := S) ha hs hx hv hSv
    cases agg with
    | true =>
      obtain ⟨h3, h4⟩ := Dc.out h2
      obtain ⟨v, r1, r2⟩ := l1 rfl h3
      exact ⟨_, v, fun w hw => by simp [execOp, ho, hpv, Instr.loadAt, Instr.sureAddr, r1 w hw], r2, h4⟩
    | false =>
      obtain ⟨c, h3, h4⟩ := wi h2
      obtain ⟨v, r1, r2⟩ := l2 rfl c h3
      exact ⟨_, v, fun w hw => by simp [execOp, ho, hpv, Instr.loadAt, Instr.sureAddr, r1 w hw], r2, h4⟩
  · exact h2.elim

theorem loadOk_here (x : X) (agg : Bool) (sz : Nat) (v : A) : LoadOk (· = x.w) x agg sz v := by
  unfold LoadOk
  split
  · intro w hw j _
    rw [hw]
  · intro w hw b k own _ j _
    rw [hw]

theorem Does.store (hx : Rel x) (he : EnvR x env n act) {t : TypeId} {p e : Operand} {sp se : Opd} {sz : Nat} (hs : tySz P t = some sz) (hcp : cOpd p = some sp) (hce : cOpd e = some se) (ho : o.op = .store t p e)
    (h : stepO P m env x.σ (.store sz sp se) k pk) : Does P m x act o k pk := by
  obtain ⟨v, h1, h2⟩ := wi h
  obtain ⟨a, h3, h4⟩ := wi h2
  have hv := ev_vr he hcp h1
  have ha := ev_vr he hce h3
  split at h4
  · rename_i id off
    split at h4
    · rename_i cs hcs
      obtain ⟨g1, h4⟩ := Dc.out h4
      obtain ⟨g2, h4⟩ := Dc.out h4
      obtain ⟨g3, g4, g5⟩ := Dc.out h4
      generalize hpv : act.eval p = pv at hv
      cases hv with
      | ptr _ _ cs' hid hc' =>
        obtain ⟨q1, q2⟩ := ha.cells
        have hb := hx.objs id hid
        rw [hcs] at hb
        obtain ⟨_, arr, et, a2, a3, _⟩ := hb
        obtain ⟨r1, r2⟩ := X.put_ok (m := m) hx id off cs a.cells (act.eval e).cells.toList hid hcs (by simpa using q1) (by omega) (fun j c hj => by
          have := q2 j c hj
          rwa [arr_getD_list (a := (act.eval e).cells) (b := (act.eval e).cells.toList) (i := j) (j := j) (by simp)] at this) (fun j hj => g4 j (by omega))
        have hrun : (storeVar t ⟨x.g.blk id, off, none⟩ (act.eval e)).run P x.w = .ok () (x.w.setCells (x.g.blk id) off (act.eval e).cells.toList) := by
          have hst := run_storeCells_cells (P := P) (x.g.blk id) off (act.eval e).cells.toList 0 x.w
            (fun j hj => by rw [cell_of a2, Array.getElem?_eq_getElem (by simp at hj; omega)]; rfl)
            (fun j hj => by simp [World.frozen?, a2])
            (fun u hu => by
              obtain ⟨j, hj, rfl⟩ := List.getElem_of_mem hu
              have hjl : j < a.cells.length := by simp at hj; omega
              have := q2 j a.cells[j] (by simp [hjl])
              have hs := this.one (scalars_mem g3 _ (List.getElem_mem hjl))
              simpa [Array.getD, show j < (act.eval e).cells.size by omega] using hs)
          simp only [Nat.add_zero] at hst
          simp [storeVar, run_sizeOf' hs, show (act.eval e).cells.size = sz by omega, hst]
        exact Does.skip (x.put id off cs a.cells (act.eval e).cells.toList) (by simp [execOp, ho, hpv, Instr.storeAt, Instr.sureAddr, hrun]; rfl) r1 r2 g5
    · exact h4.elim
  · exact h4.elim

theorem Yl.nilCheck (hx : Rel x) (he : EnvR x env n act) {e : Operand} {so : Opd} (hc : cOpd e = some so) (ho : o.op = .nilCheck e) (h : stepO P m env x.σ (.nilCheck so) k pk) : YlAll P x act o k := by
  obtain ⟨a, h1, h2⟩ := wi h
  have hv := ev_vr he hc h1
  generalize hev : act.eval e = v at hv
  split at h2
  all_goals first | exact h2.elim | (cases hv; exact YlAll.mk _ _ (fun w => by simp [execOp, ho, hev]; try rfl) (hev ▸ ev_vr he hc h1) h2)

theorem Yl.un (hx : Rel x) (he : EnvR x env n act) {op : UnOp} {t : TypeId} {e : Operand} {so : Opd} (hc : cOpd e = some so) (ho : o.op = .unOp op t e) (h : stepO P m env x.σ (.un op so) k pk) : YlAll P x act o k := by
  obtain ⟨a, h1, h2⟩ := wi h
  have hv := ev_vr he hc h1
  generalize hev : act.eval e = v at hv
  split at h2
  · cases hv; exact YlAll.mk _ _ (fun w => by simp [execOp, ho, hev, Op.unary]) (.bool _) h2
  · cases hv; exact YlAll.mk _ _ (fun w => by simp [execOp, ho, hev, Op.unary, Op.intArith]) (.int _ _) h2
  · exact h2.elim

theorem Yl.toInt (hx : Rel x) (he : EnvR x env n act) {s t : TypeId} {q q' : IntKind} (hs : P.underlying s = some (.int q')) (ht : P.underlying t = some (.int q)) {e : Operand} {so : Opd} (hc : cOpd e = some so) (ho : o.op = .convert s t e)
    (h : stepO P m env x.σ (.toInt q so) k pk) : YlAll P x act o k := by
  obtain ⟨a, h1, h2⟩ := wi h
  have hv := ev_vr he hc h1
  generalize hev : act.eval e = v at hv
  split at h2
  · cases hv; exact YlAll.mk _ _ (fun w => by simp [execOp, ho, hev, convert, run_underlying hs, run_underlying ht, Conv.intToInt]) (.int _ _) h2
  · exact h2.elim

theorem Yl.mkIface (hx : Rel x) (he : EnvR x env n act) {t : TypeId} (ht : isIface P t = some false) {e : Operand} {so : Opd} (hc : cOpd e = some so) (ho : o.op = .makeInterface t e) (h : stepO P m env x.σ (.mkIface t so) k pk) : YlAll P x act o k := by
  obtain ⟨a, h1, h2⟩ := wi h
  have hv := ev_vr he hc h1
  refine YlAll.mk _ (.iface t (act.eval e)) (fun w => ?_) (.iface t a _ hv) h2
  unfold isIface at ht
  cases hu : P.underlying t with
  | none => simp [hu] at ht
  | some d =>
    simp [hu] at ht
    simp only [execOp, ho, Instr.makeInterface, Sem.run_bind, run_underlying hu, Result.andThen_ok]
    cases d <;> first | rfl | (simp at ht)

theorem Yl.mkFunc (hx : Rel x) (he : EnvR x env n act) {f : FuncId} {first caps : Array Operand} (hf : first.size = 0) {sc : List Opd} (hc : cOpds caps.toList = some sc) (ho : o.op = .makeFunc (.func f) first caps) (h : stepO P m env x.σ (.mkFunc f sc) k pk) :
    YlAll P x act o k := by
  simp only [stepO] at h
  split at h
  · rename_i l hl
    obtain ⟨q1, q2⟩ := evs_vr he hc hl
    obtain rfl : first = #[] := Array.eq_empty_of_size_eq_zero hf
    refine YlAll.mk (.clos f l) (.func (.func f) #[] (caps.map act.eval)) (fun w => by simp [execOp, ho, Instr.makeFunc]) (.clos f l _ (by simpa using q1) (fun j c hj => ?_)) h
    have := q2 j c hj
    rwa [← arr_getD_list (a := caps.map act.eval) (b := caps.toList.map act.eval) (i := j) (j := j) (by simp)] at this
  · exact h.elim

theorem Does.mkMap (hx : Rel x) {t : TypeId} (ho : o.op = .makeMap t none) (h : stepO P m env x.σ .mkMap k pk) : Does P m x act o k pk := by
  obtain ⟨r1, r2, r3⟩ := X.mapNew_ok (m := m) hx
  exact Does.val x.mapNew _ _ (by simp [execOp, ho, Instr.makeMap]; rfl) r1 r2 r3 h

theorem Yl.fieldAddr (hx : Rel x) (he : EnvR x env n act) {t : TypeId} {f : Nat} {fd : Field} (hf : tyField P t f = some fd) {sz : Nat} (hs : tySz P fd.type = some (sz + 1)) {e : Operand} {so : Opd} (hc : cOpd e = some so) (ho : o.op = .fieldAddr t e f)
    (h : stepO P m env x.σ (.fieldAddr fd.offset so) k pk) : YlAll P x act o k := by
  obtain ⟨a, h1, h2⟩ := wi h
  have hv := ev_vr he hc h1
  generalize hev : act.eval e = v at hv
  have hu : ∃ fs, P.underlying t = some (.struct fs) ∧ fs[f]? = some fd := by
    unfold tyField at hf
    split at hf
    · rename_i fs h'; exact ⟨fs, h', hf⟩
    · cases hf
  obtain ⟨fs, hu, hfd⟩ := hu
  have run : ∀ b off, act.eval e = .pointer (some ⟨b, off, none⟩) → ∀ w, (execOp act.eval o).run P w = .ok (.value (.pointer (some ⟨b, off + fd.offset, none⟩))) w := fun b off hp w => by
    simp [execOp, ho, hp, Instr.fieldAt, run_underlying hu, hfd, Instr.sureAddr, fieldPlace, run_sizeOf' hs, add_lit]
  split at h2
  · cases hv with
    | ptr _ _ cs hid hcs => exact YlAll.mk _ _ (run _ _ hev) (.ptr _ _ cs hid hcs) h2
  · obtain ⟨h3, h4⟩ := Dc.out h2
    cases hv with
    | rp cs b off k own vs hk hle hcc hvv =>
      refine YlAll.mk _ _ (run _ _ hev) (.rp _ b (off + fd.offset) k own (fun j => vs (fd.offset + j)) hk (by simp; omega) (fun j hj => ?_) (fun j c hj => ?_)) h4
      · simp at hj
        rw [Nat.add_assoc]
        exact hcc _ (by omega)
      · rw [List.getElem?_drop] at hj
        exact hvv _ c hj
  · exact h2.elim

theorem Yl.field (hx : Rel x) (he : EnvR x env n act) {t : TypeId} {f : Nat} {fd : Field} (hf : tyField P t f = some fd) {agg : Bool} {sz : Nat} (ha : tyAgg P fd.type = some agg) (hs : tySz P fd.type = some sz) {e : Operand} {so : Opd} (hc : cOpd e = some so)
    (ho : o.op = .field t e f) (h : stepO P m env x.σ (.field agg fd.offset sz so) k pk) : YlAll P x act o k := by
  obtain ⟨a, h1, h2⟩ := wi h
  have hv := ev_vr he hc h1
  generalize hev : act.eval e = v at hv
  have hu : ∃ fs, P.underlying t = some (.struct fs) ∧ fs[f]? = some fd := by
    unfold tyField at hf
    split at hf
    · rename_i fs h'; exact ⟨fs, h', hf⟩
    · cases hf
  obtain ⟨fs, hu, hfd⟩ := hu
  split at h2
  · rename_i cs
    cases hv with
    | agg _ vs hl hvv =>
      cases agg with
      | true =>
        obtain ⟨h3, h4⟩ := Dc.out h2
        refine YlAll.mk _ (.agg (vs.extract fd.offset (fd.offset + sz))) (fun w => by simp [execOp, ho, hev, Instr.field, run_underlying hu, hfd, asAgg, part, run_isAgg ha, run_sizeOf' hs]) (.agg _ _ (by simp; omega) (fun j c hj => ?_)) h4
        have hjs : j < sz := by
          rcases Nat.lt_or_ge j sz with q | q
          · exact q
          · rw [List.getElem?_eq_none (by simp; omega)] at hj; cases hj
        rw [List.getElem?_take_of_lt hjs, List.getElem?_drop] at hj
        have := hvv _ c hj
        rwa [← arr_getD (a := vs.extract fd.offset (fd.offset + sz)) (b := vs) (i := j) (j := fd.offset + j) (by rw [Array.getElem?_extract]; simp; omega)] at this
      | false =>
        obtain ⟨c, h3, h4⟩ := wi h2
        have hlt : fd.offset < cs.length := by
          rcases Nat.lt_or_ge fd.offset cs.length with q | q
          · exact q
          · rw [List.getElem?_eq_none q] at h3; cases h3
        have hq : vs[fd.offset]? = some (vs.getD fd.offset undef) := by simp [Array.getD, show fd.offset < vs.size by omega]
        exact YlAll.mk _ (vs.getD fd.offset undef) (fun w => by simp only [execOp, ho, hev, Instr.field, Sem.run_bind, run_underlying hu, Result.andThen_ok, hfd, asAgg, Sem.run_pure, part, run_isAgg ha, hq]; rfl) (hvv _ c h3) h4
  · exact h2.elim

theorem Yl.extract (hx : Rel x) (he : EnvR x env n act) {i : Nat} {e : Operand} {so : Opd} (hc : cOpd e = some so) (ho : o.op = .extract e i) (h : stepO P m env x.σ (.extract so i) k pk) : YlAll P x act o k := by
  obtain ⟨a, h1, h2⟩ := wi h
  have hv := ev_vr he hc h1
  generalize hev : act.eval e = v at hv
  split at h2
  · rename_i cs
    obtain ⟨c, h3, h4⟩ := wi h2
    cases hv with
    | tup _ vs hl hvv =>
      have hlt : i < cs.length := by
        rcases Nat.lt_or_ge i cs.length with q | q
        · exact q
        · rw [List.getElem?_eq_none q] at h3; cases h3
      have hq : vs[i]? = some (vs.getD i undef) := by simp [Array.getD, show i < vs.size by omega]
      exact YlAll.mk _ (vs.getD i undef) (fun w => by simp only [execOp, ho, hev, Instr.extract, hq]; rfl) (hvv _ c h3) h4
  · exact h2.elim

theorem Does.panic (hx : Rel x) (he : EnvR x env n act) {e : Operand} {so : Opd} (hc : cOpd e = some so)
    (ho : o.op = .panic e ∨ ∃ ts : Array TypeId, o.op = .call { callee := .builtin .panic, args := #[e], argTypes := ts }) (h : stepO P m env x.σ (.panic so) k pk) : Does P m x act o k pk := by
  obtain ⟨a, h1, h2⟩ := wi h
  have hv := ev_vr he hc h1
  generalize hev : act.eval e = v at hv
  split at h2
  · rename_i t a
    intro K Q _ hQ
    have hv' := hv
    cases hv' with
    | iface _ _ v _ =>
      have hrun : (execOp act.eval o).run P x.w = .halt (.panic (.iface t v)) x.w := by
        rcases ho with ho | ⟨ts, ho⟩
        · simp [execOp, ho, hev, Instr.panic]
        · simp [execOp, ho, hev, resolve, invoke, builtin, Instr.panic]
      unfold Oper.wp
      rw [hrun, Oper.upon_panic]
      exact hQ x _ _ (Evol.refl hx) hx hv h2
  · exact h2.elim

theorem run_callFunc {f : FuncId} (h : callable P f = true) (args : Array Value) (w : World) : (callFunc f args).run P w = .ok (.enter f args) w := by
  unfold callable at h
  cases hf : P.funcs[f]? with
  | none => simp [hf] at h
  | some fn =>
    simp [hf] at h
    have hb : fn.body.isNone = false := by
      cases hq : fn.body with
      | none => simp [hq] at h
      | some => rfl
    have hn : fn.body ≠ none := fun q => by simp [q] at hb
    simp [callFunc, hf, h.2, hn]

theorem Does.call (hx : Rel x) (he : EnvR x env n act) {f : FuncId} (hf : callable P f = true) {args : Array Operand} {ts : Array TypeId} {sc : List Opd} (hc : cOpds args.toList = some sc) (ho : o.op = .call { callee := .value (.func f), args := args, argTypes := ts })
    (h : stepO P m env x.σ (.call f sc) k pk) : Does P m x act o k pk := by
  simp only [stepO] at h
  split at h
  · rename_i l hl
    obtain ⟨q1, q2⟩ := evs_vr he hc hl
    refine Does.enter hx f l (args.toList.map act.eval) ?_ q1 q2 h
    simp only [execOp, ho, resolve, Act.eval, Deferred.ofValue, Sem.run_bind, Sem.run_pure, Result.andThen_ok, invoke, Array.empty_append, Array.append_empty]
    rw [run_callFunc hf]
    congr 1
    congr 1
    apply Array.ext'
    simp
  · exact h.elim

theorem Does.callV (hx : Rel x) (he : EnvR x env n act) {t : Nat} {args : Array Operand} {ts : Array TypeId} {sc : List Opd} (hc : cOpds args.toList = some sc) (ho : o.op = .call { callee := .value (.tmp t), args := args, argTypes := ts })
    (h : stepO P m env x.σ (.callV (.tmp t) sc) k pk) : Does P m x act o k pk := by
  obtain ⟨a, h1, h2⟩ := wi h
  have hv := he.2 t a h1
  generalize hev : act.tmps.getD t undef = v at hv
  split at h2
  · rename_i g caps l hl
    obtain ⟨hg, h3⟩ := h2
    obtain ⟨q1, q2⟩ := evs_vr he hc hl
    cases hv with
    | clos _ _ vs hvl hvv =>
      refine Does.enter hx g (l ++ caps) (args.toList.map act.eval ++ vs.toList) ?_ (by simp at q1 ⊢; omega) (fun j c hj => ?_) h3
      · simp only [execOp, ho, resolve, Act.eval, hev, Deferred.ofValue, Sem.run_bind, Sem.run_pure, Result.andThen_ok, invoke, Array.empty_append]
        rw [run_callFunc hg]
        congr 1
        congr 1
        apply Array.ext'
        simp
      · by_cases hlt : j < l.length
        · rw [List.getElem?_append_left hlt] at hj
          rw [getD_append_left (by omega)]
          exact q2 j c hj
        · rw [List.getElem?_append_right (by omega)] at hj
          rw [getD_append_right (by omega), q1]
          have := hvv _ c hj
          rwa [arr_getD_list (a := vs) (b := vs.toList) (i := j - l.length) (j := j - l.length) (by simp)] at this
  · exact h2.elim

theorem bytes_sum {a b : List UInt8} (h : a.length + b.length ≤ 9223372036854775807) : (⟨a.toArray⟩ : ByteArray).size + (⟨b.toArray⟩ : ByteArray).size ≤ 9223372036854775807 := by
  have h1 : (⟨a.toArray⟩ : ByteArray).size = a.length := by show a.toArray.size = _; simp
  have h2 : (⟨b.toArray⟩ : ByteArray).size = b.length := by show b.toArray.size = _; simp
  omega
theorem run_neq_bool' (w : World) (t : TypeId) (a b : Bool) (h : P.underlying t = some .bool) : (binOp .neq t (.bool a) (.bool b)).run P w = .ok (.bool (!(a == b))) w := by
  show (do pure (.bool (!(← Op.equal t (.bool a) (.bool b)))) : Sem Value).run P w = _
  have : (Op.equal t (.bool a) (.bool b)).run P w = .ok (a == b) w := run_equalIn_bool' w 9999 t a b h
  simp [this]
theorem Yl.bin (hx : Rel x) (he : EnvR x env n act) {op : BinOp} {t t' : TypeId} {a b : Operand} {sa sb : Opd} (hca : cOpd a = some sa) (hcb : cOpd b = some sb) (ho : o.op = .binOp op t a b t') (h : stepO P m env x.σ (.bin op (eqK P t) sa sb) k pk) :
    YlAll P x act o k := by
  obtain ⟨v, h1, h2⟩ := wi h
  obtain ⟨u, h3, h4⟩ := wi h2
  have hv := ev_vr he hca h1
  have hu := ev_vr he hcb h3
  generalize hva : act.eval a = va at hv
  generalize hvb : act.eval b = vb at hu
  unfold binA at h4
  split at h4
  · rename_i kk ii kk' ii'
    cases hv
    cases hu
    split at h4
    · obtain ⟨h5, h6⟩ := h4
      exact YlAll.mk _ _ (fun w => by simp [execOp, ho, hva, hvb, eqGuard, binOp, Op.shift, Int.not_lt.2 h5]; try rfl) (.int _ _) h6
    · obtain ⟨h5, h6⟩ := h4
      exact YlAll.mk _ _ (fun w => by simp [execOp, ho, hva, hvb, eqGuard, binOp, Op.shift, Int.not_lt.2 h5]; try rfl) (.int _ _) h6
    rename_i hn1 hn2
    obtain ⟨rfl, h5⟩ := Dc.out h4
    unfold binInt at h5
    split at h5
    all_goals first
      | exact h5.elim
      | exact YlAll.mk _ _ (fun w => by simp [execOp, ho, hva, hvb, eqGuard, binOp, Op.intArith, Op.intCmp]; try rfl) (.int _ _) h5
      | exact YlAll.mk _ _ (fun w => by simp [execOp, ho, hva, hvb, eqGuard, binOp, Op.intArith, Op.intCmp]; try rfl) (.bool _) h5
      | exact YlAll.mk _ _ (fun w => by simp [execOp, ho, hva, hvb, eqGuard, binOp, Op.intBits]; try rfl) (.int _ _) h5
      | (obtain ⟨h6, h7⟩ := h5; exact YlAll.mk _ _ (fun w => by simp [execOp, ho, hva, hvb, eqGuard, binOp, Op.intDiv, h6]; try rfl) (.int _ _) h7)
  · cases hv
    cases hu
    unfold binStr at h4
    split at h4
    · obtain ⟨h5, h6⟩ := h4
      refine YlAll.mk _ _ (fun w => ?_) (.str _) h6
      rw [← ByteArray.mk_append_mk]
      simp [execOp, ho, hva, hvb, eqGuard, binOp_string_add, run_string_add_sum w _ _ (bytes_sum h5)]
    · exact YlAll.mk _ _ (fun w => by simp [execOp, ho, hva, hvb, eqGuard, binOp_string_eql]) (.bool _) h4
    · exact YlAll.mk _ _ (fun w => by simp [execOp, ho, hva, hvb, eqGuard, binOp_string_neq]) (.bool _) h4
    · exact YlAll.mk _ _ (fun w => by simp [execOp, ho, hva, hvb, eqGuard, binOp, Op.stringOp]) (.bool _) h4
    · exact YlAll.mk _ _ (fun w => by simp [execOp, ho, hva, hvb, eqGuard, binOp, Op.stringOp]) (.bool _) h4
    · exact YlAll.mk _ _ (fun w => by simp [execOp, ho, hva, hvb, eqGuard, binOp, Op.stringOp]) (.bool _) h4
    · exact YlAll.mk _ _ (fun w => by simp [execOp, ho, hva, hvb, eqGuard, binOp, Op.stringOp]) (.bool _) h4
    · exact h4.elim
  · cases hv
    cases hu
    split at h4
    · rename_i hk
      have hb : P.underlying t = some .bool := by
        unfold eqK at hk
        split at hk <;> first | assumption | cases hk
      exact YlAll.mk _ _ (fun w => by simp [execOp, ho, hva, hvb, eqGuard, run_eql_bool w t _ _ hb]) (.bool _) h4
    · rename_i hk
      have hb : P.underlying t = some .bool := by
        unfold eqK at hk
        split at hk <;> first | assumption | cases hk
      exact YlAll.mk _ _ (fun w => by simp [execOp, ho, hva, hvb, eqGuard, run_neq_bool' w t _ _ hb]) (.bool _) h4
    · exact h4.elim
  · exact h4.elim

theorem Yl.idxStr (hx : Rel x) (he : EnvR x env n act) {t : TypeId} (ht : P.underlying t = some .string) {a b : Operand} {sa sb : Opd} (hca : cOpd a = some sa) (hcb : cOpd b = some sb) (ho : o.op = .index t a b) (h : stepO P m env x.σ (.idxStr sa sb) k pk) :
    YlAll P x act o k := by
  obtain ⟨v, h1, h2⟩ := wi h
  obtain ⟨u, h3, h4⟩ := wi h2
  have hv := ev_vr he hca h1
  have hu := ev_vr he hcb h3
  generalize hva : act.eval a = va at hv
  generalize hvb : act.eval b = vb at hu
  split at h4
  · rename_i s q i
    obtain ⟨h5, h6, h7⟩ := h4
    cases hv
    cases hu
    refine YlAll.mk _ _ (fun w => ?_) (.int _ _) h7
    have hlt : i.toNat < s.length := by omega
    have hq : (⟨s.toArray⟩ : ByteArray)[i.toNat]? = some (s.getD i.toNat 0) := by
      rw [ByteArray.getElem?_lt' _ _ (show i.toNat < (⟨s.toArray⟩ : ByteArray).size by simpa [ByteArray.size] using hlt)]
      show some (s.toArray[i.toNat]'_) = _
      simp [List.getD_eq_getElem?_getD, hlt]
    simp only [execOp, ho, hva, hvb, Instr.index, asIntOf, Sem.run_bind, Sem.run_pure, Result.andThen_ok, run_underlying ht, if_pos h5, hq]
  · exact h4.elim

theorem Yl.idxAddr (hx : Rel x) (he : EnvR x env n act) {t e : TypeId} (ht : P.underlying t = some (.slice e)) {sz : Nat} (hs : tySz P e = some sz) (hpos : 0 < sz) {a b : Operand} {sa sb : Opd} (hca : cOpd a = some sa) (hcb : cOpd b = some sb) (ho : o.op = .indexAddr t a b)
    (h : stepO P m env x.σ (.idxAddr sz sa sb) k pk) : YlAll P x act o k := by
  obtain ⟨v, h1, h2⟩ := wi h
  obtain ⟨u, h3, h4⟩ := wi h2
  have hv := ev_vr he hca h1
  have hu := ev_vr he hcb h3
  generalize hva : act.eval a = va at hv
  generalize hvb : act.eval b = vb at hu
  split at h4
  · rename_i ow sz' xs q i
    obtain ⟨hq0, h5, h6⟩ := Dc.out h4
    have hq1 : sz = sz' := hq0.symm
    subst hq1
    obtain ⟨e1, h7, h8⟩ := wi h6
    cases hu
    have hlt : i.toNat < xs.length := by
      rcases Nat.lt_or_ge i.toNat xs.length with q | q
      · exact q
      · rw [List.getElem?_eq_none q] at h7; cases h7
    cases hv with
    | slnil => simp at hlt
    | slz => simp at hlt
    | sl _ _ _ cs b off cap k' own vs hcs hsz hcap hk hc hvv hoo =>
      subst hcs
      have hfl := flat_length hsz
      have hel := hsz e1 (List.mem_of_getElem? h7)
      have hmul : (i.toNat + 1) * sz ≤ xs.length * sz := Nat.mul_le_mul_right _ hlt
      rw [Nat.add_mul] at hmul
      have hat : ∀ j, j < sz → (flat xs)[i.toNat * sz + j]? = e1.cells[j]? := fun j hj => flat_at hsz h7 hj
      have hrun : ∀ w, (execOp act.eval o).run P w = .ok (.value (.pointer (some ⟨b, off + i.toNat * sz, none⟩))) w := fun w => by
        simp only [execOp, ho, hva, hvb, Instr.indexAt, asIntOf, Sem.run_bind, Sem.run_pure, Result.andThen_ok, run_underlying ht]
        rw [if_pos ⟨h5, by omega⟩]
        simp only [Sem.run_bind, run_sizeOf' hs, Result.andThen_ok, Sem.run_pure, add_lit]
      · obtain ⟨hk1, hk2⟩ := hk (by intro q; rw [q] at hfl; simp at hfl; omega)
        refine YlAll.mk _ _ hrun (.rp e1.cells b (off + i.toNat * sz) k' own (fun j => vs (i.toNat * sz + j)) hk1 (by omega) (fun j hj => ?_) (fun j c hj => ?_)) h8
        · rw [Nat.add_assoc]
          exact hc _ (by omega)
        · have hj' : j < sz := by
            rcases Nat.lt_or_ge j sz with q | q
            · exact q
            · rw [List.getElem?_eq_none (by omega)] at hj; cases hj
          exact hvv _ c (by rw [hat j hj']; exact hj)
  · rename_i id off len sz' q i
    obtain ⟨hq0, h5, h6, h7⟩ := Dc.out h4
    have hq1 : sz = sz' := hq0.symm
    subst hq1
    cases hu
    cases hv with
    | os _ _ _ _ cap cs hid hc hle hcap =>
      have hrun : ∀ w, (execOp act.eval o).run P w = .ok (.value (.pointer (some ⟨x.g.blk id, off + i.toNat * sz, none⟩))) w := fun w => by
        simp only [execOp, ho, hva, hvb, Instr.indexAt, asIntOf, Sem.run_bind, Sem.run_pure, Result.andThen_ok, run_underlying ht]
        rw [if_pos ⟨h5, by omega⟩]
        simp only [Sem.run_bind, run_sizeOf' hs, Result.andThen_ok, Sem.run_pure, add_lit]
      exact YlAll.mk _ _ hrun (.ptr id _ cs hid hc) h7
  · exact h4.elim

end
end Go.Proofs.YtkpijfgananjjaaDoor.Ga
