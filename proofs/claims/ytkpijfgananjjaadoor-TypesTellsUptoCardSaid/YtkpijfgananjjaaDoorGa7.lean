/- Composite values; appends. -/
import Derived.Test.YtkpijfgananjjaaDoorGa6
set_option linter.unusedVariables false
set_option linter.unusedSimpArgs false
namespace Go.Proofs.YtkpijfgananjjaaDoor.Ga

/-- Cells in an array that are what a list says. -/
def CellsR (x : X) (cs : List A) (arr : Array Value) : Prop := arr.size = cs.length ∧ ∀ (j : Nat) (c : A), cs[j]? = some c → VR x c (arr.getD j undef)

theorem CellsR.set {x : X} {cs : List A} {arr : Array Value} (h : CellsR x cs arr) {off : Nat} {as : List A} {vs : List Value} (hl : vs.length = as.length) (hle : off + as.length ≤ cs.length)
    (hv : ∀ (j : Nat) (c : A), as[j]? = some c → VR x c (vs.getD j undef)) : CellsR x (setL cs off as) (setArr arr off vs) := by
  refine ⟨by rw [setArr_size, setL_length, h.1], fun j c hj => ?_⟩
  by_cases hout : j < off ∨ off + as.length ≤ j
  · rw [setL_out _ _ _ _ hout] at hj
    rw [arr_getD (setArr_out _ _ _ _ (by omega))]
    exact h.2 j c hj
  · obtain ⟨i', rfl⟩ : ∃ i', j = off + i' := ⟨j - off, by omega⟩
    rw [setL_in _ _ _ _ (by omega) hle] at hj
    rw [arr_getD_list (setArr_in _ _ _ _ (by omega) (by rw [h.1]; omega))]
    exact hv i' c hj

theorem foldl_setArr (off : Nat) : ∀ (l : List Value) (j : Nat) (cs : Array Value), (l.zipIdx j).foldl (fun (cs : Array Value) (p : Value × Nat) => cs.setIfInBounds (off + p.2) p.1) cs = setArr cs (off + j) l
  | [], j, cs => rfl
  | v :: r, j, cs => by
    rw [List.zipIdx_cons, List.foldl_cons, foldl_setArr off r (j + 1), setArr]
    rfl

theorem fill_one {place : Nat → Option (Nat × Nat)} {i off size : Nat} {v : Value} {cells : Array Value} {rest : List (Nat × Value)} (hp : place i = some (off, size)) (hs : v.cells.size = size) (hle : off + v.cells.size ≤ cells.size) :
    Instr.fill place cells ((i, v) :: rest) = Instr.fill place (setArr cells off v.cells.toList) rest := by
  conv => lhs; unfold Instr.fill
  simp only [hp, hs]
  rw [if_neg (by simp; omega)]
  congr 1
  rw [← Nat.add_zero off, ← foldl_setArr off v.cells.toList 0 cells, ← Array.foldl_toList, Array.toList_zipIdx]
  rfl

section
variable {P : Program} {m : Nat → Nat → Prop} {x : X} {act : Act} {o : Oper} {k pk : A → St → Prop} {env : Env} {n : Nat}

theorem run_mapM_list {α β : Type} (f : α → Sem β) (g : α → β) (w : World) : ∀ (l : List α), (∀ a ∈ l, (f a).run P w = .ok (g a) w) → (l.mapM f).run P w = .ok (l.map g) w
  | [], _ => by simp
  | a :: r, h => by
    have h1 := h a (by simp)
    have h2 := run_mapM_list f g w r (fun b hb => h b (by simp [hb]))
    simp [h1, h2]

theorem run_mapM_arr {α β : Type} (f : α → Sem β) (g : α → β) (w : World) (l : Array α) (h : ∀ a ∈ l.toList, (f a).run P w = .ok (g a) w) : (l.mapM f).run P w = .ok (l.map g) w := by
  rw [Array.mapM_eq_mapM_toList, Sem.run_map, run_mapM_list f g w l.toList h]
  simp only [Result.andThen_ok]
  congr 1
  apply Array.ext'
  simp

theorem setParts_fill (he : EnvR x env n act) (fs : Array Field) : ∀ (parts : List (Nat × Operand)) (l : List (Nat × Nat × Opd)) (cs : List A) (arr : Array Value) (g : List A → Prop), cParts P fs parts = some l → CellsR x cs arr → setParts env cs l g →
    ∃ cs' arr', Instr.fill (fun i => (fs.map fun f => (f.offset, (tySz P f.type).getD 0))[i]?) arr (parts.map fun (i, q) => (i, act.eval q)) = some arr' ∧ CellsR x cs' arr' ∧ g cs'
  | [], l, cs, arr, g, hl, hr, h => by
    simp [cParts] at hl
    subst hl
    exact ⟨cs, arr, rfl, hr, h⟩
  | (i, q) :: r, l, cs, arr, g, hl, hr, h => by
    unfold cParts at hl
    split at hl
    · rename_i f sq l' hf hq hl'
      split at hl
      · rename_i sz hsz
        injection hl with hl
        subst hl
        obtain ⟨a, h1, h2⟩ := wi h
        obtain ⟨h2, h3⟩ := Dc.out h2
        obtain ⟨h3, h4⟩ := Dc.out h3
        obtain ⟨q1, q2⟩ := (ev_vr he hq h1).cells
        have hset := hr.set (off := f.offset) (as := a.cells) (vs := (act.eval q).cells.toList) (by simpa using q1) (by omega) (fun j c hj => by
          have := q2 j c hj
          rwa [arr_getD_list (a := (act.eval q).cells) (b := (act.eval q).cells.toList) (i := j) (j := j) (by simp)] at this)
        obtain ⟨cs', arr', r1, r2, r3⟩ := setParts_fill he fs r l' _ _ g hl' hset h4
        refine ⟨cs', arr', ?_, r2, r3⟩
        rw [List.map_cons, fill_one (off := f.offset) (size := sz) (by simp [hf, hsz]) (by omega) (by rw [hr.1]; omega)]
        exact r1
      · cases hl
    · cases hl

theorem Yl.build (hx : Rel x) (he : EnvR x env n act) {t : TypeId} {fs : Array Field} {z : List A} {parts : Array (Nat × Operand)} {l : List (Nat × Nat × Opd)} (ht : P.underlying t = some (.struct fs)) (hz : tyZero P t = some (.agg z))
    (hall : fs.toList.all (fun f => (tySz P f.type).isSome) = true) (hc : cParts P fs parts.toList = some l) (ho : o.op = .build t parts) (h : stepO P m env x.σ (.build z l) k pk) : YlAll P x act o k := by
  obtain ⟨zv, hz1, hz2⟩ := run_zero hz
  have hzr : CellsR x z zv.cells := (absV_vr hz2 x).cells
  obtain ⟨cs', arr', r1, r2, r3⟩ := setParts_fill he fs parts.toList l z zv.cells _ hc hzr h
  have hm : ∀ w, (fs.mapM fun f => do Pure.pure (f.offset, ← sizeOf f.type) : Sem (Array (Nat × Nat))).run P w = .ok (fs.map fun f => (f.offset, (tySz P f.type).getD 0)) w := fun w => by
    refine run_mapM_arr _ _ w fs fun f hf => ?_
    have := List.all_eq_true.1 hall f hf
    cases hs : tySz P f.type with
    | none => simp [hs] at this
    | some sz => simp [run_sizeOf' hs]
  refine YlAll.mk (.agg cs') (.agg arr') (fun w => ?_) (.agg cs' arr' r2.1 r2.2) r3
  simp only [execOp, ho, Instr.build, Sem.run_bind, hz1, Result.andThen_ok, run_underlying ht, hm]
  have : (parts.map fun (i, q) => (i, act.eval q)).toList = parts.toList.map fun (i, q) => (i, act.eval q) := by simp
  rw [this, r1]
  rfl

theorem flat_set {sz : Nat} : ∀ {xs : List A} {i : Nat} {a : A}, (∀ e ∈ xs, e.cells.length = sz) → a.cells.length = sz → i < xs.length → flat (xs.set i a) = setL (flat xs) (i * sz) a.cells := by
  intro xs i a hs ha hi
  have hs' : ∀ e ∈ xs.set i a, e.cells.length = sz := fun e he => by
    rcases List.mem_or_eq_of_mem_set he with q | rfl
    · exact hs e q
    · exact ha
  have hmul : (i + 1) * sz ≤ xs.length * sz := Nat.mul_le_mul_right _ hi
  rw [Nat.add_mul] at hmul
  refine List.ext_getElem? fun j => ?_
  rcases Nat.eq_zero_or_pos sz with h0 | h0
  · subst h0
    rw [List.getElem?_eq_none (by rw [flat_length hs']; omega), List.getElem?_eq_none (by rw [setL_length, flat_length hs]; omega)]
  by_cases hj : j < xs.length * sz
  · have hd : j / sz < xs.length := (Nat.div_lt_iff_lt_mul h0).2 hj
    have hmod := Nat.mod_lt j h0
    have hjd : j = j / sz * sz + j % sz := by rw [Nat.mul_comm]; exact (Nat.div_add_mod j sz).symm
    by_cases hji : j / sz = i
    · have h1 : (flat (xs.set i a))[j]? = a.cells[j % sz]? := by
        conv => lhs; rw [hjd, hji]
        exact flat_at hs' (by simp [hi]) hmod
      have h2 : (setL (flat xs) (i * sz) a.cells)[j]? = a.cells[j % sz]? := by
        conv => lhs; rw [hjd, hji]
        exact setL_in _ _ _ _ (by omega) (by rw [flat_length hs]; omega)
      rw [h1, h2]
    · have h1 : (flat (xs.set i a))[j]? = (xs[j / sz]'hd).cells[j % sz]? := by
        conv => lhs; rw [hjd]
        exact flat_at hs' (by rw [List.getElem?_set_ne (by omega)]; simp [hd]) hmod
      have h2 : (flat xs)[j]? = (xs[j / sz]'hd).cells[j % sz]? := by
        conv => lhs; rw [hjd]
        exact flat_at hs (by simp [hd]) hmod
      have hout : j < i * sz ∨ i * sz + a.cells.length ≤ j := by
        rcases Nat.lt_or_ge (j / sz) i with q | q
        · left
          have : (j / sz + 1) * sz ≤ i * sz := Nat.mul_le_mul_right _ q
          rw [Nat.add_mul] at this
          omega
        · right
          have : (i + 1) * sz ≤ j / sz * sz := Nat.mul_le_mul_right _ (by omega)
          rw [Nat.add_mul] at this
          omega
      rw [h1, setL_out _ _ _ _ hout, h2]
  · rw [List.getElem?_eq_none (by rw [flat_length hs']; simp; omega), List.getElem?_eq_none (by rw [setL_length, flat_length hs]; omega)]

theorem setElems_fill (he : EnvR x env n act) (sz : Nat) : ∀ (parts : List (Nat × Operand)) (l : List (Nat × Opd)) (xs : List A) (arr : Array Value) (g : List A → Prop), cElems parts = some l → CellsR x (flat xs) arr → (∀ e ∈ xs, e.cells.length = sz) → setElems env sz xs l g →
    ∃ xs' arr', Instr.fill (fun i => some (i * sz, sz)) arr (parts.map fun (i, q) => (i, act.eval q)) = some arr' ∧ CellsR x (flat xs') arr' ∧ (∀ e ∈ xs', e.cells.length = sz) ∧ xs'.length = xs.length ∧ g xs'
  | [], l, xs, arr, g, hl, hr, hs, h => by
    simp [cElems] at hl
    subst hl
    exact ⟨xs, arr, rfl, hr, hs, rfl, h⟩
  | (i, q) :: r, l, xs, arr, g, hl, hr, hs, h => by
    unfold cElems at hl
    split at hl
    · rename_i sq l' hq hl'
      injection hl with hl
      subst hl
      obtain ⟨a, h1, h2⟩ := wi h
      obtain ⟨h2, h3⟩ := Dc.out h2
      obtain ⟨h3, h4⟩ := Dc.out h3
      obtain ⟨q1, q2⟩ := (ev_vr he hq h1).cells
      have hmul : (i + 1) * sz ≤ xs.length * sz := Nat.mul_le_mul_right _ h3
      rw [Nat.add_mul] at hmul
      have hfl := flat_length hs
      have hset := hr.set (off := i * sz) (as := a.cells) (vs := (act.eval q).cells.toList) (by simpa using q1) (by omega) (fun j c hj => by
        have := q2 j c hj
        rwa [arr_getD_list (a := (act.eval q).cells) (b := (act.eval q).cells.toList) (i := j) (j := j) (by simp)] at this)
      rw [← flat_set hs h2 h3] at hset
      obtain ⟨xs', arr', r1, r2, r3, r4, r5⟩ := setElems_fill he sz r l' _ _ g hl' hset (fun e he => by
        rcases List.mem_or_eq_of_mem_set he with q | rfl
        · exact hs e q
        · exact h2) h4
      refine ⟨xs', arr', ?_, r2, r3, by rw [r4]; simp, r5⟩
      rw [List.map_cons, fill_one (off := i * sz) (size := sz) rfl (by omega) (by rw [hr.1]; omega)]
      exact r1
    · cases hl

theorem zero_row {z : A} {zv : Value} (hz : VR x z zv) {sz : Nat} (hs : z.cells.length = sz) (hpos : 0 < sz) (len : Nat) : CellsR x (flat (List.replicate len z)) ((Array.range (len * sz)).map fun i => zv.cells[i % zv.cells.size]!) := by
  obtain ⟨q1, q2⟩ := hz.cells
  have hall : ∀ e ∈ List.replicate len z, e.cells.length = sz := fun e he => by rw [(List.mem_replicate.1 he).2]; exact hs
  refine ⟨by rw [flat_length hall]; simp, fun j c hj => ?_⟩
  have hlt : j < len * sz := by
    rcases Nat.lt_or_ge j (len * sz) with q | q
    · exact q
    · rw [List.getElem?_eq_none (by rw [flat_length hall]; simpa using q)] at hj; cases hj
  have hd : j / sz < len := (Nat.div_lt_iff_lt_mul hpos).2 hlt
  have hmod := Nat.mod_lt j hpos
  have hjd : j = j / sz * sz + j % sz := by rw [Nat.mul_comm]; exact (Nat.div_add_mod j sz).symm
  have h1 : (flat (List.replicate len z))[j]? = z.cells[j % sz]? := by
    conv => lhs; rw [hjd]
    exact flat_at hall (by simp [hd]) hmod
  rw [h1] at hj
  have := q2 _ c hj
  have hsz : zv.cells.size = sz := by omega
  have : ((Array.range (len * sz)).map fun i => zv.cells[i % zv.cells.size]!).getD j undef = zv.cells.getD (j % sz) undef := by
    rw [hsz]
    simp [Array.getD, hlt, show j % sz < zv.cells.size by omega]
  rw [this]
  assumption

theorem Does.buildSl (hx : Rel x) (he : EnvR x env n act) {t e : TypeId} {sz len : Nat} {z : A} {parts : Array (Nat × Operand)} {l : List (Nat × Opd)} (ht : P.underlying t = some (.slice e)) (hs : tySz P e = some sz) (hz : tyZero P e = some z)
    (hzs : z.cells.length = sz) (hpos : 0 < sz) (hlen : len * sz ≤ 16777216) (hc : cElems parts.toList = some l) (ho : o.op = .buildSlice t len parts) (h : stepO P m env x.σ (.buildSl sz z len l) k pk) : Does P m x act o k pk := by
  obtain ⟨zv, hz1, hz2⟩ := run_zero hz
  have hall : ∀ e ∈ List.replicate len z, e.cells.length = sz := fun e he => by rw [(List.mem_replicate.1 he).2]; exact hzs
  have hrow := zero_row (absV_vr hz2 x) hzs hpos len
  obtain ⟨xs', arr', r1, r2, r3, r4, r5⟩ := setElems_fill he sz parts.toList l _ _ _ hc hrow hall h
  have hlx : xs'.length = len := by simpa using r4
  obtain ⟨g1, g2⟩ := X.row_ok (m := m) hx arr' e (flat xs').length (by rw [r2.1]; exact Nat.le_refl _)
  have g3 := X.row_sl hx arr' e sz xs' (by rw [r2.1]; exact Nat.le_refl _) r3 r2.2
  refine Does.val (x.row arr' e (flat xs').length) _ _ ?_ g1 g2 g3 r5
  have htl : (parts.map fun (i, q) => (i, act.eval q)).toList = parts.toList.map fun (i, q) => (i, act.eval q) := by simp
  simp only [execOp, ho, Instr.buildSlice, Sem.run_bind, run_underlying ht, Result.andThen_ok, run_sizeOf' hs]
  rw [if_neg (by omega), htl]
  by_cases h0 : len * sz = 0
  · rw [h0] at r1
    simp only [h0, if_true, Sem.run_bind, Sem.run_pure, Result.andThen_ok]
    have e1 : (Array.range 0).map (fun i => zv.cells[i % zv.cells.size]!) = #[] := by simp
    have e2 : (Array.range 0).map (fun i => (#[] : Array Value)[i % (#[] : Array Value).size]!) = #[] := by simp
    rw [e1] at r1
    rw [e2, r1]
    simp [newRow, hlx]
    rfl
  · simp only [h0, if_false, Sem.run_bind, Sem.run_pure, Result.andThen_ok, hz1]
    rw [r1]
    simp [newRow, hlx]
    rfl

/-! ### Append -/
theorem SrcOk.ofSl {tx e' : TypeId} (hk : P.underlying tx = some (.slice e')) {sz : Nat} {o : Own} {ys : List A} {u : Value} (hu : VR x (.sl o sz ys) u) (hsc : ∀ e ∈ ys, e.cells.length = sz ∧ scalars e.cells = true) : ∃ news, SrcOk P sz tx x u ys news := by
  obtain ⟨base, cap, olds, rfl, hcap, hsz, hol, hov, hbase⟩ := hu.sl_inv
  refine ⟨olds, ?_, hsz, hov⟩
  rcases hbase with ⟨rfl, rfl, rfl, _⟩ | ⟨b, off, rfl, _, hc⟩ | ⟨rfl, rfl⟩
  rotate_left 2
  · have : olds = [] := List.eq_nil_of_length_eq_zero (by rw [hol]; simp [flat])
    subst this
    cases base with
    | none => exact Src.ofNil x.w hk cap
    | some a => exact Src.ofSlice x.w hk _ _ _ [] (by simp) (fun j u hu => by simp at hu) (fun v hv => by cases hv)
  · have : olds = [] := List.eq_nil_of_length_eq_zero (by rw [hol]; simp [flat])
    subst this
    exact Src.ofNil x.w hk 0
  · refine Src.ofSlice x.w hk _ _ _ olds (by rw [hol, flat_length hsz]) (fun j u hu => by rw [add_lit]; exact hc j u hu) (fun v hv => ?_)
    obtain ⟨j, hj, rfl⟩ := List.getElem_of_mem hv
    have hjl : j < (flat ys).length := by omega
    have := hov j (flat ys)[j] (by simp [hjl])
    have hs := this.one (by
      have : (flat ys)[j] ∈ flat ys := List.getElem_mem hjl
      obtain ⟨e, he, hce⟩ := List.mem_flatMap.1 this
      exact scalars_mem (hsc e he).2 _ hce)
    simpa [List.getD_eq_getElem?_getD, hj] using hs

theorem SrcOk.ofNils {tx e' : TypeId} (hk : P.underlying tx = some (.slice e')) (sz : Nat) : SrcOk P sz tx x (.slice none 0 0) [] [] :=
  ⟨Src.ofNil x.w hk 0, fun e h => (by cases h), fun j c hj => (by simp [flat] at hj)⟩

theorem SrcOk.ofStr {tx : TypeId} (hk : P.underlying tx = some .string) (s : List UInt8) : SrcOk P 1 tx x (.string ⟨s.toArray⟩) (s.map fun b => .int .u8 (b.toNat : Int)) (byteCells ⟨s.toArray⟩) := by
  have h := Src.ofString (P := P) x.w hk ⟨s.toArray⟩
  have hl : (s.map fun b => A.int .u8 (b.toNat : Int)).length = (⟨s.toArray⟩ : ByteArray).size := by rw [size_mk, List.length_map]
  have hfl : flat (s.map fun b => A.int .u8 (b.toNat : Int)) = s.map fun b => A.int .u8 (b.toNat : Int) := by
    clear hl h
    unfold flat
    induction s with
    | nil => rfl
    | cons a r ih => simp [A.cells] at ih ⊢; exact ih
  refine ⟨by rw [hl]; exact h, fun e he => ?_, fun j c hj => ?_⟩
  · obtain ⟨b, _, rfl⟩ := List.mem_map.1 he
    rfl
  · rw [hfl] at hj
    simp only [List.getElem?_map, Option.map_eq_some_iff] at hj
    obtain ⟨b, hb, rfl⟩ := hj
    have : (byteCells ⟨s.toArray⟩).getD j undef = .int .u8 b.toNat := by simp [byteCells, List.getD_eq_getElem?_getD, hb]
    rw [this]
    exact .int _ _

theorem Does.append (hx : Rel x) (he : EnvR x env n act) {t tx e : TypeId} {i : TypeInfo} {z : A} {str : Bool} (ht : P.underlying t = some (.slice e)) (htx : if str then P.underlying tx = some .string ∧ i.size = 1 else ∃ e', P.underlying tx = some (.slice e')) (hi : P.info? e = some i) (hz : tyZero P e = some z)
    (hzs : z.cells.length = i.size) {a b : Operand} {sa sb : Opd} (hca : cOpd a = some sa) (hcb : cOpd b = some sb) (ho : o.op = .call { callee := .builtin .append, args := #[a, b], argTypes := #[t, tx] })
    (h : stepO P m env x.σ (.append str i.size i.bytes sa sb) k pk) : Does P m x act o k pk := by
  obtain ⟨v, h1, h2⟩ := wi h
  obtain ⟨u, h3, h4⟩ := wi h2
  have hv := ev_vr he hca h1
  have hu := ev_vr he hcb h3
  split at h4
  · rename_i ow xs ys hd hel
    obtain ⟨b1, b2, b3, b4⟩ := h4
    have hz' : ∃ zv, i.zero = some zv ∧ zv.cells.size = i.size := by
      unfold tyZero at hz
      rw [hi] at hz
      cases hq : i.zero with
      | none => simp [hq] at hz
      | some zv => simp [hq] at hz; exact ⟨zv, rfl, by rw [(absV_vr hz x).cells.1, hzs]⟩
    obtain ⟨zv, hz1, hz2⟩ := hz'
    have hsrc : ∃ news, SrcOk P i.size tx x (act.eval b) ys news := by
      cases str with
      | false =>
        obtain ⟨e', hk⟩ := htx
        cases u <;> simp [elemsOf] at hel
        case nils =>
          subst hel
          generalize act.eval b = vb at hu
          cases hu
          exact ⟨[], SrcOk.ofNils hk _⟩
        case sl o' sz' ys' =>
          obtain ⟨hq, rfl⟩ := hel
          rw [hq] at hu
          exact SrcOk.ofSl hk hu b3
      | true =>
        obtain ⟨hk, h1⟩ := htx
        cases u <;> simp [elemsOf] at hel
        case str s =>
          subst hel
          generalize act.eval b = vb at hu
          cases hu
          rw [h1]
          exact ⟨_, SrcOk.ofStr hk s⟩
    obtain ⟨news, hsrc⟩ := hsrc
    have hdst : VR x (.sl ow i.size xs) (act.eval a) := by
      cases v <;> simp [destOf] at hd
      case nils =>
        obtain ⟨rfl, rfl⟩ := hd
        generalize act.eval a = va at hv
        cases hv
        exact .slnil .full _ rfl
      case sl o' sz' xs' =>
        obtain ⟨hq, rfl, rfl⟩ := hd
        rw [hq] at hv
        exact hv
    have hok : AppOk m x xs.length ow := by
      cases ow with
      | no => exact b4.elim
      | full => trivial
      | tok t => exact ⟨b4.1, b4.2.1⟩
    obtain ⟨v', y, r1, r2, r3, r4⟩ := append_run (P := P) (m := m) t tx o.type e i zv ht hi hz1 hz2 hx hdst hsrc b1 b2 hok (fun q => by subst q; exact b4.1)
    have hrun : (execOp act.eval o).run P x.w = .ok (.value v') y.w := by
      simp [execOp, ho, resolve, invoke, builtin, r1]
    cases ow with
    | no => exact b4.elim
    | full => exact Does.val y _ v' hrun r2 r3 r4.2 (by rw [r4.1]; exact b4.2)
    | tok t => exact Does.val y _ v' hrun r2 r3 r4.2 (by rw [r4.1]; exact b4.2.2)
  · exact h4.elim
end
end Go.Proofs.YtkpijfgananjjaaDoor.Ga
