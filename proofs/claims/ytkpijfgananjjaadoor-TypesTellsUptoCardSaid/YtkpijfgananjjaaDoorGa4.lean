/- The slim code is the code's: each step's asking is enough. -/
import Derived.Test.YtkpijfgananjjaaDoorGa3
import Derived.Deep.MidRow
import Derived.Laws.Cells
set_option linter.unusedVariables false
set_option linter.unusedSimpArgs false
namespace Go.Proofs.YtkpijfgananjjaaDoor.Ga

def absS : Value → Option A
  | .int k n => some (.int k n)
  | .bool b => some (.bool b)
  | .string s => some (.str s.data.toList)
  | .pointer none => some .nilp
  | .slice none 0 0 => some .nils
  | .map none => some .nilm
  | .nilFunc => some .nilf
  | .nilIface => some .nili
  | _ => none
def absL : List Value → Option (List A)
  | [] => some []
  | v :: r => match absS v, absL r with | some a, some l => some (a :: l) | _, _ => none
def absV : Value → Option A
  | .agg vs => (absL vs.toList).map .agg
  | .tuple vs => if vs.size = 0 then some (.tup []) else none
  | v => absS v

theorem absS_vr {v : Value} {a : A} (h : absS v = some a) (x : X) : VR x a v := by
  unfold absS at h
  split at h <;> first | (injection h with h; subst h; constructor; done) | cases h

theorem absL_vr : ∀ {vs : List Value} {l : List A}, absL vs = some l → ∀ x : X, vs.length = l.length ∧ ∀ (j : Nat) (c : A), l[j]? = some c → VR x c (vs.getD j undef)
  | [], l, h, x => by simp [absL] at h; subst h; exact ⟨rfl, fun j c hj => by simp at hj⟩
  | v :: r, l, h, x => by
    unfold absL at h
    split at h
    · rename_i a l' h1 h2
      injection h with h
      subst h
      obtain ⟨q1, q2⟩ := absL_vr h2 x
      refine ⟨by simp [q1], fun j c hj => ?_⟩
      cases j with
      | zero => simp at hj; subst hj; simpa using absS_vr h1 x
      | succ j => simpa using q2 j c (by simpa using hj)
    · cases h

theorem absV_vr {v : Value} {a : A} (h : absV v = some a) (x : X) : VR x a v := by
  unfold absV at h
  split at h
  · rename_i vs
    cases hl : absL vs.toList with
    | none => simp [hl] at h
    | some l =>
      simp [hl] at h
      subst h
      obtain ⟨q1, q2⟩ := absL_vr hl x
      exact .agg l vs (by simpa using q1) (fun j c hj => by
        have := q2 j c hj
        rwa [← arr_getD_list (a := vs) (b := vs.toList) (i := j) (by simp)] at this)
  · rename_i vs
    split at h
    · rename_i h0
      injection h with h
      subst h
      exact .tup [] vs (by simpa using h0) (fun j c hj => by simp at hj)
    · cases h
  · exact absS_vr h x

def cOpd : Operand → Option Opd
  | .tmp t => some (.tmp t)
  | .const v => (absV v).map .const
  | .func f => some (.const (.clos f []))
  | .global _ => none

def cOpds : List Operand → Option (List Opd)
  | [] => some []
  | x :: r => match cOpd x, cOpds r with | some a, some l => some (a :: l) | _, _ => none

def cOpt : Option Operand → Option (Option Opd)
  | none => some none
  | some x => (cOpd x).map some

/-- A frame's slots. -/
def EnvR (x : X) (env : Env) (n : Nat) (act : Act) : Prop := act.tmps.size = n ∧ ∀ t a, get env t = some a → VR x a (act.tmps.getD t undef)

theorem EnvR.evol {m : Nat → Nat → Prop} {x y : X} (h : Evol m x y) (hx : Rel x) {env : Env} {n : Nat} {act : Act} (he : EnvR x env n act) : EnvR y env n act :=
  ⟨he.1, fun t a ht => (he.2 t a ht).evol h hx⟩

theorem ev_vr {x : X} {env : Env} {n : Nat} {act : Act} (he : EnvR x env n act) {o : Operand} {so : Opd} (hc : cOpd o = some so) {a : A} (ha : ev env so = some a) : VR x a (act.eval o) := by
  cases o with
  | tmp t => simp [cOpd] at hc; subst hc; exact he.2 t a ha
  | const v =>
    cases hv : absV v with
    | none => simp [cOpd, hv] at hc
    | some b => simp [cOpd, hv] at hc; subst hc; simp [ev] at ha; subst ha; exact absV_vr hv x
  | func f => simp [cOpd] at hc; subst hc; simp [ev] at ha; subst ha; exact .clos f [] #[] rfl (fun j c hj => by simp at hj)
  | global g => simp [cOpd] at hc

theorem evs_vr {x : X} {env : Env} {n : Nat} {act : Act} (he : EnvR x env n act) : ∀ {os : List Operand} {sos : List Opd}, cOpds os = some sos → ∀ {l : List A}, evs env sos = some l →
    (os.map act.eval).length = l.length ∧ ∀ (j : Nat) (c : A), l[j]? = some c → VR x c ((os.map act.eval).getD j undef)
  | [], sos, hc, l, hl => by simp [cOpds] at hc; subst hc; simp [evs] at hl; subst hl; exact ⟨rfl, fun j c hj => by simp at hj⟩
  | o :: r, sos, hc, l, hl => by
    unfold cOpds at hc
    split at hc
    · rename_i so sr h1 h2
      injection hc with hc
      subst hc
      unfold evs at hl
      split at hl
      · rename_i a l' q1 q2
        injection hl with hl
        subst hl
        obtain ⟨r1, r2⟩ := evs_vr he h2 q2
        refine ⟨by simpa using r1, fun j c hj => ?_⟩
        cases j with
        | zero => simp at hj; subst hj; simpa using ev_vr he h1 q1
        | succ j => simpa using r2 j c (by simpa using hj)
      · cases hl
    · cases hc

theorem EnvR.put {x : X} {env : Env} {n : Nat} {act : Act} (he : EnvR x env n act) (dst : Option Nat) (hd : ∀ d, dst = some d → d < n) {a : A} {v : Value} (hv : VR x a v) : EnvR x (put env dst a) n (act.put dst v) := by
  cases dst with
  | none => exact he
  | some d =>
    refine ⟨by simp [Act.put, he.1], fun t b ht => ?_⟩
    simp only [Ga.put, get] at ht
    simp only [Act.put]
    by_cases hdt : d = t
    · subst hdt
      rw [if_pos rfl] at ht
      injection ht with ht
      subst ht
      have : d < act.tmps.size := by rw [he.1]; exact hd d rfl
      simpa [Array.getD, this] using hv
    · rw [if_neg hdt] at ht
      have := he.2 t b ht
      rwa [arr_getD (a := act.tmps.setIfInBounds d v) (b := act.tmps) (i := t) (j := t) (Array.getElem?_setIfInBounds_ne hdt)]

/-- What a step of the model comes to. -/
def Does (P : Program) (m : Nat → Nat → Prop) (x : X) (act : Act) (o : Oper) (k pk : A → St → Prop) : Prop :=
  ∀ (K : Act → World → Prop) (Q : Exit → Act → World → Prop), (∀ (y : X) (a : A) (v : Value), Evol m x y → Rel y → VR y a v → k a y.σ → K (act.put o.dst v) y.w) →
    (∀ (y : X) (a : A) (v : Value), Evol m x y → Rel y → VR y a v → pk a y.σ → Q (.panic [{ v, recovered := false }]) act y.w) → o.wp P act x.w K Q

section
variable {P : Program} {m : Nat → Nat → Prop} {x : X} {act : Act} {o : Oper} {k pk : A → St → Prop}

theorem Does.val (y : X) (a : A) (v : Value) (hrun : (execOp act.eval o).run P x.w = .ok (.value v) y.w) (he : Evol m x y) (hr : Rel y) (hv : VR y a v) (hk : k a y.σ) : Does P m x act o k pk :=
  fun K Q hK _ => by
    unfold Oper.wp
    rw [hrun]
    exact hK y a v he hr hv hk

theorem Does.pure (hx : Rel x) (a : A) (v : Value) (hrun : (execOp act.eval o).run P x.w = .ok (.value v) x.w) (hv : VR x a v) (hk : k a x.σ) : Does P m x act o k pk :=
  Does.val x a v hrun (Evol.refl hx) hx hv hk

/-- A step that yields a value whatever the world, and leaves that as it is. -/
def YlS (P : Program) (S : World → Prop) (x : X) (act : Act) (o : Oper) (k : A → St → Prop) : Prop :=
  ∃ a v, (∀ w, S w → (execOp act.eval o).run P w = .ok (.value v) w) ∧ VR x a v ∧ k a x.σ
def YlAll (P : Program) (x : X) (act : Act) (o : Oper) (k : A → St → Prop) : Prop := YlS P (fun _ => True) x act o k
theorem YlAll.mk (a : A) (v : Value) (h : ∀ w, (execOp act.eval o).run P w = .ok (.value v) w) (hv : VR x a v) (hk : k a x.σ) : YlAll P x act o k := ⟨a, v, fun w _ => h w, hv, hk⟩
theorem YlS.mono {S S' : World → Prop} (h : YlS P S x act o k) (hs : ∀ w, S' w → S w) : YlS P S' x act o k := by
  obtain ⟨a, v, h1, h2, h3⟩ := h
  exact ⟨a, v, fun w hw => h1 w (hs w hw), h2, h3⟩
theorem YlS.does {S : World → Prop} (hx : Rel x) (h : YlS P S x act o k) (hs : S x.w) : Does P m x act o k pk := by
  obtain ⟨a, v, h1, h2, h3⟩ := h
  exact Does.pure hx a v (h1 _ hs) h2 h3
theorem YlAll.does (hx : Rel x) (h : YlAll P x act o k) : Does P m x act o k pk := YlS.does hx h trivial

theorem Does.skip (y : X) (hrun : (execOp act.eval o).run P x.w = .ok .skip y.w) (he : Evol m x y) (hr : Rel y) (hk : k (.tup []) y.σ) : Does P m x act o k pk :=
  fun K Q hK _ => by
    unfold Oper.wp
    rw [hrun]
    exact hK y (.tup []) undef he hr (.tup [] #[] rfl (fun j c hj => by simp at hj)) hk

theorem Does.enter (hx : Rel x) (f : FuncId) (l : List A) (vs : List Value) (hrun : (execOp act.eval o).run P x.w = .ok (.enter f vs.toArray) x.w) (hl : vs.length = l.length) (hv : ∀ (j : Nat) (a : A), l[j]? = some a → VR x a (vs.getD j undef))
    (h : ACallsW P f l x.σ m k pk) : Does P m x act o k pk :=
  fun K Q hK hQ => by
    obtain ⟨m', hm, h⟩ := h
    unfold Oper.wp
    rw [hrun, Oper.upon_enter]
    refine (h x vs hx rfl hl hv).mono ?_
    rintro e w' ⟨y, rfl, he, hr, ae, hae, hR⟩
    have he' := he.mono hm
    cases ae with
    | ret a =>
      obtain ⟨v, rfl, hv⟩ := hae
      exact hK y a v he' hr hv hR
    | pan a =>
      obtain ⟨v, rfl, hv⟩ := hae
      exact hQ y a v he' hr hv hR
end

/-! ### Types -/
def isAggD : TypeDesc → Bool
  | .struct _ | .array _ _ => true
  | _ => false
def tySz (P : Program) (t : TypeId) : Option Nat := (P.info? t).map (·.size)
def tyAgg (P : Program) (t : TypeId) : Option Bool := (P.underlying t).map isAggD
def tyZero (P : Program) (t : TypeId) : Option A := (P.info? t).bind fun i => i.zero.bind absV
def tyField (P : Program) (t : TypeId) (f : Nat) : Option Field := match P.underlying t with | some (.struct fs) => fs[f]? | _ => none
def isIface (P : Program) (t : TypeId) : Option Bool := (P.underlying t).map fun | .interface _ => true | _ => false

theorem run_isAgg {P : Program} {t : TypeId} {b : Bool} (h : tyAgg P t = some b) (w : World) : (isAgg t).run P w = .ok b w := by
  unfold tyAgg at h
  cases hu : P.underlying t with
  | none => simp [hu] at h
  | some d =>
    simp [hu] at h
    unfold isAgg
    rw [Sem.run_bind, run_underlying hu w]
    subst h
    cases d <;> rfl
theorem run_sizeOf' {P : Program} {t : TypeId} {n : Nat} (h : tySz P t = some n) (w : World) : (sizeOf t).run P w = .ok n w := by
  unfold tySz at h
  cases hi : P.info? t with
  | none => simp [hi] at h
  | some i => simp [hi] at h; subst h; simp [sizeOf, typeInfo, hi]
theorem run_zero {P : Program} {t : TypeId} {a : A} (h : tyZero P t = some a) : ∃ v, (∀ w, (zeroValue t).run P w = .ok v w) ∧ absV v = some a := by
  unfold tyZero at h
  cases hi : P.info? t with
  | none => simp [hi] at h
  | some i =>
    cases hz : i.zero with
    | none => simp [hi, hz] at h
    | some v => simp [hi, hz] at h; exact ⟨v, fun w => by simp [zeroValue, typeInfo, hi, hz], h⟩

theorem add_lit (b off n : Nat) : (⟨b, off, none⟩ : Addr).add n = ⟨b, off + n, none⟩ := by unfold Addr.add; split <;> simp_all

/-- A value's cells, in the model too. -/
theorem VR.cells {x : X} {a : A} {v : Value} (h : VR x a v) : v.cells.size = a.cells.length ∧ ∀ (j : Nat) (c : A), a.cells[j]? = some c → VR x c (v.cells.getD j undef) := by
  have one : ∀ {a : A} {v : Value}, VR x a v → a.cells = [a] → v.cells = #[v] → v.cells.size = a.cells.length ∧ ∀ (j : Nat) (c : A), a.cells[j]? = some c → VR x c (v.cells.getD j undef) := by
    intro a v h h1 h2
    rw [h1, h2]
    refine ⟨rfl, fun j c hj => ?_⟩
    cases j with
    | zero => simp at hj; subst hj; exact h
    | succ j => simp at hj
  cases h with
  | agg cs vs hl hv => exact ⟨hl, hv⟩
  | int => exact one (.int ..) rfl rfl
  | bool => exact one (.bool ..) rfl rfl
  | str => exact one (.str ..) rfl rfl
  | nilp => exact one .nilp rfl rfl
  | nils => exact one .nils rfl rfl
  | nilm => exact one .nilm rfl rfl
  | nilf => exact one .nilf rfl rfl
  | nili => exact one .nili rfl rfl
  | ptr id off cs h1 h2 => exact one (.ptr id off cs h1 h2) rfl rfl
  | rp cs b off k own vs h1 h2 h3 h4 => exact one (.rp cs b off k own vs h1 h2 h3 h4) rfl rfl
  | sl o sz xs cs b off cap k own vs h1 h2 h3 h4 h5 h6 h7 => exact one (.sl o sz xs cs b off cap k own vs h1 h2 h3 h4 h5 h6 h7) rfl rfl
  | slnil o sz h => exact one (.slnil o sz h) rfl rfl
  | slz sz ad cap => exact one (.slz sz ad cap) rfl rfl
  | map id es h1 h2 => exact one (.map id es h1 h2) rfl rfl
  | os id off len sz cap cs h1 h2 h3 h4 => exact one (.os id off len sz cap cs h1 h2 h3 h4) rfl rfl
  | clos f caps vs h1 h2 => exact one (.clos f caps vs h1 h2) rfl rfl
  | iface t a v h => exact one (.iface t a v h) rfl rfl
  | tup cs vs h1 h2 => exact one (.tup cs vs h1 h2) rfl rfl

theorem VR.one {x : X} {a : A} {v : Value} (h : VR x a v) (hs : a.scalar = true) : v.oneCell' = true := by
  cases h <;> first | rfl | (simp [A.scalar] at hs)

theorem scalars_mem : ∀ {cs : List A}, scalars cs = true → ∀ c ∈ cs, c.scalar = true
  | [], _, c, h => by cases h
  | a :: r, hs, c, h => by
    simp only [scalars, Bool.and_eq_true] at hs
    rcases List.mem_cons.1 h with rfl | q
    · exact hs.1
    · exact scalars_mem hs.2 c q

/-! ### Loads -/
/-- In each such world the cells of an object are as they are here. -/
def SameAt (S : World → Prop) (x : X) (b off n : Nat) : Prop := ∀ w, S w → ∀ j, j < n → w.cell? ⟨b, off + j, none⟩ = x.w.cell? ⟨b, off + j, none⟩

theorem run_loadVar_agg {P : Program} {t : TypeId} {sz : Nat} (ha : tyAgg P t = some true) (hs : tySz P t = some sz) (w : World) (b off : Nat) (f : Nat → Value) (h : ∀ j, j < sz → w.cell? ⟨b, off + j, none⟩ = some (f j)) :
    (loadVar t ⟨b, off, none⟩).run P w = .ok (.agg ((List.range sz).map f).toArray) w := by
  have hl := run_loadCells (P := P) w ⟨b, off, none⟩ sz f (fun j hj => by rw [add_lit]; exact h j hj)
  unfold loadVar
  rw [Sem.run_bind, run_isAgg ha, Result.andThen_ok, if_pos rfl, Sem.run_bind, run_sizeOf' hs, Result.andThen_ok, Sem.run_bind, hl]
  rfl
theorem run_loadVar_one {P : Program} {t : TypeId} (ha : tyAgg P t = some false) (w : World) (ad : Addr) (v : Value) (h : w.cell? ad = some v) : (loadVar t ad).run P w = .ok v w := by
  unfold loadVar
  rw [Sem.run_bind, run_isAgg ha, Result.andThen_ok, if_neg (by simp), run_load, h]

theorem load_obj {P : Program} {S : World → Prop} {t : TypeId} {agg : Bool} {sz : Nat} (ha : tyAgg P t = some agg) (hs : tySz P t = some sz) {x : X} (hx : Rel x) {id off : Nat} {cs : List A} (hid : id < x.σ.n) (hc : x.σ.obj id = .cells cs)
    (hS : SameAt S x (x.g.blk id) off (if agg then sz else 1)) :
    (agg = true → off + sz ≤ cs.length → ∃ v, (∀ w, S w → (loadVar t ⟨x.g.blk id, off, none⟩).run P w = .ok v w) ∧ VR x (.agg ((cs.drop off).take sz)) v) ∧
      (agg = false → ∀ c, cs[off]? = some c → ∃ v, (∀ w, S w → (loadVar t ⟨x.g.blk id, off, none⟩).run P w = .ok v w) ∧ VR x c v) := by
  have a := hx.objs id hid
  rw [hc] at a
  obtain ⟨_, arr, e, a2, a3, a4⟩ := a
  refine ⟨fun h hle => ?_, fun h c hcc => ?_⟩
  · subst h
    refine ⟨_, fun w hw => run_loadVar_agg ha hs w _ _ (fun j => arr.getD (off + j) undef) (fun j hj => ?_), ?_⟩
    · rw [hS w hw j (by simpa using hj), cell_of a2, Array.getElem?_eq_getElem (by omega)]
      simp [Array.getD, show off + j < arr.size by omega]
    · refine .agg _ _ (by simp; omega) (fun j c hj => ?_)
      have hjs : j < sz := by
        rcases Nat.lt_or_ge j sz with q | q
        · exact q
        · rw [List.getElem?_eq_none (by simp; omega)] at hj; cases hj
      rw [List.getElem?_take_of_lt hjs, List.getElem?_drop] at hj
      have := a4 _ c hj
      simpa [Array.getD, hjs] using this
  · subst h
    have hlt : off < cs.length := by
      rcases Nat.lt_or_ge off cs.length with q | q
      · exact q
      · rw [List.getElem?_eq_none q] at hcc; cases hcc
    refine ⟨arr.getD off undef, fun w hw => run_loadVar_one ha w _ _ ?_, a4 off c hcc⟩
    have := hS w hw 0 (by simp)
    rw [Nat.add_zero] at this
    rw [this, cell_of a2, Array.getElem?_eq_getElem (by omega)]
    simp [Array.getD, show off < arr.size by omega]

theorem load_rp {P : Program} {S : World → Prop} {t : TypeId} {agg : Bool} {sz : Nat} (ha : tyAgg P t = some agg) (hs : tySz P t = some sz) {x : X} (hx : Rel x) {cs : List A} {v : Value} (hv : VR x (.rp cs) v)
    (hS : ∀ w, S w → ∀ b k own, x.g.kind b = .row k own → ∀ j, j < k → w.cell? ⟨b, j, none⟩ = x.w.cell? ⟨b, j, none⟩) :
    ∃ ad, v = .pointer (some ad) ∧ (agg = true → sz ≤ cs.length → ∃ v, (∀ w, S w → (loadVar t ad).run P w = .ok v w) ∧ VR x (.agg (cs.take sz)) v) ∧
      (agg = false → ∀ c, cs[0]? = some c → ∃ v, (∀ w, S w → (loadVar t ad).run P w = .ok v w) ∧ VR x c v) := by
  cases hv with
  | rp cs b off k own vs hk hle hc hv =>
    refine ⟨_, rfl, fun h hle => ?_, fun h c hcc => ?_⟩
    · subst h
      refine ⟨_, fun w hw => run_loadVar_agg ha hs w _ _ vs (fun j hj => by rw [hS w hw b k own hk _ (by omega)]; exact hc j (by omega)), ?_⟩
      refine .agg _ _ (by simp; omega) (fun j c hj => ?_)
      have hjs : j < sz := by
        rcases Nat.lt_or_ge j sz with q | q
        · exact q
        · rw [List.getElem?_eq_none (by simp; omega)] at hj; cases hj
      rw [List.getElem?_take_of_lt hjs] at hj
      have := hv _ c hj
      simpa [Array.getD, hjs] using this
    · subst h
      have hlt : 0 < cs.length := by
        rcases Nat.lt_or_ge 0 cs.length with q | q
        · exact q
        · rw [List.getElem?_eq_none q] at hcc; cases hcc
      refine ⟨vs 0, fun w hw => run_loadVar_one ha w _ _ ?_, hv 0 c hcc⟩
      rw [hS w hw b k own hk _ (by omega)]
      exact hc 0 hlt

end Go.Proofs.YtkpijfgananjjaaDoor.Ga
