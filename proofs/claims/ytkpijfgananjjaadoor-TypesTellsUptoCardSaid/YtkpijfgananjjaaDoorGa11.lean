/- Slim code; a function's contract out of it. -/
import Derived.Test.YtkpijfgananjjaaDoorGa10
set_option linter.unusedVariables false
set_option linter.unusedSimpArgs false
namespace Go.Proofs.YtkpijfgananjjaaDoor.Ga

inductive SCode where
  | skip
  | reg (l : List SOper)
  | dreg (l : List (Nat × SOper))
  | seq (a b : SCode)
  | cond (c : Opd) (a b : SCode)
  | block (id : Nat) (a : SCode)
  | loop (a : SCode)
  | exit (id : Nat)
  | ret

def cCode (P : Program) (n : Nat) : Code → Option SCode
  | .skip => some .skip
  | .region _ ops draw => if draw then (if Region.noSelect ops then (planBest P n ops).map .dreg else none) else (cOpers P n ops ops.toList).map .reg
  | .seq a b => match cCode P n a, cCode P n b with | some a, some b => some (.seq a b) | _, _ => none
  | .cond c a b => match cOpd c, cCode P n a, cCode P n b with | some c, some a, some b => some (.cond c a b) | _, _, _ => none
  | .block id a => (cCode P n a).map (.block id)
  | .loop a => (cCode P n a).map .loop
  | .exit id => some (.exit id)
  | .ret => some .ret
  | _ => none

inductive AExit where
  | normal | exit (id : Nat) | ret | panic (a : A)

abbrev Post := AExit → Env → St → Prop

/-- A post of the model's, out of one over abstract states. -/
def lift (m : Nat → Nat → Prop) (x0 : X) (n : Nat) (ds : Act → Prop) (Q : Post) : Exit → Act → World → Prop
  | .normal, act, w => ∃ y : X, y.w = w ∧ Evol m x0 y ∧ Rel y ∧ ds act ∧ ∃ env, EnvR y env n act ∧ Q .normal env y.σ
  | .exit id, act, w => ∃ y : X, y.w = w ∧ Evol m x0 y ∧ Rel y ∧ ds act ∧ ∃ env, EnvR y env n act ∧ Q (.exit id) env y.σ
  | .ret, act, w => ∃ y : X, y.w = w ∧ Evol m x0 y ∧ Rel y ∧ ds act ∧ ∃ env, EnvR y env n act ∧ Q .ret env y.σ
  | .panic ch, act, w => ∃ y : X, y.w = w ∧ Evol m x0 y ∧ Rel y ∧ ds act ∧ ∃ a v, ch = [{ v, recovered := false }] ∧ VR y a v ∧ Q (.panic a) [] y.σ
  | _, _, _ => False

/-- What is known of a frame, whatever the code writes into its slots. -/
def Stab (ds : Act → Prop) : Code → Prop
  | .region _ ops _ => ∀ o ∈ ops.toList, ∀ (a : Act) (v : Value), ds (a.put o.dst v) ↔ ds a
  | .seq a b => Stab ds a ∧ Stab ds b
  | .cond _ a b => Stab ds a ∧ Stab ds b
  | .block _ a => Stab ds a
  | .loop a => Stab ds a
  | _ => True

theorem stab_defers (l : List Deferred) : ∀ c, Stab (fun a => a.defers = l) c
  | .region _ ops _ => fun o _ a v => by cases o.dst <;> exact Iff.rfl
  | .seq a b => ⟨stab_defers l a, stab_defers l b⟩
  | .cond _ a b => ⟨stab_defers l a, stab_defers l b⟩
  | .block _ a => stab_defers l a
  | .loop a => stab_defers l a
  | .skip => trivial
  | .exit _ => trivial
  | .goto _ => trivial
  | .ret => trivial
  | .rangeFunc _ _ _ _ => trivial
  | .scope _ => trivial
  | .label _ => trivial
  | .refuse _ => trivial

/-- What a piece of code asks, said by the model itself: for loops. -/
def Sound (P : Program) (m : Nat → Nat → Prop) (n : Nat) (c : Code) (env : Env) (σ : St) (Q : Post) : Prop :=
  ∀ (x : X) (act : Act) (ds : Act → Prop), Stab ds c → x.σ = σ → Rel x → EnvR x env n act → ds act → c.wp P (lift m x n ds Q) act x.w

def thenQ (k : Env → St → Prop) (Q : Post) : Post
  | .normal, env, σ => k env σ
  | e, env, σ => Q e env σ
def blockQ (id : Nat) (Q : Post) : Post
  | .exit id', env, σ => if id' = id then Q .normal env σ else Q (.exit id') env σ
  | e, env, σ => Q e env σ

/-- What of the slots is kept in mind. -/
def EnvSub : Env → Env → Prop
  | [], _ => True
  | (t, a) :: r, e => get e t = some a ∧ EnvSub r e
theorem EnvSub.out : ∀ {e1 e2 : Env}, EnvSub e1 e2 → ∀ t a, get e1 t = some a → get e2 t = some a
  | [], _, _, t, a, h => by simp [get] at h
  | (t', a') :: r, e2, hs, t, a, h => by
    simp only [get] at h
    split at h
    · rename_i e; subst e; injection h with h; subst h; exact hs.1
    · exact EnvSub.out hs.2 t a h
theorem EnvSub.envR {x : X} {e1 e2 : Env} {n : Nat} {act : Act} (h : EnvSub e1 e2) (he : EnvR x e2 n act) : EnvR x e1 n act := ⟨he.1, fun t a ht => he.2 t a (h.out t a ht)⟩

/-- A loop: some relation holds at each round's head. -/
def ALoop (P : Program) (m : Nat → Nat → Prop) (wpBody : Env → St → Post → Prop) (env : Env) (σ : St) (Q : Post) : Prop :=
  ∃ (I : Nat → Env → St → Prop) (k : Nat) (env0 : Env), EnvSub env0 env ∧ I k env0 σ ∧ ∀ k env σ, I k env σ → wpBody env σ (thenQ (fun env' σ' => ∃ k' env'', k' < k ∧ EnvSub env'' env' ∧ I k' env'' σ') Q)

def panicQ (Q : Post) : A → St → Prop := fun a σ => Q (.panic a) [] σ

/-- Does something stand in a plan that may not go by itself? -/
def loudPlan : List (Nat × SOper) → Bool
  | [] => false
  | (t, o) :: r => (t == 1 && (match o.op with | .call _ _ | .callV _ _ | .store _ _ _ | .append _ _ _ _ _ | .mapUpd _ _ _ _ | .delete _ _ _ | .clear _ => true | _ => false)) || loudPlan r

abbrev WpC := Env → St → Post → Prop
def wpDreg (P : Program) (m : Nat → Nat → Prop) (l : List (Nat × SOper)) : WpC := fun env σ Q => if loudPlan l then ∃ K, wpD P m K l env σ (Q .normal) (panicQ Q) else wpD P m (fun _ _ => True) l env σ (Q .normal) (panicQ Q)
def wpCSeq (a b : WpC) : WpC := fun env σ Q => a env σ (thenQ (fun env' σ' => b env' σ' Q) Q)
def wpCCond (c : Opd) (a b : WpC) : WpC := fun env σ Q => Wi (ev env c) fun v => match v with
    | .bool t => Bc t (a env σ Q) (b env σ Q)
    | _ => False
def wpC (P : Program) (m : Nat → Nat → Prop) (c : SCode) : WpC := SCode.rec (motive := fun _ => WpC)
  (fun env σ Q => Q .normal env σ)
  (fun l env σ Q => wpO P m l env σ (Q .normal) (panicQ Q))
  (fun l => wpDreg P m l)
  (fun _ _ a b => wpCSeq a b)
  (fun c _ _ a b => wpCCond c a b)
  (fun id _ a env σ Q => a env σ (blockQ id Q))
  (fun _ a env σ Q => ALoop P m a env σ Q)
  (fun id env σ Q => Q (.exit id) env σ)
  (fun env σ Q => Q .ret env σ) c

section
variable {P : Program} {m : Nat → Nat → Prop} {n : Nat}

theorem lift_mono {x0 x1 : X} {ds : Act → Prop} {Q Q' : Post} (h01 : Evol m x0 x1) (hQ : ∀ e env σ, Q e env σ → Q' e env σ) : ∀ e act w, lift m x1 n ds Q e act w → lift m x0 n ds Q' e act w
  | .normal, act, w, ⟨y, h1, h2, h3, h4, env, h5, h6⟩ => ⟨y, h1, h01.trans h2 (fun _ _ _ q => q) (fun _ _ _ q => q), h3, h4, env, h5, hQ _ _ _ h6⟩
  | .exit id, act, w, ⟨y, h1, h2, h3, h4, env, h5, h6⟩ => ⟨y, h1, h01.trans h2 (fun _ _ _ q => q) (fun _ _ _ q => q), h3, h4, env, h5, hQ _ _ _ h6⟩
  | .ret, act, w, ⟨y, h1, h2, h3, h4, env, h5, h6⟩ => ⟨y, h1, h01.trans h2 (fun _ _ _ q => q) (fun _ _ _ q => q), h3, h4, env, h5, hQ _ _ _ h6⟩
  | .panic ch, act, w, ⟨y, h1, h2, h3, h4, a, v, h5, h6, h7⟩ => ⟨y, h1, h01.trans h2 (fun _ _ _ q => q) (fun _ _ _ q => q), h3, h4, a, v, h5, h6, hQ _ _ _ h7⟩
  | .goto _, _, _, h => h.elim
  | .outgrown, _, _, h => h.elim

theorem cCode_sound (hm : P.follows .mixedOrders = true) : ∀ (c : Code) (s : SCode), cCode P n c = some s → ∀ (env : Env) (σ : St) (Q : Post), wpC P m s env σ Q → Sound P m n c env σ Q
  | .skip, s, hc, env, σ, Q, h => by
    simp [cCode] at hc; subst hc
    intro x act ds hst hσ hx he hd
    subst hσ
    exact wp_skip ⟨x, rfl, Evol.refl hx, hx, hd, env, he, h⟩
  | .region id ops draw, s, hc, env, σ, Q, h => by
    intro x act ds hst hσ hx he hd
    subst hσ
    have hn : ∀ (y : X) (env : Env) (act : Act), Evol m x y → Rel y → EnvR y env n act → ds act → Q .normal env y.σ → lift m x n ds Q .normal act y.w := fun y env act h1 h2 h3 h4 h5 => ⟨y, rfl, h1, h2, h4, env, h3, h5⟩
    have hp : ∀ (y : X) (a : A) (v : Value) (act : Act), Evol m x y → Rel y → VR y a v → ds act → panicQ Q a y.σ → lift m x n ds Q (.panic [{ v, recovered := false }]) act y.w := fun y a v act h1 h2 h3 h4 h5 => ⟨y, rfl, h1, h2, h4, a, v, rfl, h3, h5⟩
    unfold cCode at hc
    split at hc
    · rename_i hdr
      subst hdr
      split at hc
      · rename_i hsel
        obtain ⟨l, hl0, rfl⟩ := mapSome hc
        obtain ⟨deep, last, hl⟩ := planBest_spec hl0
        have hrun : ∀ K, wpD P m K l env x.σ (Q .normal) (panicQ Q) → (Code.region id ops true).wp P (lift m x n ds Q) act x.w := fun K h => by
          refine wp_region_any hm ?_
          obtain ⟨d1, d2⟩ := X.drew_ok (m := m) hx
          have := wpD_sound (m := m) (K := K) x (lift m x n ds Q) ds hsel hn hp (fun i o ho c a v w hq => by
            obtain ⟨y, h1, h2, h3, h4, r⟩ := hq
            exact ⟨y, h1, h2, h3, (hst o (Array.mem_toList_iff.2 (Array.mem_of_getElem? ho)) _ _).1 h4, r⟩) (fun i o ho => hst o (Array.mem_toList_iff.2 (Array.mem_of_getElem? ho))) ops.size _ l hl (closed_none ops) x.drew env act d1 d2 (he.evol d1 hx) hd h
          exact wpAny_of_T _ _ _ _ this
        change wpDreg P m l env x.σ Q at h
        unfold wpDreg at h
        split at h
        · obtain ⟨K, h⟩ := h; exact hrun K h
        · exact hrun _ h
      · cases hc
    · rename_i hdr
      obtain ⟨l, hl, rfl⟩ := mapSome hc
      obtain rfl : draw = false := by simpa using hdr
      exact wp_region_list (wpO_sound (lift m x n ds Q) ds hn hp ops.toList l hl hst x env act (Evol.refl hx) hx he hd h)
  | .seq a b, s, hc, env, σ, Q, h => by
    unfold cCode at hc
    split at hc
    · rename_i sa sb ha hb
      injection hc with hc
      subst hc
      intro x act ds hst hσ hx he hd
      refine wp_seq (wp_mono (cCode_sound hm a sa ha env σ _ h x act ds hst.1 hσ hx he hd) fun e act' w' hq => ?_)
      cases e with
      | normal =>
        obtain ⟨y, rfl, h2, h3, h4, env', h5, h6⟩ := hq
        exact wp_mono (cCode_sound hm b sb hb env' y.σ Q h6 y act' ds hst.2 rfl h3 h5 h4) (lift_mono h2 fun _ _ _ q => q)
      | exit id => exact hq
      | ret => exact hq
      | panic ch => exact hq
      | goto l => exact hq
      | outgrown => exact hq
    · cases hc
  | .cond c a b, s, hc, env, σ, Q, h => by
    unfold cCode at hc
    split at hc
    · rename_i sc sa sb h1 ha hb
      injection hc with hc
      subst hc
      intro x act ds hst hσ hx he hd
      obtain ⟨v, hv1, hv2⟩ := wi h
      have hv := ev_vr he h1 hv1
      split at hv2
      · rename_i t
        generalize hcv : act.eval c = cv at hv
        cases hv
        refine wp_cond_split hcv (fun ht => ?_) (fun ht => ?_)
        · exact cCode_sound hm a sa ha env σ Q (hv2.1 ht) x act ds hst.1 hσ hx he hd
        · exact cCode_sound hm b sb hb env σ Q (hv2.2 ht) x act ds hst.2 hσ hx he hd
      · exact hv2.elim
    · cases hc
  | .block id a, s, hc, env, σ, Q, h => by
    unfold cCode at hc
    obtain ⟨sa, ha, rfl⟩ := mapSome hc
    intro x act ds hst hσ hx he hd
    refine wp_block (wp_mono (cCode_sound hm a sa ha env σ _ h x act ds hst hσ hx he hd) fun e act' w' hq => ?_)
    cases e with
    | normal => exact hq
    | exit id' =>
      obtain ⟨y, h1, h2, h3, h4, env', h5, h6⟩ := hq
      simp only [blockQ] at h6
      simp only [Exit.inBlock]
      split at h6
      · rename_i hid; rw [if_pos hid]; exact ⟨y, h1, h2, h3, h4, env', h5, h6⟩
      · rename_i hid; rw [if_neg hid]; exact ⟨y, h1, h2, h3, h4, env', h5, h6⟩
    | ret => exact hq
    | panic ch => exact hq
    | goto l => exact hq
    | outgrown => exact hq
  | .loop a, s, hc, env, σ, Q, h => by
    unfold cCode at hc
    obtain ⟨sa, ha, rfl⟩ := mapSome hc
    intro x act ds hst hσ hx he hd
    obtain ⟨I, k0, env0, hsub, hI, hround⟩ := h
    have key : ∀ k (y : X) (env : Env) (act : Act), I k env y.σ → Evol m x y → Rel y → EnvR y env n act → ds act → ∀ b kk cs,
        ∃ e a' w', lift m x n ds Q e a' w' ∧ Arrives P (lone (b.at act (.code a :: .inLoop a :: kk)) cs y.w) b kk cs e a' w' := by
      intro k
      induction k using Nat.strongRecOn with
      | _ k ih =>
        intro y env act hI h0 hy he hd b kk cs
        have hb := cCode_sound hm a sa ha env y.σ _ (hround k env y.σ hI) y act ds hst rfl hy he hd
        obtain ⟨e, act1, w1, hq, harr⟩ := hb b (.inLoop a :: kk) cs
        cases e with
        | normal =>
          obtain ⟨z, rfl, h2, h3, h4, env', h5, k', env'', hlt, hs', hI'⟩ := hq
          obtain ⟨e2, a2, w2, hq2, harr2⟩ := ih k' hlt z env'' act1 hI' (h0.trans h2 (fun _ _ _ q => q) (fun _ _ _ q => q)) h3 (hs'.envR h5) h4 b kk cs
          exact ⟨e2, a2, w2, hq2, .of_steps (Steps.trans harr (.one step_inLoop)) harr2⟩
        | exit id =>
          have hq' : lift m y n ds Q (.exit id) act1 w1 := hq
          exact ⟨_, act1, w1, lift_mono h0 (fun _ _ _ q => q) _ _ _ hq', .pass (x := .inLoop a) rfl (fun _ _ => .inl (by simp)) harr⟩
        | goto l => exact hq.elim
        | ret =>
          have hq' : lift m y n ds Q .ret act1 w1 := hq
          exact ⟨_, act1, w1, lift_mono h0 (fun _ _ _ q => q) _ _ _ hq', .pass (x := .inLoop a) rfl (fun _ _ => .inl (by simp)) harr⟩
        | panic ch =>
          have hq' : lift m y n ds Q (.panic ch) act1 w1 := hq
          exact ⟨_, act1, w1, lift_mono h0 (fun _ _ _ q => q) _ _ _ hq', .pass (x := .inLoop a) rfl (fun _ _ => .inl (by simp)) harr⟩
        | outgrown => exact hq.elim
    subst hσ
    intro b kk cs
    obtain ⟨e, a', w', hq, harr⟩ := key k0 x env0 act hI (Evol.refl hx) hx (hsub.envR he) hd b kk cs
    exact ⟨e, a', w', hq, .of_steps (.one step_loop) harr⟩
  | .exit id, s, hc, env, σ, Q, h => by
    simp [cCode] at hc; subst hc
    intro x act ds hst hσ hx he hd
    subst hσ
    exact wp_exit ⟨x, rfl, Evol.refl hx, hx, hd, env, he, h⟩
  | .ret, s, hc, env, σ, Q, h => by
    simp [cCode] at hc; subst hc
    intro x act ds hst hσ hx he hd
    subst hσ
    exact wp_ret ⟨x, rfl, Evol.refl hx, hx, hd, env, he, h⟩
  | .scope _, s, hc, _, _, _, _ => by simp [cCode] at hc
  | .label _, s, hc, _, _, _, _ => by simp [cCode] at hc
  | .goto _, s, hc, _, _, _, _ => by simp [cCode] at hc
  | .refuse _, s, hc, _, _, _, _ => by simp [cCode] at hc
  | .rangeFunc _ _ _ _, s, hc, _, _, _, _ => by simp [cCode] at hc

/-! ### Functions -/
inductive SRes where
  | tmp (t : Nat)
  | cell (t : Nat) (agg : Bool) (sz : Nat)

def cRes (P : Program) : List ResultVar → Option (List SRes)
  | [] => some []
  | .tmp t :: r => match cRes P r with | some l => some (.tmp t :: l) | none => none
  | .cell a t :: r => match tyAgg P t, tySz P t, cRes P r with | some agg, some sz, some l => some (.cell a agg sz :: l) | _, _, _ => none

/-- The results, one by one. -/
def resList (env : Env) (σ : St) : List SRes → (List A → Prop) → Prop
  | [], k => k []
  | .tmp t :: r, k => Wi (get env t) fun a => resList env σ r fun l => k (a :: l)
  | .cell t agg sz :: r, k => Wi (get env t) fun v => match v with
    | .ptr id off => match σ.obj id with
      | .cells cs => if agg then Dc (off + sz ≤ cs.length) (resList env σ r fun l => k (.agg ((cs.drop off).take sz) :: l)) else Wi cs[off]? fun c => resList env σ r fun l => k (c :: l)
      | _ => False
    | _ => False

def oneOf : List A → A
  | [a] => a
  | l => .tup l

/-- What a function's end comes to. -/
def retQ (rs : List SRes) (R : AEnd → St → Prop) : Post
  | .normal, env, σ | .ret, env, σ => resList env σ rs fun l => R (.ret (oneOf l)) σ
  | .panic a, _, σ => R (.pan a) σ
  | .exit _, _, _ => False

structure SFun where
  n : Nat
  body : SCode
  res : List SRes

def cFun (P : Program) (fn : Func) : Option SFun := match fn.body with
  | some c => match cCode P fn.ntmps c, cRes P fn.results.toList with | some b, some r => some ⟨fn.ntmps, b, r⟩ | _, _ => none
  | none => none

/-- The arguments' slots. -/
def envOf : Nat → List A → Env
  | _, [] => []
  | i, a :: r => (i, a) :: envOf (i + 1) r

theorem envOf_get : ∀ (l : List A) (i t : Nat) (a : A), get (envOf i l) t = some a → i ≤ t ∧ l[t - i]? = some a
  | [], i, t, a, h => by simp [envOf, get] at h
  | b :: r, i, t, a, h => by
    simp only [envOf, get] at h
    split at h
    · rename_i hit; injection h with h; subst h; subst hit; simp
    · rename_i hit
      obtain ⟨q1, q2⟩ := envOf_get r (i + 1) t a h
      refine ⟨by omega, ?_⟩
      rw [show t - i = (t - (i + 1)) + 1 by omega]
      simpa using q2

def resOf (act : Act) : ResultVar → Sem Value
  | .tmp t => Pure.pure (act.tmps.getD t undef)
  | .cell a t => do loadVar t (← asAddr (act.tmps.getD a undef))

def ResOk (P : Program) (x : X) (act : Act) (rs : List ResultVar) (k : List A → Prop) : Prop :=
  ∃ (l : List A) (vs : List Value), (rs.mapM (resOf act)).run P x.w = .ok vs x.w ∧ vs.length = l.length ∧ (∀ (j : Nat) (c : A), l[j]? = some c → VR x c (vs.getD j undef)) ∧ k l

theorem ResOk.cons {x : X} {act : Act} {r : ResultVar} {rs : List ResultVar} {k : List A → Prop} (c : A) (v : Value) (h1 : (resOf act r).run P x.w = .ok v x.w) (h2 : VR x c v) (h : ResOk P x act rs fun l => k (c :: l)) : ResOk P x act (r :: rs) k := by
  obtain ⟨l, vs, g1, g2, g3, g4⟩ := h
  refine ⟨c :: l, v :: vs, by simp only [List.mapM_cons, Sem.run_bind, h1, Result.andThen_ok, g1, Sem.run_pure], by simp [g2], fun j c' hj => ?_, g4⟩
  cases j with
  | zero => simp at hj; subst hj; simpa using h2
  | succ j => simpa using g3 j c' (by simpa using hj)

theorem run_results {x : X} (hx : Rel x) {env : Env} {act : Act} (he : EnvR x env n act) : ∀ (rs : List ResultVar) (srs : List SRes), cRes P rs = some srs → ∀ (k : List A → Prop), resList env x.σ srs k → ResOk P x act rs k
  | [], srs, hc, k, h => by
    simp [cRes] at hc; subst hc
    exact ⟨[], [], by simp, rfl, fun j c hj => by simp at hj, h⟩
  | .tmp t :: r, srs, hc, k, h => by
    unfold cRes at hc
    split at hc
    · rename_i l hl
      injection hc with hc; subst hc
      obtain ⟨a, h1, h2⟩ := wi h
      exact ResOk.cons a _ rfl (he.2 t _ h1) (run_results hx he r _ hl _ h2)
    · cases hc
  | .cell a t :: r, srs, hc, k, h => by
    unfold cRes at hc
    split at hc
    · rename_i agg sz l ha hs hl
      injection hc with hc; subst hc
      obtain ⟨v, h1, h2⟩ := wi h
      have hv := he.2 a v h1
      split at h2
      · rename_i id off
        split at h2
        · rename_i cs hcs
          generalize hpv : act.tmps.getD a undef = pv at hv
          cases hv with
          | ptr _ _ cs' hid hc' =>
            obtain ⟨l1, l2⟩ := load_obj (P := P) (S := (· = x.w)) (off := off) ha hs hx hid hcs (fun w hw j _ => by rw [hw])
            have go : ∀ v, (loadVar t ⟨x.g.blk id, off, none⟩).run P x.w = .ok v x.w → (resOf act (.cell a t)).run P x.w = .ok v x.w := fun v q => by
              simp only [resOf, hpv, asAddr, Sem.run_bind, Sem.run_pure, Result.andThen_ok, q]
            cases agg with
            | true =>
              obtain ⟨h3, h4⟩ := Dc.out h2
              obtain ⟨v, r1, r2⟩ := l1 rfl h3
              exact ResOk.cons _ v (go v (r1 _ rfl)) r2 (run_results hx he r _ hl _ h4)
            | false =>
              obtain ⟨c, h3, h4⟩ := wi h2
              obtain ⟨v, r1, r2⟩ := l2 rfl c h3
              exact ResOk.cons _ v (go v (r1 _ rfl)) r2 (run_results hx he r _ hl _ h4)
        · exact h2.elim
      · exact h2.elim
    · cases hc

theorem results_one {x : X} (hx : Rel x) {env : Env} {act : Act} (he : EnvR x env n act) {fn : Func} {srs : List SRes} (hc : cRes P fn.results.toList = some srs) {R : AEnd → St → Prop} (h : resList env x.σ srs fun l => R (.ret (oneOf l)) x.σ) :
    ∃ (a : A) (v : Value), (results fn act.tmps).run P x.w = .ok v x.w ∧ VR x a v ∧ R (.ret a) x.σ := by
  obtain ⟨l, vs, g1, g2, g3, g4⟩ := run_results hx he fn.results.toList srs hc _ h
  refine ⟨oneOf l, if h : vs.toArray.size = 1 then vs.toArray[0] else .tuple vs.toArray, ?_, ?_, g4⟩
  · have e : results fn act.tmps = (do let vs ← fn.results.mapM (resOf act); Pure.pure (if h : vs.size = 1 then vs[0] else .tuple vs)) := by
      unfold results
      congr 1
    rw [e, Array.mapM_eq_mapM_toList, Sem.run_bind, Sem.run_map, g1]
    rfl
  · match l, vs, g2 with
    | [], [], _ => exact .tup [] #[] rfl (fun j c hj => by simp at hj)
    | [a], [v], _ => exact (by simpa using g3 0 a (by simp) : VR x a v)
    | a :: b :: r, v :: u :: q, e =>
      have : ¬ ((v :: u :: q).toArray.size = 1) := by simp
      rw [dif_neg this]
      refine .tup _ _ (by simpa using e) (fun j c hj => ?_)
      have := g3 j c hj
      rwa [← arr_getD_list (a := (v :: u :: q).toArray) (b := v :: u :: q) (i := j) (j := j) (by simp)] at this

/-- A FUNCTION's CONTRACT. -/
theorem acalls_of (hm : P.follows .mixedOrders = true) {f : FuncId} {fn : Func} {sf : SFun} (hf : P.funcs[f]? = some fn) (hc : cFun P fn = some sf) {args : List A} {σ : St} {R : AEnd → St → Prop} (hargs : args.length ≤ sf.n)
    (h : wpC P m sf.body (envOf 0 args) σ (retQ sf.res R)) : ACalls P f args σ m R := by
  intro x vs hx hσ hl hv
  unfold cFun at hc
  split at hc
  · rename_i c hb
    split at hc
    · rename_i b r h1 h2
      injection hc with hc
      subst hc
      refine calls_of_wp hf hb ?_
      have hargs' : vs.length ≤ fn.ntmps := by rw [hl]; exact hargs
      have he : EnvR x (envOf 0 args) fn.ntmps { tmps := vs.toArray ++ Array.replicate (fn.ntmps - vs.toArray.size) undef, defers := [] } := by
        refine ⟨by simp; omega, fun t a ht => ?_⟩
        obtain ⟨_, q⟩ := envOf_get args 0 t a ht
        rw [Nat.sub_zero] at q
        have hlt : t < vs.length := by
          rcases Nat.lt_or_ge t args.length with q' | q'
          · omega
          · rw [List.getElem?_eq_none q'] at q; cases q
        have := hv t a q
        rwa [← arr_getD_list (a := vs.toArray ++ Array.replicate (fn.ntmps - vs.toArray.size) undef) (b := vs) (i := t) (j := t) (by rw [Array.getElem?_append_left (by simpa using hlt)]; simp)] at this
      refine wp_mono (cCode_sound (m := m) hm c b h1 (envOf 0 args) σ _ h x _ (fun a => a.defers = []) (stab_defers [] c) hσ hx he rfl) fun e act w hq => ?_
      cases e with
      | normal =>
        obtain ⟨y, rfl, q2, q3, q4, env', q5, q6⟩ := hq
        obtain ⟨a, v, r1, r2, r3⟩ := results_one q3 q5 h2 q6
        exact ⟨q4, v, r1, y, rfl, q2, q3, .ret a, ⟨v, rfl, r2⟩, r3⟩
      | ret =>
        obtain ⟨y, rfl, q2, q3, q4, env', q5, q6⟩ := hq
        obtain ⟨a, v, r1, r2, r3⟩ := results_one q3 q5 h2 q6
        exact ⟨q4, v, r1, y, rfl, q2, q3, .ret a, ⟨v, rfl, r2⟩, r3⟩
      | panic ch =>
        obtain ⟨y, rfl, q2, q3, q4, a, v, rfl, q5, q6⟩ := hq
        exact ⟨q4, y, rfl, q2, q3, .pan a, ⟨v, rfl, q5⟩, q6⟩
      | exit id =>
        obtain ⟨y, _, _, _, _, env', _, q6⟩ := hq
        exact q6.elim
      | goto l => exact hq.elim
      | outgrown => exact hq.elim
    · cases hc
  · cases hc
end
end Go.Proofs.YtkpijfgananjjaaDoor.Ga
