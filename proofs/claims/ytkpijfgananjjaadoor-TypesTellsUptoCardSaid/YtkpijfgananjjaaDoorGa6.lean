/- The rest of the steps: lengths, cuts, assertions, appends, composite values. -/
import Derived.Test.YtkpijfgananjjaaDoorGa5
import Derived.Laws.Strings2
import Derived.Laws.BytesString
import Derived.Laws.Slices
set_option linter.unusedVariables false
set_option linter.unusedSimpArgs false
namespace Go.Proofs.YtkpijfgananjjaaDoor.Ga
section
variable {P : Program} {m : Nat → Nat → Prop} {x : X} {act : Act} {o : Oper} {k pk : A → St → Prop} {env : Env} {n : Nat}

theorem size_mk (l : List UInt8) : (⟨l.toArray⟩ : ByteArray).size = l.length := by show l.toArray.size = _; simp

theorem Yl.lenStr (hx : Rel x) (he : EnvR x env n act) {t : TypeId} (ht : P.underlying t = some .string) {a : Operand} {sa : Opd} (hca : cOpd a = some sa)
    (ho : o.op = .call { callee := .builtin .len, args := #[a], argTypes := #[t] }) (h : stepO P m env x.σ (.len .str sa) k pk) : YlAll P x act o k := by
  obtain ⟨v, h1, h2⟩ := wi h
  have hv := ev_vr he hca h1
  generalize hev : act.eval a = va at hv
  cases v
  case str s =>
    cases hv
    exact YlAll.mk _ _ (fun w => by simp [execOp, ho, hev, resolve, invoke, builtin, Builtin.len_, run_underlying ht, goInt, size_mk]) (.int _ _) h2
  all_goals exact False.elim h2

theorem Yl.lenSl (hx : Rel x) (he : EnvR x env n act) {t e : TypeId} (ht : P.underlying t = some (.slice e)) {a : Operand} {sa : Opd} (hca : cOpd a = some sa)
    (ho : o.op = .call { callee := .builtin .len, args := #[a], argTypes := #[t] }) (h : stepO P m env x.σ (.len .sl sa) k pk) : YlAll P x act o k := by
  obtain ⟨v, h1, h2⟩ := wi h
  have hv := ev_vr he hca h1
  generalize hev : act.eval a = va at hv
  cases v
  case sl ow sz xs =>
    obtain ⟨base, cap, olds, rfl, _⟩ := hv.sl_inv
    exact YlAll.mk _ _ (fun w => by simp [execOp, ho, hev, resolve, invoke, builtin, Builtin.len_, run_underlying ht, goInt]) (.int _ _) h2
  case nils =>
    cases hv
    exact YlAll.mk _ _ (fun w => by simp [execOp, ho, hev, resolve, invoke, builtin, Builtin.len_, run_underlying ht, goInt]) (.int _ _) h2
  case os id off len sz =>
    cases hv
    exact YlAll.mk _ _ (fun w => by simp [execOp, ho, hev, resolve, invoke, builtin, Builtin.len_, run_underlying ht, goInt]) (.int _ _) h2
  all_goals exact False.elim h2

theorem Does.lenMap (hx : Rel x) (he : EnvR x env n act) {t e e' : TypeId} (ht : P.underlying t = some (.map e e')) {a : Operand} {sa : Opd} (hca : cOpd a = some sa)
    (ho : o.op = .call { callee := .builtin .len, args := #[a], argTypes := #[t] }) (h : stepO P m env x.σ (.len .map sa) k pk) : Does P m x act o k pk := by
  obtain ⟨v, h1, h2⟩ := wi h
  have hv := ev_vr he hca h1
  generalize hev : act.eval a = va at hv
  cases v
  case map id =>
    have h2' : (match x.σ.obj id with | .map es => k (.int .i64 es.length) x.σ | _ => False) := h2
    split at h2'
    · rename_i es hes
      cases hv with
      | map _ es' hid hes' =>
        have a := hx.objs id hid
        rw [hes] at a
        obtain ⟨_, ents, clock, a2, a3, _⟩ := a
        exact Does.pure hx _ (.int .i64 es.length) (by simp [execOp, ho, hev, resolve, invoke, builtin, Builtin.len_, run_underlying ht, goInt, getObj, Sem.run, a2, a3]) (.int _ _) h2'
    · exact h2'.elim
  case nilm =>
    cases hv
    exact Does.pure hx _ _ (by simp [execOp, ho, hev, resolve, invoke, builtin, Builtin.len_, run_underlying ht, goInt]) (.int _ _) h2
  all_goals exact False.elim h2

/-- A bound of a cut. -/
theorem run_bound {i : Int} {q : IntKind} {y : Nat} {code : BoundsCode} (h0 : 0 ≤ i) (h1 : i ≤ y) (w : World) : (Instr.sliceBound (.int q i) y code).run P w = .ok i.toNat w := by
  simp [Instr.sliceBound, asIntOf, h0, h1]

theorem evo_vr {x : X} {env : Env} {n : Nat} {act : Act} (he : EnvR x env n act) {e : Option Operand} {so : Option Opd} (hc : cOpt e = some so) {a : Option A} (ha : evo env so = some a) :
    match a with | none => e.map act.eval = none | some a => ∃ v, e.map act.eval = some v ∧ VR x a v := by
  cases e with
  | none => simp [cOpt] at hc; subst hc; simp [evo] at ha; subst ha; rfl
  | some e =>
    cases hq : cOpd e with
    | none => simp [cOpt, hq] at hc
    | some s =>
      simp [cOpt, hq] at hc
      subst hc
      cases hr : ev env s with
      | none => simp [evo, hr] at ha
      | some b => simp [evo, hr] at ha; subst ha; exact ⟨_, rfl, ev_vr he hq hr⟩

theorem Yl.sliceStr (hx : Rel x) (he : EnvR x env n act) {t : TypeId} (ht : P.underlying t = some .string) {a : Operand} {lo hi : Option Operand} {sa : Opd} {slo shi : Option Opd} (hca : cOpd a = some sa) (hlo : cOpt lo = some slo) (hhi : cOpt hi = some shi)
    (ho : o.op = .slice t a lo hi none) (h : stepO P m env x.σ (.sliceStr sa slo shi) k pk) : YlAll P x act o k := by
  obtain ⟨v, h1, h2⟩ := wi h
  have hv := ev_vr he hca h1
  generalize hev : act.eval a = va at hv
  split at h2
  · rename_i s l u hel heu
    have vl := evo_vr he hlo hel
    have vu := evo_vr he hhi heu
    cases hv
    have key : ∀ i j : Nat, i ≤ j → j ≤ s.length → (∀ w, (Instr.sliceBounds false s.length s.length (lo.map act.eval) (hi.map act.eval) none).run P w = .ok (i, j, s.length) w) → k (.str ((s.take j).drop i)) x.σ → YlAll P x act o k := fun i j hij hj hb hk => by
      refine YlAll.mk _ (.string (⟨((s.take j).drop i).toArray⟩)) (fun w => ?_) (.str _) hk
      simp only [execOp, ho, hev, Instr.sliceAt, Sem.run_bind, run_underlying ht, Result.andThen_ok, Instr.slice, Option.map_none, Option.isSome_none, Bool.false_eq_true, if_false, Sem.run_pure, size_mk, hb]
      rw [ByteArray.extract_mk, List.drop_take]
    unfold slBounds at h2
    split at h2
    · exact key 0 s.length (Nat.zero_le _) (Nat.le_refl _) (fun w => by rw [vl, vu]; simp [Instr.sliceBounds]) h2
    · obtain ⟨g1, g2, g3⟩ := h2
      obtain ⟨w1, q1, q2⟩ := vl
      cases q2
      exact key _ s.length (by omega) (Nat.le_refl _) (fun w => by rw [q1, vu]; simp [Instr.sliceBounds, run_bound g1 g2]) g3
    · obtain ⟨g1, g2, g3⟩ := h2
      obtain ⟨w1, q1, q2⟩ := vu
      cases q2
      exact key 0 _ (Nat.zero_le _) (by omega) (fun w => by rw [q1, vl]; simp [Instr.sliceBounds, run_bound g1 g2]) g3
    · obtain ⟨g1, g2, g3, g4, g5⟩ := h2
      obtain ⟨w1, q1, q2⟩ := vu
      cases q2
      obtain ⟨w2, q3, q4⟩ := vl
      cases q4
      rename_i k1 i1 k2 j1
      exact key _ _ (by omega) (by omega) (fun w => by rw [q1, q3]; simp [Instr.sliceBounds, run_bound g1 g2, run_bound g3 (show i1 ≤ (j1.toNat : Int) by omega)]) g5
    · exact h2.elim
  · exact h2.elim

theorem Yl.tassert (hx : Rel x) (he : EnvR x env n act) {t u : TypeId} {z : A} {ok : Bool} (ht : isIface P t = some false) (hz : tyZero P t = some z) {a : Operand} {sa : Opd} (hca : cOpd a = some sa) (ho : o.op = .typeAssert a u t ok)
    (h : stepO P m env x.σ (.tassert t z sa ok) k pk) : YlAll P x act o k := by
  obtain ⟨v, h1, h2⟩ := wi h
  have hv := ev_vr he hca h1
  generalize hev : act.eval a = va at hv
  obtain ⟨d, hd, hni⟩ : ∃ d, P.underlying t = some d ∧ ∀ ms, d ≠ .interface ms := by
    unfold isIface at ht
    cases hu : P.underlying t with
    | none => simp [hu] at ht
    | some d => simp [hu] at ht; exact ⟨d, rfl, fun ms q => by subst q; simp at ht⟩
  obtain ⟨zv, hz1, hz2⟩ := run_zero hz
  have two : ∀ (b : Bool) (a : A) (v : Value), VR x a v → VR x (.tup [a, .bool b]) (.tuple #[v, .bool b]) := fun b a v hv => .tup _ _ rfl (fun j c hj => by
    match j with
    | 0 => simp at hj; subst hj; simpa using hv
    | 1 => simp at hj; subst hj; simpa using VR.bool b
    | j + 2 => simp at hj)
  split at h2
  · rename_i t' a'
    cases hv with
    | iface _ _ v' hv' =>
      split at h2
      · rename_i heq
        subst heq
        cases ok with
        | true => exact YlAll.mk _ (.tuple #[v', .bool true]) (fun w => by simp only [execOp, ho, hev, Instr.typeAssert, Sem.run_bind, run_underlying hd, Result.andThen_ok]; cases d <;> first | (exact absurd rfl (hni _)) | simp) (two _ _ _ hv') h2
        | false => exact YlAll.mk _ v' (fun w => by simp only [execOp, ho, hev, Instr.typeAssert, Sem.run_bind, run_underlying hd, Result.andThen_ok]; cases d <;> first | (exact absurd rfl (hni _)) | simp) hv' h2
      · rename_i hne
        cases ok with
        | true => exact YlAll.mk _ (.tuple #[zv, .bool false]) (fun w => by simp only [execOp, ho, hev, Instr.typeAssert, Sem.run_bind, run_underlying hd, Result.andThen_ok]; cases d <;> first | (exact absurd rfl (hni _)) | simp [hne, hz1]) (two _ _ _ (absV_vr hz2 x)) h2
        | false => simp at h2
  · cases hv
    cases ok with
    | true => exact YlAll.mk _ (.tuple #[zv, .bool false]) (fun w => by simp only [execOp, ho, hev, Instr.typeAssert, Sem.run_bind, run_underlying hd, Result.andThen_ok]; cases d <;> first | (exact absurd rfl (hni _)) | simp [hz1]) (two _ _ _ (absV_vr hz2 x)) h2
    | false => simp at h2
  · exact h2.elim


theorem equal_of {w : World} {t : TypeId} {a b : Value} {r : Bool} (h : ∀ d : Nat, (Op.equalIn (d + 1) t a b).run P w = .ok r w) : (Op.equal t a b).run P w = .ok r w := h 9999

theorem Yl.isnil (hx : Rel x) (he : EnvR x env n act) {op : BinOp} {t t' : TypeId} {a b : Operand} {neg : Bool} {q : NilK} {sa : Opd} (hn : nilCmp P op t b = some (neg, q)) (hca : cOpd a = some sa) (ho : o.op = .binOp op t a b t')
    (h : stepO P m env x.σ (.isnil neg q sa) k pk) : YlAll P x act o k := by
  obtain ⟨v, h1, h2⟩ := wi h
  have hv := ev_vr he hca h1
  generalize hva : act.eval a = va at hv
  split at h2
  · rename_i r hr
    have fin : (∀ w, (eqGuard op t a b va (act.eval b)).run P w = .ok () w) → (∀ w, (Op.equal t va (act.eval b)).run P w = .ok r w) → (neg = false ∧ op = .eql ∨ neg = true ∧ op = .neq) → (binOp op t va (act.eval b) = if op = .eql then (do pure (.bool (← Op.equal t va (act.eval b)))) else (do pure (.bool (!(← Op.equal t va (act.eval b))))) ) → YlAll P x act o k := by
      intro hg he' hop hb
      refine YlAll.mk _ (.bool (if neg then !r else r)) (fun w => ?_) (.bool _) h2
      rcases hop with ⟨rfl, rfl⟩ | ⟨rfl, rfl⟩
      · simp [execOp, ho, hva, hg w, hb, he' w]
      · simp [execOp, ho, hva, hg w, hb, he' w]
    unfold nilCmp at hn
    split at hn
    · rename_i b1 ms hop ht
      injection hn with hn
      injection hn with e1 e2
      subst e1 e2
      have hops : b1 = false ∧ op = .eql ∨ b1 = true ∧ op = .neq := by
        split at hop
        · injection hop with hop; exact .inl ⟨hop.symm, rfl⟩
        · injection hop with hop; exact .inr ⟨hop.symm, rfl⟩
        · cases hop
      cases v <;> simp [isNilA] at hr
      case nili =>
        subst hr
        cases hv
        refine fin (fun w => ?_) (fun w => equal_of fun d => by simp [Op.equalIn, run_underlying ht, Act.eval]) hops (by rcases hops with ⟨_, rfl⟩ | ⟨_, rfl⟩ <;> rfl)
        rcases hops with ⟨_, rfl⟩ | ⟨_, rfl⟩ <;> simp [eqGuard, Act.eval]
      case iface tt aa =>
        subst hr
        cases hv
        refine fin (fun w => ?_) (fun w => equal_of fun d => by simp [Op.equalIn, run_underlying ht, Act.eval]) hops (by rcases hops with ⟨_, rfl⟩ | ⟨_, rfl⟩ <;> rfl)
        rcases hops with ⟨_, rfl⟩ | ⟨_, rfl⟩ <;> simp [eqGuard, Act.eval]
    · rename_i b1 e hop ht
      injection hn with hn
      injection hn with e1 e2
      subst e1 e2
      have hops : b1 = false ∧ op = .eql ∨ b1 = true ∧ op = .neq := by
        split at hop
        · injection hop with hop; exact .inl ⟨hop.symm, rfl⟩
        · injection hop with hop; exact .inr ⟨hop.symm, rfl⟩
        · cases hop
      cases v <;> simp [isNilA] at hr
      all_goals
        subst hr
        cases hv
        refine fin (fun w => ?_) (fun w => equal_of fun d => by simp [Op.equalIn, run_underlying ht, Act.eval]) hops (by rcases hops with ⟨_, rfl⟩ | ⟨_, rfl⟩ <;> rfl)
        rcases hops with ⟨_, rfl⟩ | ⟨_, rfl⟩ <;> simp [eqGuard, Act.eval]
    · rename_i b1 e hop ht
      injection hn with hn
      injection hn with e1 e2
      subst e1 e2
      have hops : b1 = false ∧ op = .eql ∨ b1 = true ∧ op = .neq := by
        split at hop
        · injection hop with hop; exact .inl ⟨hop.symm, rfl⟩
        · injection hop with hop; exact .inr ⟨hop.symm, rfl⟩
        · cases hop
      cases v
      case nils =>
        simp [isNilA] at hr
        subst hr
        cases hv
        refine fin (fun w => ?_) (fun w => equal_of fun d => by simp [Op.equalIn, run_underlying ht, Act.eval]) hops (by rcases hops with ⟨_, rfl⟩ | ⟨_, rfl⟩ <;> rfl)
        rcases hops with ⟨_, rfl⟩ | ⟨_, rfl⟩ <;> simp [eqGuard, Act.eval]
      case sl ow sz xs =>
        cases xs with
        | nil => simp [isNilA] at hr
        | cons y ys =>
          simp [isNilA] at hr
          subst hr
          cases hv
          refine fin (fun w => ?_) (fun w => equal_of fun d => by simp [Op.equalIn, run_underlying ht, Act.eval]) hops (by rcases hops with ⟨_, rfl⟩ | ⟨_, rfl⟩ <;> rfl)
          rcases hops with ⟨_, rfl⟩ | ⟨_, rfl⟩ <;> simp [eqGuard, Act.eval]
      all_goals simp [isNilA] at hr
    · rename_i b1 e e' hop ht
      injection hn with hn
      injection hn with e1 e2
      subst e1 e2
      have hops : b1 = false ∧ op = .eql ∨ b1 = true ∧ op = .neq := by
        split at hop
        · injection hop with hop; exact .inl ⟨hop.symm, rfl⟩
        · injection hop with hop; exact .inr ⟨hop.symm, rfl⟩
        · cases hop
      cases v <;> simp [isNilA] at hr
      all_goals
        subst hr
        cases hv
        refine fin (fun w => ?_) (fun w => equal_of fun d => by simp [Op.equalIn, run_underlying ht, Act.eval]) hops (by rcases hops with ⟨_, rfl⟩ | ⟨_, rfl⟩ <;> rfl)
        rcases hops with ⟨_, rfl⟩ | ⟨_, rfl⟩ <;> simp [eqGuard, Act.eval]
    · rename_i b1 e e' e'' hop ht
      injection hn with hn
      injection hn with e1 e2
      subst e1 e2
      have hops : b1 = false ∧ op = .eql ∨ b1 = true ∧ op = .neq := by
        split at hop
        · injection hop with hop; exact .inl ⟨hop.symm, rfl⟩
        · injection hop with hop; exact .inr ⟨hop.symm, rfl⟩
        · cases hop
      cases v <;> simp [isNilA] at hr
      all_goals
        subst hr
        cases hv
        refine fin (fun w => ?_) (fun w => equal_of fun d => by simp [Op.equalIn, run_underlying ht, Act.eval]) hops (by rcases hops with ⟨_, rfl⟩ | ⟨_, rfl⟩ <;> rfl)
        rcases hops with ⟨_, rfl⟩ | ⟨_, rfl⟩ <;> simp [eqGuard, Act.eval]
    · cases hn
  · exact h2.elim

theorem fieldKinds_run {xs ys : Array Value} {d : Nat} : ∀ (fs : List Field) (i : Nat) (ks : List FK) (cs ds : List A) (acc : Bool) (g : Bool → Prop), fieldKinds P i fs = some ks →
    (∀ j c, cs[j]? = some c → VR x c (xs.getD (i + j) undef)) → (∀ j c, ds[j]? = some c → VR x c (ys.getD (i + j) undef)) → i + cs.length = xs.size → i + ds.length = ys.size → eqCs ks cs ds acc g →
    ∃ b, (∀ w, (Op.eqFields (d + 1) xs ys fs).run P w = .ok b w) ∧ g (acc && b)
  | [], i, ks, cs, ds, acc, g, hk, hx, hy, hxl, hyl, h => by
    simp [fieldKinds] at hk
    subst hk
    exact ⟨true, fun w => rfl, by simpa [eqCs] using h⟩
  | f :: r, i, ks, cs, ds, acc, g, hk, hx, hy, hxl, hyl, h => by
    unfold fieldKinds at hk
    split at hk
    · rename_i hf
      obtain ⟨hoff, hname⟩ := hf
      have step : ∀ (c d' : A) (cs' ds' : List A) (l : List FK) (r0 : Bool), cs = c :: cs' → ds = d' :: ds' → fieldKinds P (i + 1) r = some l → tyAgg P f.type = some false →
          (∀ u v, VR x c u → VR x d' v → ∀ w, (Op.equalIn (d + 1) f.type u v).run P w = .ok r0 w) → eqCs l cs' ds' (acc && r0) g → ∃ b, (∀ w, (Op.eqFields (d + 1) xs ys (f :: r)).run P w = .ok b w) ∧ g (acc && b) := by
        intro c d' cs' ds' l r0 e1 e2 hl hag hrun hrest
        subst e1 e2
        have hxi := hx 0 c rfl
        have hyi := hy 0 d' rfl
        rw [Nat.add_zero] at hxi hyi
        simp only [List.length_cons] at hxl hyl
        obtain ⟨b, hb1, hb2⟩ := fieldKinds_run (d := d) r (i + 1) l cs' ds' (acc && r0) g hl (fun j q hq => by have := hx (j + 1) q hq; rwa [show i + (j + 1) = i + 1 + j by omega] at this)
          (fun j q hq => by have := hy (j + 1) q hq; rwa [show i + (j + 1) = i + 1 + j by omega] at this) (by omega) (by omega) hrest
        have px : ∀ w, (part f.type xs f.offset).run P w = .ok (xs.getD i undef) w := fun w => by
          have hq : xs[i]? = some (xs.getD i undef) := by simp [Array.getD, show i < xs.size by omega]
          simp only [part, Sem.run_bind, run_isAgg hag, Result.andThen_ok, hoff, hq]
          rfl
        have py : ∀ w, (part f.type ys f.offset).run P w = .ok (ys.getD i undef) w := fun w => by
          have hq : ys[i]? = some (ys.getD i undef) := by simp [Array.getD, show i < ys.size by omega]
          simp only [part, Sem.run_bind, run_isAgg hag, Result.andThen_ok, hoff, hq]
          rfl
        refine ⟨r0 && b, fun w => ?_, by rw [← Bool.and_assoc]; exact hb2⟩
        simp only [Op.eqFields, Sem.run_bind, if_pos hname, px, py, Result.andThen_ok, hrun _ _ hxi hyi]
        cases r0
        · simp
        · simp [hb1]
      split at hk
      · rename_i k' l hu hl
        injection hk with hk
        subst hk
        unfold eqCs at h
        split at h <;> first | (exact h.elim) | skip
        all_goals (rename_i heq; first | (cases heq; done) | skip)
        all_goals first | (injection heq with q1 q2; first | (cases q1; done) | skip) | skip
        rename_i q1 q2
        subst q2
        obtain ⟨hkk, h'⟩ := Dc.out h
        subst hkk
        exact step _ _ _ _ _ _ rfl rfl hl (by simp [tyAgg, hu, isAggD]) (fun u v hu' hv' w => by cases hu'; cases hv'; exact run_equalIn_int w _ _ _ _ _ _ hu) h'
      · rename_i l hu hl
        injection hk with hk
        subst hk
        unfold eqCs at h
        split at h <;> first | (exact h.elim) | skip
        all_goals (rename_i heq; first | (cases heq; done) | skip)
        all_goals first | (injection heq with q1 q2; first | (cases q1; done) | skip) | skip
        rename_i q1 q2
        subst q2
        exact step _ _ _ _ _ _ rfl rfl hl (by simp [tyAgg, hu, isAggD]) (fun u v hu' hv' w => by cases hu'; cases hv'; rw [run_equalIn_string w _ _ _ _ hu]; simp) h
      · rename_i l hu hl
        injection hk with hk
        subst hk
        unfold eqCs at h
        split at h <;> first | (exact h.elim) | skip
        all_goals (rename_i heq; first | (cases heq; done) | skip)
        all_goals first | (injection heq with q1 q2; first | (cases q1; done) | skip) | skip
        rename_i q1 q2
        subst q2
        exact step _ _ _ _ _ _ rfl rfl hl (by simp [tyAgg, hu, isAggD]) (fun u v hu' hv' w => by cases hu'; cases hv'; exact run_equalIn_bool' w _ _ _ _ hu) h
      · cases hk
    · cases hk

theorem Yl.eqS (hx : Rel x) (he : EnvR x env n act) {op : BinOp} {t t' : TypeId} {a b : Operand} {neg : Bool} {ks : List FK} {sa sb : Opd} (hn : eqCmp P op t = some (neg, ks)) (hca : cOpd a = some sa) (hcb : cOpd b = some sb) (ho : o.op = .binOp op t a b t')
    (h : stepO P m env x.σ (.eqS neg ks sa sb) k pk) : YlAll P x act o k := by
  obtain ⟨v, h1, h2⟩ := wi h
  obtain ⟨u, h3, h4⟩ := wi h2
  have hv := ev_vr he hca h1
  have hu := ev_vr he hcb h3
  generalize hva : act.eval a = va at hv
  generalize hvb : act.eval b = vb at hu
  split at h4
  · rename_i cs ds
    cases hv with
    | agg _ xs hl hvv =>
    cases hu with
    | agg _ ys hl' hvv' =>
    unfold eqCmp at hn
    split at hn
    · rename_i b1 fs hop ht
      split at hn
      · rename_i hg
        obtain ⟨hg1, hg2⟩ := hg
        obtain ⟨l, hl1, hl2⟩ := Option.map_eq_some_iff.1 hn
        injection hl2 with e1 e2
        subst e1 e2
        have hfs : P.fieldsOf t = fs := by simp [Program.fieldsOf, ht]
        obtain ⟨r, hr1, hr2⟩ := fieldKinds_run (P := P) (x := x) (xs := xs) (ys := ys) (d := 9998) fs.toList 0 l cs ds true _ hl1 (fun j c hj => by rw [Nat.zero_add]; exact hvv j c hj) (fun j c hj => by rw [Nat.zero_add]; exact hvv' j c hj) (by omega) (by omega) h4
        rw [Bool.true_and] at hr2
        have hrun : ∀ w, (Op.equalIn 10000 t (.agg xs) (.agg ys)).run P w = .ok r w := fun w => by
          rw [run_equalIn_agg w 9999 t xs ys (by rw [hfs]; exact ht) hg1, hfs]
          exact hr1 w
        split at hop
        · injection hop with hop
          subst hop
          exact YlAll.mk _ (.bool r) (fun w => by simp [execOp, ho, hva, hvb, run_eqGuard_agg w _ t a b xs ys hg2, run_eql_struct, hrun]) (.bool _) hr2
        · injection hop with hop
          subst hop
          exact YlAll.mk _ (.bool (!r)) (fun w => by simp [execOp, ho, hva, hvb, run_eqGuard_agg w _ t a b xs ys hg2, run_neq_struct, hrun]) (.bool _) hr2
        · cases hop
      · cases hn
    · cases hn
  · exact h4.elim


theorem bs_cells (l : List UInt8) : flat (bs l) = bs l := by
  induction l with
  | nil => rfl
  | cons b r ih => simp only [bs, List.map_cons, flat, List.flatMap_cons] at ih ⊢; rw [ih]; rfl
theorem push_mk (l : List UInt8) (b : UInt8) : (⟨l.toArray⟩ : ByteArray).push b = ⟨(l ++ [b]).toArray⟩ := by
  show (⟨l.toArray.push b⟩ : ByteArray) = _
  simp
theorem foldl_push : ∀ (l acc : List UInt8), (l.map fun b => (b.toNat : Int)).foldl (fun (r : ByteArray) n => r.push (UInt8.ofNat n.toNat)) ⟨acc.toArray⟩ = ⟨(acc ++ l).toArray⟩
  | [], acc => by simp
  | b :: r, acc => by
    rw [List.map_cons, List.foldl_cons, push_mk, foldl_push r]
    simp

theorem Yl.toStr {S : World → Prop} (hx : Rel x) (he : EnvR x env n act) {t u e : TypeId} (ht : P.underlying t = some (.slice e)) (hte : P.underlying e = some (.int .u8)) (hu : P.underlying u = some .string) {a : Operand} {sa : Opd} (hca : cOpd a = some sa)
    (ho : o.op = .convert t u a) (hS : ∀ w, S w → ∀ b k own, x.g.kind b = .row k own → ∀ j, j < k → w.cell? ⟨b, j, none⟩ = x.w.cell? ⟨b, j, none⟩) (h : stepO P m env x.σ (.toStr sa) k pk) : YlS P S x act o k := by
  obtain ⟨v, h1, h2⟩ := wi h
  have hv := ev_vr he hca h1
  generalize hev : act.eval a = va at hv
  have empty : ∀ c1 c2, va = .slice none c1 c2 → ∀ w, (execOp act.eval o).run P w = .ok (.value (.string ⟨([] : List UInt8).toArray⟩)) w := fun c1 c2 hq w => by
    simp [execOp, ho, hev, hq, run_convert_bytes_string w t u e none _ _ ht hte hu, Conv.bytesToString]
    rfl
  split at h2
  · rename_i ow sz xs
    obtain ⟨rfl, l, hxs, h3⟩ := Dc.out h2
    cases hv with
    | slnil =>
      have hl : l = [] := by
        cases l with
        | nil => rfl
        | cons b r => simp [bs] at hxs
      subst hl
      exact ⟨_, _, fun w _ => empty 0 0 rfl w, .str _, h3⟩
    | slz _ ad cap =>
      have hl : l = [] := by
        cases l with
        | nil => rfl
        | cons b r => simp [bs] at hxs
      subst hl
      cases ad with
      | none => exact ⟨_, _, fun w _ => empty 0 cap rfl w, .str _, h3⟩
      | some a =>
        refine ⟨_, .string ⟨([] : List UInt8).toArray⟩, fun w hw => ?_, .str _, h3⟩
        simp only [execOp, ho, hev, Sem.run_bind, run_convert_bytes_string w t u e _ _ _ ht hte hu]
        rw [run_bytesToString (P := P) w a 0 cap [] rfl]
        simp only [Result.andThen_ok, Sem.run_pure]
        rfl
    | sl _ _ _ cs b off cap k' own vs hcs hsz hcap hk hc hvv hoo =>
      subst hcs hxs
      rw [bs_cells] at hc hvv
      have hbl : (bs l).length = l.length := by simp [bs]
      have hval : ∀ j, j < l.length → vs j = .int .u8 ((l.getD j 0).toNat : Int) := fun j hj => by
        have := hvv j (.int .u8 ((l.getD j 0).toNat : Int)) (by simp [bs, hj])
        generalize vs j = q at this
        cases this
        rfl
      refine ⟨_, .string ⟨l.toArray⟩, fun w hw => ?_, .str _, h3⟩
      have hld : (loadCells ⟨b, off, none⟩ l.length).run P w = .ok ((l.map fun b => (b.toNat : Int)).map (Value.int .u8)).toArray w := by
        rw [run_loadCells (P := P) w ⟨b, off, none⟩ l.length vs (fun j hj => by
          rw [add_lit]
          have hne : flat (bs l) ≠ [] := by rw [bs_cells]; intro q; rw [q] at hbl; simp at hbl; omega
          obtain ⟨hk1, hk2⟩ := hk hne
          rw [bs_cells, hbl] at hk2
          rw [hS w hw b k' own hk1 (off + j) (by omega)]
          exact hc j (by omega))]
        congr 1
        congr 1
        refine List.ext_getElem? fun j => ?_
        by_cases hj : j < l.length
        · simp [hj, hval j hj]
        · simp [hj, Nat.le_of_not_lt hj]
      have hlen : (bs l).length = l.length := hbl
      simp only [execOp, ho, hev, Sem.run_bind, run_convert_bytes_string w t u e _ _ _ ht hte hu]
      rw [run_bytesToString (P := P) w ⟨b, off, none⟩ (bs l).length cap (l.map fun b => (b.toNat : Int)) (by rw [hbl]; exact hld)]
      have := foldl_push l []
      simp only [List.nil_append] at this
      simp only [Result.andThen_ok, Sem.run_pure]
      rw [show ByteArray.empty = (⟨([] : List UInt8).toArray⟩ : ByteArray) from rfl, this]
  · cases hv
    exact ⟨_, _, fun w _ => empty 0 0 rfl w, .str _, h2⟩
  · exact h2.elim

/-- A part of a slice. -/
theorem sl_part {ow ow' : Own} {sz : Nat} {xs : List A} {base : Option Addr} {cap l h mm : Nat} (hv : VR x (.sl ow sz xs) (.slice base xs.length cap)) (hlh : l ≤ h) (hhm : h ≤ mm) (hh : h ≤ xs.length) (hmc : mm ≤ cap) (hpos : 0 < sz)
    (ho : ow' = .no ∨ ow' = .full ∧ mm = h ∧ 0 < mm) : VR x (.sl ow' sz ((xs.take h).drop l)) (.slice (if mm = l then base else base.map (·.add (l * sz))) (h - l) (mm - l)) := by
  have hlen : ((xs.take h).drop l).length = h - l := by simp; omega
  have hown : ∀ b o, OwnOk x b o (h - l) sz (mm - l) ow' := fun b o => by
    rcases ho with rfl | ⟨rfl, rfl, _⟩
    · trivial
    · rfl
  generalize hva : Value.slice base xs.length cap = va at hv
  cases hv with
  | slnil =>
    injection hva with e1 e2 e3
    subst e1 e3
    have : (List.drop l (List.take h ([] : List A))) = [] := by simp
    simp at hh
    obtain rfl : h = 0 := by omega
    obtain rfl : l = 0 := by omega
    obtain rfl : mm = 0 := by omega
    simpa using VR.slnil (x := x) ow' sz (hown 0 0)
  | slz _ ad cap' =>
    injection hva with e1 e2 e3
    subst e1 e3
    simp at hh
    obtain rfl : h = 0 := by omega
    obtain rfl : l = 0 := by omega
    rcases ho with rfl | ⟨_, h1, h2⟩
    · simpa using VR.slz (x := x) sz _ _
    · omega
  | sl _ _ _ cs b off cap' k' own vs hcs hsz hcap hk hc hvv hoo =>
    injection hva with e1 e2 e3
    subst e1 e3 hcs
    have hfl := flat_length hsz
    have hsz' : ∀ e ∈ (xs.take h).drop l, e.cells.length = sz := fun e he => hsz e (List.mem_of_mem_take (List.mem_of_mem_drop he))
    have hfl' := flat_length hsz'
    rw [hlen] at hfl'
    have hmul : h * sz ≤ xs.length * sz := Nat.mul_le_mul_right _ hh
    have hsub : (h - l) * sz = h * sz - l * sz := Nat.sub_mul _ _ _
    have hlmul : l * sz ≤ h * sz := Nat.mul_le_mul_right _ hlh
    have hat : ∀ j, j < (h - l) * sz → (flat ((xs.take h).drop l))[j]? = (flat xs)[l * sz + j]? := fun j hj => by
      have hd : j / sz < h - l := (Nat.div_lt_iff_lt_mul hpos).2 hj
      have hmod := Nat.mod_lt j hpos
      have hjd : j = j / sz * sz + j % sz := by rw [Nat.mul_comm]; exact (Nat.div_add_mod j sz).symm
      obtain ⟨e, hee⟩ : ∃ e, xs[l + j / sz]? = some e := ⟨_, List.getElem?_eq_getElem (by omega)⟩
      have hee' : ((xs.take h).drop l)[j / sz]? = some e := by
        rw [List.getElem?_drop, List.getElem?_take_of_lt (by omega)]
        exact hee
      rw [hjd, flat_at hsz' hee' hmod, show l * sz + (j / sz * sz + j % sz) = (l + j / sz) * sz + j % sz by rw [Nat.add_mul]; omega, flat_at hsz hee hmod]
    have hb : (if mm = l then some (⟨b, off, none⟩ : Addr) else (some (⟨b, off, none⟩ : Addr)).map (·.add (l * sz))) = some ⟨b, if mm = l then off else off + l * sz, none⟩ := by
      split
      · rfl
      · simp [add_lit]
    rw [hb, ← hlen]
    refine .sl ow' sz _ _ b _ (mm - l) k' own (fun j => vs (l * sz + j)) rfl hsz' (by omega) (fun hne => ?_) (fun j hj => ?_) (fun j c hj => ?_) (by rw [hlen]; exact hown _ _)
    · have hpl : 0 < (h - l) * sz := by
        rcases Nat.eq_zero_or_pos ((h - l) * sz) with q | q
        · exact absurd (List.eq_nil_of_length_eq_zero (by omega)) hne
        · exact q
      have hl' : l < h := by
        rcases Nat.lt_or_ge l h with q | q
        · exact q
        · rw [Nat.sub_eq_zero_of_le q, Nat.zero_mul] at hpl; omega
      obtain ⟨hk1, hk2⟩ := hk (by intro q; rw [q] at hfl; simp at hfl; omega)
      refine ⟨hk1, ?_⟩
      rw [if_neg (by omega)]
      omega
    · rw [hfl'] at hj
      have hl' : l < h := by
        rcases Nat.lt_or_ge l h with q | q
        · exact q
        · rw [Nat.sub_eq_zero_of_le q, Nat.zero_mul] at hj; omega
      rw [if_neg (by omega), Nat.add_assoc]
      exact hc _ (by omega)
    · have hj' : j < (h - l) * sz := by
        rcases Nat.lt_or_ge j ((h - l) * sz) with q | q
        · exact q
        · rw [List.getElem?_eq_none (by omega)] at hj; cases hj
      rw [hat j hj'] at hj
      exact hvv _ c hj

theorem slBounds3_ok {lo hi mx : Option Operand} {slo shi smx : Option Opd} (he : EnvR x env n act) (hlo : cOpt lo = some slo) (hhi : cOpt hi = some shi) (hmx : cOpt mx = some smx) {l u mm : Option A} (hel : evo env slo = some l) (heu : evo env shi = some u) (hem : evo env smx = some mm)
    {len cap : Nat} (hcap : len ≤ cap) {g : Nat → Nat → Own → Prop} (h : slBounds3 len l u mm g) :
    ∃ i j z ow, i ≤ j ∧ j ≤ z ∧ j ≤ len ∧ z ≤ cap ∧ (ow = .no ∨ ow = .full ∧ z = j ∧ 0 < z) ∧ (∀ w, (Instr.sliceBounds true len cap (lo.map act.eval) (hi.map act.eval) (mx.map act.eval)).run P w = .ok (i, j, z) w) ∧ g i j ow := by
  have vl := evo_vr he hlo hel
  have vu := evo_vr he hhi heu
  have vm := evo_vr he hmx hem
  unfold slBounds3 at h
  split at h
  · unfold slBounds at h
    split at h
    · exact ⟨0, len, cap, .no, Nat.zero_le _, hcap, Nat.le_refl _, Nat.le_refl _, .inl rfl, fun w => by rw [vl, vu, vm]; simp [Instr.sliceBounds], h⟩
    · obtain ⟨g1, g2, g3⟩ := h
      obtain ⟨w1, q1, q2⟩ := vl
      cases q2
      exact ⟨_, len, cap, .no, by omega, hcap, Nat.le_refl _, Nat.le_refl _, .inl rfl, fun w => by rw [q1, vu, vm]; simp [Instr.sliceBounds, run_bound g1 g2], g3⟩
    · obtain ⟨g1, g2, g3⟩ := h
      obtain ⟨w1, q1, q2⟩ := vu
      cases q2
      rename_i kk ii
      exact ⟨0, _, cap, .no, Nat.zero_le _, by omega, by omega, Nat.le_refl _, .inl rfl, fun w => by rw [q1, vl, vm]; simp [Instr.sliceBounds, run_bound g1 (show ii ≤ (cap : Int) by omega)], g3⟩
    · obtain ⟨g1, g2, g3, g4, g5⟩ := h
      obtain ⟨w1, q1, q2⟩ := vu
      cases q2
      obtain ⟨w2, q3, q4⟩ := vl
      cases q4
      rename_i k1 i1 k2 j1
      exact ⟨_, _, cap, .no, by omega, by omega, by omega, Nat.le_refl _, .inl rfl, fun w => by rw [q1, q3, vm]; simp [Instr.sliceBounds, run_bound g1 (show j1 ≤ (cap : Int) by omega), run_bound g3 (show i1 ≤ (j1.toNat : Int) by omega)], g5⟩
    · exact h.elim
  · rename_i kz z
    obtain ⟨g1, g2, g3⟩ := h
    obtain ⟨w0, q0, q0'⟩ := vm
    cases q0'
    split at g3
    · rename_i kk ii
      obtain ⟨g4, g5, g6⟩ := g3
      obtain ⟨w1, q1, q2⟩ := vu
      cases q2
      refine ⟨0, _, z.toNat, _, Nat.zero_le _, by omega, by omega, by omega, ?_, fun w => by rw [q0, q1, vl]; simp [Instr.sliceBounds, run_bound g1 (show z ≤ (cap : Int) by omega), run_bound g4 (show ii ≤ (z.toNat : Int) by omega)], g6⟩
      split
      · rename_i hz; exact .inr ⟨rfl, by rw [hz.1], by omega⟩
      · exact .inl rfl
    · rename_i k1 i1 k2 j1
      obtain ⟨g4, g5, g6, g7, g8⟩ := g3
      obtain ⟨w1, q1, q2⟩ := vu
      cases q2
      obtain ⟨w2, q3, q4⟩ := vl
      cases q4
      refine ⟨_, _, z.toNat, _, by omega, by omega, by omega, by omega, ?_, fun w => by rw [q0, q1, q3]; simp [Instr.sliceBounds, run_bound g1 (show z ≤ (cap : Int) by omega), run_bound g4 (show j1 ≤ (z.toNat : Int) by omega), run_bound g6 (show i1 ≤ (j1.toNat : Int) by omega)], g8⟩
      split
      · rename_i hz; exact .inr ⟨rfl, by rw [hz.1], by omega⟩
      · exact .inl rfl
    · exact g3.elim
  · exact h.elim

theorem Yl.sliceSl (hx : Rel x) (he : EnvR x env n act) {t e : TypeId} {sz : Nat} (ht : P.underlying t = some (.slice e)) (hs : tySz P e = some sz) (hpos : 0 < sz) {a : Operand} {lo hi mx : Option Operand} {sa : Opd} {slo shi smx : Option Opd} (hca : cOpd a = some sa) (hlo : cOpt lo = some slo) (hhi : cOpt hi = some shi) (hmx : cOpt mx = some smx)
    (ho : o.op = .slice t a lo hi mx) (h : stepO P m env x.σ (.sliceSl sz sa slo shi smx) k pk) : YlAll P x act o k := by
  obtain ⟨v, h1, h2⟩ := wi h
  have hv := ev_vr he hca h1
  generalize hev : act.eval a = va at hv
  split at h2
  · rename_i l u mm hel heu hem
    have run : ∀ base len cap i j z, va = .slice base len cap → (∀ w, (Instr.sliceBounds true len cap (lo.map act.eval) (hi.map act.eval) (mx.map act.eval)).run P w = .ok (i, j, z) w) →
        ∀ w, (execOp act.eval o).run P w = .ok (.value (.slice (if z = i then base else base.map (·.add (i * sz))) (j - i) (z - i))) w := fun base len cap i j z hq hb w => by
      simp only [execOp, ho, hev, hq, Instr.sliceAt, Sem.run_bind, run_underlying ht, Result.andThen_ok, Instr.slice, hb, run_sizeOf' hs, Sem.run_pure]
    split at h2
    · rename_i ow s xs
      obtain ⟨rfl, h3⟩ := Dc.out h2
      have hv' := hv
      obtain ⟨base, cap, olds, rfl, hcap, _⟩ := hv'.sl_inv
      obtain ⟨i, j, z, ow', b1, b2, b3, b4, b5, b6, b7⟩ := slBounds3_ok (P := P) he hlo hhi hmx hel heu hem hcap h3
      exact YlAll.mk _ _ (run _ _ _ _ _ _ rfl b6) (sl_part hv b1 b2 b3 b4 hpos b5) b7
    · cases hv
      obtain ⟨i, j, z, ow', b1, b2, b3, b4, b5, b6, b7⟩ := slBounds3_ok (P := P) he hlo hhi hmx hel heu hem (Nat.le_refl 0) h2
      obtain rfl : j = 0 := by omega
      obtain rfl : i = 0 := by omega
      obtain rfl : z = 0 := by omega
      exact YlAll.mk _ _ (run _ _ _ _ _ _ rfl b6) (by simpa using VR.nils (x := x)) b7
    · exact h2.elim
  · exact h2.elim

end
end Go.Proofs.YtkpijfgananjjaaDoor.Ga
