/- A deferred closure; a panic that it recovers. -/
import Derived.Test.YtjeccchbeflddaaDoorGa13
import Derived.Defers
import Derived.Recover
set_option linter.unusedVariables false
set_option linter.unusedSimpArgs false
namespace Go.Proofs.YtjeccchbeflddaaDoor.Ga

def keepSlots (prot : List Nat) : Code → Bool
  | .region _ ops _ => ops.toList.all fun o => match o.dst with | none => true | some d => !(prot.contains d)
  | .seq a b => keepSlots prot a && keepSlots prot b
  | .cond _ a b => keepSlots prot a && keepSlots prot b
  | .block _ a => keepSlots prot a
  | .loop a => keepSlots prot a
  | _ => true

/-- A frame whose deferred calls and some of whose slots are known. -/
def FrameIs (l : List Deferred) (n : Nat) (prot : List Nat) (pv : Nat → Value) (a : Act) : Prop := a.defers = l ∧ a.tmps.size = n ∧ ∀ t ∈ prot, a.tmps.getD t undef = pv t

theorem frameIs_put {l : List Deferred} {n : Nat} {prot : List Nat} {pv : Nat → Value} {a : Act} {d : Option Nat} {v : Value} (h : ∀ t, d = some t → t ∉ prot) : FrameIs l n prot pv (a.put d v) ↔ FrameIs l n prot pv a := by
  cases d with
  | none => exact Iff.rfl
  | some d =>
    have hne : ∀ t ∈ prot, (a.tmps.setIfInBounds d v).getD t undef = a.tmps.getD t undef := fun t ht => by
      have : d ≠ t := fun q => h d rfl (q ▸ ht)
      exact arr_getD (Array.getElem?_setIfInBounds_ne this)
    show (a.defers = l ∧ (a.tmps.setIfInBounds d v).size = n ∧ ∀ t ∈ prot, (a.tmps.setIfInBounds d v).getD t undef = pv t) ↔ _
    rw [Array.size_setIfInBounds]
    exact ⟨fun ⟨h1, h2, h3⟩ => ⟨h1, h2, fun t ht => (hne t ht).symm.trans (h3 t ht)⟩, fun ⟨h1, h2, h3⟩ => ⟨h1, h2, fun t ht => (hne t ht).trans (h3 t ht)⟩⟩

theorem stab_slots (l : List Deferred) (n : Nat) (prot : List Nat) (pv : Nat → Value) : ∀ c, keepSlots prot c = true → Stab (FrameIs l n prot pv) c
  | .region _ ops _, h => fun o ho a v => frameIs_put fun t ht hm => by
    have := List.all_eq_true.1 h o ho
    rw [ht] at this
    simp at this
    exact this hm
  | .seq a b, h => by simp only [keepSlots, Bool.and_eq_true] at h; exact ⟨stab_slots l n prot pv a h.1, stab_slots l n prot pv b h.2⟩
  | .cond _ a b, h => by simp only [keepSlots, Bool.and_eq_true] at h; exact ⟨stab_slots l n prot pv a h.1, stab_slots l n prot pv b h.2⟩
  | .block _ a, h => stab_slots l n prot pv a h
  | .loop a, h => stab_slots l n prot pv a h
  | .skip, _ => trivial
  | .exit _, _ => trivial
  | .goto _, _ => trivial
  | .ret, _ => trivial
  | .rangeFunc _ _ _ _, _ => trivial
  | .scope _, _ => trivial
  | .label _, _ => trivial
  | .refuse _, _ => trivial

/-- A deferred closure, the frame below being on its way back; being in a panic of the value a (which it recovers). -/
def ADRet (P : Program) (g : FuncId) (args : List A) (σ : St) (m : Nat → Nat → Prop) (R : St → Prop) : Prop :=
  ∀ (x : X) (vs : List Value), Rel x → x.σ = σ → vs.length = args.length → (∀ (j : Nat) (a : A), args[j]? = some a → VR x a (vs.getD j undef)) →
    CallsD P g vs.toArray .returning x.w fun e u' w' => u' = .returning ∧ ∃ (v : Value) (y : X), e = .returned v ∧ y.w = w' ∧ Evol m x y ∧ Rel y ∧ R y.σ
def ADPan (P : Program) (g : FuncId) (args : List A) (a : A) (σ : St) (m : Nat → Nat → Prop) (R : St → Prop) : Prop :=
  ∀ (x : X) (vs : List Value) (v : Value), Rel x → x.σ = σ → vs.length = args.length → (∀ (j : Nat) (a : A), args[j]? = some a → VR x a (vs.getD j undef)) → VR x a v →
    CallsD P g vs.toArray (.panicking [{ v, recovered := false }]) x.w fun e u' w' => u' = .panicking [{ v, recovered := true }] ∧ ∃ (v' : Value) (y : X), e = .returned v' ∧ y.w = w' ∧ Evol m x y ∧ Rel y ∧ R y.σ

/-- What is asked at the end of a body that has deferred a closure. -/
def defQ (P : Program) (m : Nat → Nat → Prop) (g : FuncId) (l : List A) (envp : Env) (srs : List SRes) (R : AEnd → St → Prop) : Post
  | .normal, _, σ | .ret, _, σ => ∃ Rr, ADRet P g l σ m Rr ∧ ∀ σ', Kept m σ σ' → Rr σ' → resList envp σ' srs fun l' => R (.ret (oneOf l')) σ'
  | .panic a, _, σ => ∃ Rr, ADPan P g l a σ m Rr ∧ ∀ σ', Kept m σ σ' → Rr σ' → resList envp σ' srs fun l' => R (.ret (oneOf l')) σ'
  | .exit _, _, _ => False

section
variable {P : Program} {m : Nat → Nat → Prop}

/-- What a contract says of the model's run. -/
def Lifted (m : Nat → Nat → Prop) (x : X) (R : AEnd → St → Prop) (e : Ending) (w' : World) : Prop := ∃ y : X, y.w = w' ∧ Evol m x y ∧ Rel y ∧ ∃ ae, EndR y ae e ∧ R ae y.σ

theorem leave_plain {fn : Func} {srs : List SRes} (hr : cRes P fn.results.toList = some srs) {x x0 : X} (h0 : Evol m x0 x) {R : AEnd → St → Prop} : ∀ e act w, lift m x fn.ntmps (fun a => a.defers = []) (retQ srs R) e act w → bodyPostD P fn (Lifted m x0 R) e act w
  | .normal, act, w, ⟨y, h1, h2, h3, h4, env, h5, h6⟩ => by
    subst h1
    obtain ⟨a, v, r1, r2, r3⟩ := results_one h3 h5 hr h6
    show Leaves P fn act.tmps _ act.defers .returning y.w
    rw [show act.defers = [] from h4]
    exact ⟨v, r1, y, rfl, h0.trans h2 (fun _ _ _ q => q) (fun _ _ _ q => q), h3, .ret a, ⟨v, rfl, r2⟩, r3⟩
  | .ret, act, w, ⟨y, h1, h2, h3, h4, env, h5, h6⟩ => by
    subst h1
    obtain ⟨a, v, r1, r2, r3⟩ := results_one h3 h5 hr h6
    show Leaves P fn act.tmps _ act.defers .returning y.w
    rw [show act.defers = [] from h4]
    exact ⟨v, r1, y, rfl, h0.trans h2 (fun _ _ _ q => q) (fun _ _ _ q => q), h3, .ret a, ⟨v, rfl, r2⟩, r3⟩
  | .panic ch, act, w, ⟨y, h1, h2, h3, h4, a, v, h5, h6, h7⟩ => by
    subst h1
    show Leaves P fn act.tmps _ act.defers (.panicking ch) y.w
    rw [show act.defers = [] from h4]
    exact ⟨y, rfl, h0.trans h2 (fun _ _ _ q => q) (fun _ _ _ q => q), h3, .pan a, ⟨v, by rw [h5], h6⟩, h7⟩
  | .exit _, _, _, ⟨_, _, _, _, _, _, _, h⟩ => h.elim
  | .goto _, _, _, h => h.elim
  | .outgrown, _, _, h => h.elim

theorem get_mem : ∀ {e : Env} {t : Nat} {a : A}, get e t = some a → t ∈ e.map (·.1)
  | [], t, a, h => by simp [get] at h
  | (k, b) :: r, t, a, h => by
    simp only [get] at h
    split at h
    · rename_i q; subst q; simp
    · exact List.mem_cons_of_mem _ (get_mem h)

theorem leave_defer {fn : Func} {srs : List SRes} (hr : cRes P fn.results.toList = some srs) {x x0 xd : X} (h0 : Evol m x0 x) {R : AEnd → St → Prop} {g : FuncId} {l : List A} {envp : Env} {caps : Array Value} (hg : callable P g = true)
    (hxd : Rel xd) (hx : Rel x) (hcl : caps.size = l.length) (hcv : ∀ (j : Nat) (c : A), l[j]? = some c → VR xd c (caps.getD j undef)) (hdx : Evol m xd x) (pv : Nat → Value) (hpv : ∀ t a, get envp t = some a → VR xd a (pv t)) :
    ∀ e act w, lift m x fn.ntmps (FrameIs [{ target := .fn (.func g) caps, args := #[] }] fn.ntmps (envp.map (·.1)) pv) (defQ P m g l envp srs R) e act w → bodyPostD P fn (Lifted m x0 R) e act w := by
  have base : ∀ (y z : X) (act : Act), Evol m x y → Rel y → Rel x → Evol m y z → Rel z → FrameIs [{ target := .fn (.func g) caps, args := #[] }] fn.ntmps (envp.map (·.1)) pv act → EnvR z envp fn.ntmps act := fun y z act h1 h2 hx h3 h4 hf =>
    ⟨hf.2.1, fun t a ht => by
      rw [hf.2.2 t (get_mem ht)]
      exact (((hpv t a ht).evol hdx hxd).evol h1 hx).evol h3 h2⟩
  have hi : ∀ w, (invoke (.fn (.func g) caps) #[]).run P w = .ok (.enter g caps) w := fun w => by
    simp only [invoke, Array.empty_append]
    exact run_callFunc hg _ _
  have hvs : ∀ y, Evol m x y → Rel x → ∀ (j : Nat) (c : A), l[j]? = some c → VR y c (caps.toList.getD j undef) := fun y hy hx j c hj => by
    have := ((hcv j c hj).evol hdx hxd).evol hy hx
    rwa [arr_getD_list (a := caps) (b := caps.toList) (i := j) (j := j) (by simp)] at this
  have ret : ∀ (y : X) (act : Act), Evol m x y → Rel y → FrameIs [{ target := .fn (.func g) caps, args := #[] }] fn.ntmps (envp.map (·.1)) pv act →
      (∃ Rr, ADRet P g l y.σ m Rr ∧ ∀ σ', Kept m y.σ σ' → Rr σ' → resList envp σ' srs fun l' => R (.ret (oneOf l')) σ') → Leaves P fn act.tmps (Lifted m x0 R) act.defers .returning y.w := by
    intro y act h2 h3 hf ⟨Rr, hA, hK⟩
    rw [hf.1]
    refine leaves_cons (by simp) (hi y.w) ?_
    refine CallsD.mono (hA y caps.toList h3 rfl (by simpa using hcl) (hvs y h2 hx)) ?_
    rintro e u' w' ⟨rfl, v, z, rfl, rfl, z1, z2, z3⟩
    obtain ⟨a, v', r1, r2, r3⟩ := results_one z2 (base y z act h2 h3 hx z1 z2 hf) hr (hK z.σ z1.kept z3)
    exact ⟨v', r1, z, rfl, (h0.trans h2 (fun _ _ _ q => q) (fun _ _ _ q => q)).trans z1 (fun _ _ _ q => q) (fun _ _ _ q => q), z2, .ret a, ⟨v', rfl, r2⟩, r3⟩
  intro e act w hq
  cases e with
  | normal => obtain ⟨y, rfl, h2, h3, h4, env, h5, h6⟩ := hq; exact ret y act h2 h3 h4 h6
  | ret => obtain ⟨y, rfl, h2, h3, h4, env, h5, h6⟩ := hq; exact ret y act h2 h3 h4 h6
  | panic ch =>
    obtain ⟨y, rfl, h2, h3, h4, a, v, rfl, h6, Rr, hA, hK⟩ := hq
    show Leaves P fn act.tmps _ act.defers (.panicking _) y.w
    rw [h4.1]
    refine leaves_cons (by simp) (hi y.w) ?_
    refine CallsD.mono (hA y caps.toList v h3 rfl (by simpa using hcl) (hvs y h2 hx) h6) ?_
    rintro e u' w' ⟨rfl, v1, z, rfl, rfl, z1, z2, z3⟩
    obtain ⟨a, v', r1, r2, r3⟩ := results_one z2 (base y z act h2 h3 hx z1 z2 h4) hr (hK z.σ z1.kept z3)
    exact ⟨v', r1, z, rfl, (h0.trans h2 (fun _ _ _ q => q) (fun _ _ _ q => q)).trans z1 (fun _ _ _ q => q) (fun _ _ _ q => q), z2, .ret a, ⟨v', rfl, r2⟩, r3⟩
  | exit id => obtain ⟨_, _, _, _, _, _, _, h⟩ := hq; exact h.elim
  | goto l => exact hq.elim
  | outgrown => exact hq.elim

/-- A FUNCTION THAT DEFERS A CLOSURE: its contract. -/
theorem acalls_defer (hm : P.follows .mixedOrders = true) {f : FuncId} {fn : Func} {c1 c2 c4 : Code} {s1 s2 s4 : SCode} {srs : List SRes} {id : Nat} {ops : Array Oper} {o1 o2 : Oper} {g : FuncId} {t : Nat} {first caps : Array Operand} {ts : Array TypeId} {scaps : List Opd}
    (hf : P.funcs[f]? = some fn) (hb : fn.body = some (.seq c1 (.seq c2 (.seq (.region id ops false) c4)))) (h1 : cCode P fn.ntmps c1 = some s1) (h2 : cCode P fn.ntmps c2 = some s2) (h4 : cCode P fn.ntmps c4 = some s4)
    (hr : cRes P fn.results.toList = some srs) (hops : ops.toList = [o1, o2]) (ho1 : o1.op = .makeFunc (.func g) first caps) (hfst : first.size = 0) (hg1 : o1.guard = none) (hd1 : o1.dst = some t) (ht : t < fn.ntmps) (hcaps : cOpds caps.toList = some scaps)
    (ho2 : o2.op = .defer { callee := .value (.tmp t), args := #[], argTypes := ts }) (hg2 : o2.guard = none) (hd2 : o2.dst = none) (hcall : callable P g = true)
    {args : List A} {σ : St} {R : AEnd → St → Prop} (hargs : args.length ≤ fn.ntmps) (envp : Env) (hkeep : keepSlots (envp.map (·.1)) c4 = true) (htn : t ∉ envp.map (·.1))
    (h : wpC P m s1 (envOf 0 args) σ (thenQ (fun env σ1 => wpC P m s2 env σ1 (thenQ (fun env σ2 => EnvSub envp env ∧ ∃ l, evs env scaps = some l ∧ wpC P m s4 (put env (some t) (.clos g l)) σ2 (defQ P m g l envp srs R)) (retQ srs R))) (retQ srs R))) :
    ACalls P f args σ m R := by
  intro x vs hx hσ hl hv
  refine calls_of_wp_defers (R := Lifted m x R) hf hb ?_
  have hargs' : vs.length ≤ fn.ntmps := by rw [hl]; exact hargs
  have he : EnvR x (envOf 0 args) fn.ntmps { tmps := vs.toArray ++ Array.replicate (fn.ntmps - vs.toArray.size) undef, defers := [] } := by
    refine ⟨by simp; omega, fun t a ht => ?_⟩
    obtain ⟨_, q⟩ := envOf_get args 0 t a ht
    rw [Nat.sub_zero] at q
    have hlt : t < vs.length := by
      rcases Nat.lt_or_ge t args.length with q' | q'
      · omega
      · rw [List.getElem?_eq_none q'] at q; cases q
    have := hv t a q
    rwa [← arr_getD_list (a := vs.toArray ++ Array.replicate (fn.ntmps - vs.toArray.size) undef) (b := vs) (i := t) (j := t) (by rw [Array.getElem?_append_left (by simpa using hlt)]; simp)] at this
  refine wp_seq (wp_mono (cCode_sound (m := m) hm c1 s1 h1 (envOf 0 args) σ _ h x _ (fun a => a.defers = []) (stab_defers [] c1) hσ hx he rfl) fun e act w hq => ?_)
  cases e with
  | exit id => obtain ⟨_, _, _, _, _, _, _, h⟩ := hq; exact h.elim
  | goto l => exact hq.elim
  | outgrown => exact hq.elim
  | ret => exact leave_plain hr (Evol.refl hx) .ret act w hq
  | panic ch => exact leave_plain hr (Evol.refl hx) (.panic ch) act w hq
  | normal =>
    obtain ⟨y, rfl, q2, q3, q4, env, q5, q6⟩ := hq
    refine wp_seq (wp_mono (cCode_sound (m := m) hm c2 s2 h2 env y.σ _ q6 y act (fun a => a.defers = []) (stab_defers [] c2) rfl q3 q5 q4) fun e act2 w hq2 => ?_)
    cases e with
    | exit id => obtain ⟨_, _, _, _, _, _, _, h⟩ := hq2; exact h.elim
    | goto l => exact hq2.elim
    | outgrown => exact hq2.elim
    | ret => exact leave_plain hr q2 .ret act2 w hq2
    | panic ch => exact leave_plain hr q2 (.panic ch) act2 w hq2
    | normal =>
      obtain ⟨z, rfl, z2, z3, z4, env2, z5, hsub, l, hl', hw⟩ := hq2
      obtain ⟨k1, k2⟩ := evs_vr z5 hcaps hl'
      have hcv : ∀ (j : Nat) (c : A), l[j]? = some c → VR z c ((caps.map act2.eval).getD j undef) := fun j c hj => by
        have := k2 j c hj
        rwa [← arr_getD_list (a := caps.map act2.eval) (b := caps.toList.map act2.eval) (i := j) (j := j) (by simp)] at this
      obtain rfl : first = #[] := Array.eq_empty_of_size_eq_zero hfst
      refine wp_seq (wp_region_list ?_)
      rw [hops]
      unfold wpList
      rw [if_pos (by simp [Region.wanted, hg1])]
      left
      unfold Oper.wp
      rw [show (execOp act2.eval o1).run P z.w = .ok (.value (.func (.func g) #[] (caps.map act2.eval))) z.w by simp [execOp, ho1, Instr.makeFunc]]
      show wpList P ops _ [o2] (act2.put o1.dst _) z.w
      unfold wpList
      rw [if_pos (by simp [Region.wanted, hg2])]
      left
      unfold Oper.wp
      have hev : (act2.put o1.dst (.func (.func g) #[] (caps.map act2.eval))).tmps.getD t undef = .func (.func g) #[] (caps.map act2.eval) := by
        rw [hd1]
        have : t < act2.tmps.size := by rw [z5.1]; exact ht
        simp [Act.put, Array.getD, this]
      rw [show (execOp (act2.put o1.dst (.func (.func g) #[] (caps.map act2.eval))).eval o2).run P z.w = .ok (.defer { target := .fn (.func g) (caps.map act2.eval), args := #[] }) z.w by
        simp only [execOp, ho2, resolve, Act.eval, hev, Deferred.ofValue, Sem.run_bind, Sem.run_pure, Result.andThen_ok, Array.empty_append]
        simp]
      have hd : (act2.put o1.dst (.func (.func g) #[] (caps.map act2.eval))).defers = [] := by rw [hd1]; exact z4
      have hsize : (act2.put o1.dst (.func (.func g) #[] (caps.map act2.eval))).tmps.size = fn.ntmps := by rw [hd1]; simp [Act.put, z5.1]
      have henv : EnvR z (put env2 (some t) (.clos g l)) fn.ntmps (act2.put o1.dst (.func (.func g) #[] (caps.map act2.eval))) := by
        rw [hd1]
        exact z5.put (some t) (fun d q => by injection q with q; omega) (.clos g l _ (by simpa using k1) hcv)
      have hxz : Evol m x z := q2.trans z2 (fun _ _ _ q => q) (fun _ _ _ q => q)
      rw [Oper.upon_defer, hd2]
      show Code.wp P c4 _ { (act2.put o1.dst (.func (.func g) #[] (caps.map act2.eval))) with defers := _ } z.w
      rw [hd]
      refine wp_mono (cCode_sound (m := m) hm c4 s4 h4 _ z.σ _ hw z _ (FrameIs [{ target := .fn (.func g) (caps.map act2.eval), args := #[] }] fn.ntmps (envp.map (·.1)) (fun t => act2.tmps.getD t undef)) (stab_slots _ _ _ _ c4 hkeep) rfl z3 ⟨henv.1, henv.2⟩ ⟨rfl, hsize, fun t' ht' => ?_⟩)
        (leave_defer hr hxz hcall z3 z3 (by simpa using k1) hcv (Evol.refl z3) _ (fun t' a ha => z5.2 t' a (hsub.out t' a ha)))
      have hne : t ≠ t' := fun q => htn (q ▸ ht')
      rw [hd1]
      show (act2.tmps.setIfInBounds t _).getD t' undef = _
      exact arr_getD (Array.getElem?_setIfInBounds_ne hne)

theorem opsS_of_list {ops : Array Oper} {Q : Exit → Act → List Frame → World → Prop} {cs : List Frame} (hno : ∀ a w, ¬ Q .outgrown a cs w) : ∀ (l : List Oper) (k : Nat), (∀ j, l[j]? = ops[k + j]?) → ∀ (a : Act) (w : World),
    wpList P ops (fun e a' w' => Q e a' cs w') l a w → wpOpsS P ops Q (List.range' k l.length) a cs w
  | [], k, _, a, w, h => by simpa [wpOpsS, wpList] using h
  | o :: l, k, h, a, w, hw => by
    have h0 : ops[k]? = some o := by simpa using (h 0).symm
    have ih := opsS_of_list hno l (k + 1) (fun j => by have := h (j + 1); simpa [Nat.add_assoc, Nat.add_comm 1 j] using this)
    simp only [List.length_cons, List.range'_succ, wpOpsS, h0]
    unfold wpList at hw
    split at hw
    · rename_i hwant
      rw [if_pos hwant]
      rcases hw with hw | ⟨_, a0, w0, hq⟩
      · have hw' : o.wp P a w (fun a' w' => wpOpsS P ops Q (List.range' (k + 1) l.length) a' cs w') (fun e a' w' => Q e a' cs w') := Oper.wp_mono (fun a' w' q => ih a' w' q) hw
        unfold Oper.wp at hw'
        generalize (execOp a.eval o).run P w = r at hw' ⊢
        split
        · exact hw'.elim
        · exact hw'
      · exact absurd hq (hno _ _)
    · rename_i hwant
      rw [if_neg hwant]
      exact ih _ _ hw

/-- A CLOSURE THAT BEGINS WITH recover(): what is asked of its body. -/
def recQ (R : St → Prop) : Post
  | .normal, _, σ | .ret, _, σ => R σ
  | _, _, _ => False

theorem adef_of (hm : P.follows .mixedOrders = true) {f : FuncId} {fn : Func} {c2 : Code} {s2 : SCode} {id d : Nat} {ops : Array Oper} {o0 : Oper} {rest : List Oper} {ts : Array TypeId} {sl : List SOper}
    (hf : P.funcs[f]? = some fn) (hb : fn.body = some (.seq (.region id ops false) c2)) (h2 : cCode P fn.ntmps c2 = some s2) (hr : fn.results.toList = []) (hops : ops.toList = o0 :: rest)
    (ho0 : o0.op = .call { callee := .builtin .recover, args := #[], argTypes := ts }) (hg0 : o0.guard = none) (hd0 : o0.dst = some d) (hdn : d < fn.ntmps) (hrest : cOpers P fn.ntmps ops rest = some sl)
    {args : List A} {σ : St} {R : St → Prop} (hargs : args.length ≤ fn.ntmps) (u u' : FrameMode) (x : X) (vs : List Value) (hx : Rel x) (hσ : x.σ = σ) (hl : vs.length = args.length) (hv : ∀ (j : Nat) (a : A), args[j]? = some a → VR x a (vs.getD j undef))
    (a : A) (v : Value) (hva : VR x a v) (hrec : ∀ (c₀ : Frame) (cs : List Frame), c₀.mode = u → (recoverD (c₀ :: cs) = some (v, { c₀ with mode := u' } :: cs)) ∨ (recoverD (c₀ :: cs) = none ∧ v = .nilIface ∧ u' = u))
    (h : wpO P m sl (put (envOf 0 args) (some d) a) σ (fun env σ1 => wpC P m s2 env σ1 (recQ R)) (fun _ _ => False)) :
    CallsD P f vs.toArray u x.w fun e u1 w' => u1 = u' ∧ ∃ (v : Value) (y : X), e = .returned v ∧ y.w = w' ∧ Evol m x y ∧ Rel y ∧ R y.σ := by
  have hargs' : vs.length ≤ fn.ntmps := by rw [hl]; exact hargs
  have he : EnvR x (envOf 0 args) fn.ntmps { tmps := vs.toArray ++ Array.replicate (fn.ntmps - vs.toArray.size) undef, defers := [] } := by
    refine ⟨by simp; omega, fun t a ht => ?_⟩
    obtain ⟨_, q⟩ := envOf_get args 0 t a ht
    rw [Nat.sub_zero] at q
    have hlt : t < vs.length := by
      rcases Nat.lt_or_ge t args.length with q' | q'
      · omega
      · rw [List.getElem?_eq_none q'] at q; cases q
    have := hv t a q
    rwa [← arr_getD_list (a := vs.toArray ++ Array.replicate (fn.ntmps - vs.toArray.size) undef) (b := vs) (i := t) (j := t) (by rw [Array.getElem?_append_left (by simpa using hlt)]; simp)] at this
  refine callsD_of_wpS hf hb fun c₀ cs hu => ?_
  refine wpS_seq (wpS_region ?_)
  have hlen : ops.size = rest.length + 1 := by rw [← Array.length_toList, hops]; rfl
  have hat : ∀ j : Nat, (o0 :: rest)[j]? = ops[j]? := fun j => by rw [← hops]; simp
  rw [List.range_eq_range', hlen]
  have h00 : ops[0]? = some o0 := by rw [← hat 0]; rfl
  simp only [List.range'_succ, wpOpsS, h00]
  rw [if_pos (by simp [Region.wanted, hg0])]
  rw [show (execOp (Act.eval { tmps := vs.toArray ++ Array.replicate (fn.ntmps - vs.toArray.size) undef, defers := [] }) o0).run P x.w = .ok .recover x.w by simp [execOp, ho0, resolve, invoke, builtin]]
  have fin : ∀ (cs1 : List Frame), cs1 = { c₀ with mode := u' } :: cs → wpOpsS P ops (Exit.thenS (c2.wpS P (bodyPostS P fn c₀ cs fun e u1 w' => u1 = u' ∧ ∃ (v : Value) (y : X), e = .returned v ∧ y.w = w' ∧ Evol m x y ∧ Rel y ∧ R y.σ)) (bodyPostS P fn c₀ cs fun e u1 w' => u1 = u' ∧ ∃ (v : Value) (y : X), e = .returned v ∧ y.w = w' ∧ Evol m x y ∧ Rel y ∧ R y.σ))
      (List.range' (0 + 1) rest.length) (Act.put { tmps := vs.toArray ++ Array.replicate (fn.ntmps - vs.toArray.size) undef, defers := [] } o0.dst v) cs1 x.w := by
    intro cs1 hcs1
    refine opsS_of_list (fun a w hq => by obtain ⟨_, _, _, _, q, _⟩ := hq; cases q) rest (0 + 1) (fun j => by rw [Nat.add_comm (0 + 1) j]; exact hat (j + 1)) _ _ ?_
    have henv : EnvR x (put (envOf 0 args) (some d) a) fn.ntmps (Act.put { tmps := vs.toArray ++ Array.replicate (fn.ntmps - vs.toArray.size) undef, defers := [] } o0.dst v) := by
      rw [hd0]
      exact he.put (some d) (fun d' q => by injection q with q; omega) hva
    refine wpO_sound (m := m) (x0 := x) (qn := fun env σ1 => wpC P m s2 env σ1 (recQ R)) (qp := fun _ _ => False) _ (fun a => a.defers = []) (fun y env act e1 e2 e3 e4 e5 => ?_) (fun y a v act e1 e2 e3 e4 e5 => e5.elim) rest sl hrest (fun o _ a v => by cases o.dst <;> exact Iff.rfl) x _ _ (Evol.refl hx) hx henv (by rw [hd0]; rfl) (by rw [hσ]; exact h)
    refine wpS_of_wp (wp_mono (cCode_sound (m := m) hm c2 s2 h2 env y.σ _ e5 y act (fun a => a.defers = []) (stab_defers [] c2) rfl e2 e3 e4) fun e act' w' hq => ?_)
    have res : ∀ act' : Act, (results fn act'.tmps).run P w' = .ok (.tuple #[]) w' := fun act' => by
      have : fn.results = #[] := by apply Array.ext'; simpa using hr
      simp [results, this]
    cases e with
    | normal =>
      obtain ⟨z, rfl, z2, z3, z4, _, _, z6⟩ := hq
      exact ⟨z4, u', hcs1, _, res act', rfl, _, z, rfl, rfl, e1.trans z2 (fun _ _ _ q => q) (fun _ _ _ q => q), z3, z6⟩
    | ret =>
      obtain ⟨z, rfl, z2, z3, z4, _, _, z6⟩ := hq
      exact ⟨z4, u', hcs1, _, res act', rfl, _, z, rfl, rfl, e1.trans z2 (fun _ _ _ q => q) (fun _ _ _ q => q), z3, z6⟩
    | panic ch => obtain ⟨_, _, _, _, _, _, _, _, _, h⟩ := hq; exact h.elim
    | exit id => obtain ⟨_, _, _, _, _, _, _, h⟩ := hq; exact h.elim
    | goto l => exact hq.elim
    | outgrown => exact hq.elim
  rcases hrec c₀ cs hu with hq | ⟨hq, rfl, rfl⟩
  · simp only [hq]
    exact fin _ rfl
  · simp only [hq]
    exact fin _ (by subst hu; rfl)
end

/-- A function that defers a closure, slim: the slots that it must keep are told. -/
structure SDef where
  n : Nat
  s1 : SCode
  s2 : SCode
  t : Nat
  g : FuncId
  caps : List Opd
  s4 : SCode
  res : List SRes

def cDef (P : Program) (prot : List Nat) (fn : Func) : Option SDef := match fn.body with
  | some (.seq c1 (.seq c2 (.seq (.region _ ops false) c4))) => match ops.toList with
    | [o1, o2] => match o1.op, o1.guard, o1.dst, o2.op, o2.guard, o2.dst with
      | .makeFunc (.func g) first caps, none, some t, .defer { callee := .value (.tmp t'), args, .. }, none, none =>
        if first.size = 0 ∧ args.size = 0 ∧ t' = t ∧ t < fn.ntmps ∧ callable P g = true ∧ keepSlots prot c4 = true then
          match cCode P fn.ntmps c1, cCode P fn.ntmps c2, cOpds caps.toList, cCode P fn.ntmps c4, cRes P fn.results.toList with
          | some s1, some s2, some sc, some s4, some r => some ⟨fn.ntmps, s1, s2, t, g, sc, s4, r⟩
          | _, _, _, _, _ => none
        else none
      | _, _, _, _, _, _ => none
    | _ => none
  | _ => none

theorem acalls_def {P : Program} {m : Nat → Nat → Prop} (hm : P.follows .mixedOrders = true) {f : FuncId} {fn : Func} {sd : SDef} (hf : P.funcs[f]? = some fn) (envp : Env) (hc : cDef P (envp.map (·.1)) fn = some sd) {args : List A} {σ : St} {R : AEnd → St → Prop} (hargs : args.length ≤ sd.n)
    (htn : sd.t ∉ envp.map (·.1))
    (h : wpC P m sd.s1 (envOf 0 args) σ (thenQ (fun env σ1 => wpC P m sd.s2 env σ1 (thenQ (fun env σ2 => EnvSub envp env ∧ ∃ l, evs env sd.caps = some l ∧ wpC P m sd.s4 (put env (some sd.t) (.clos sd.g l)) σ2 (defQ P m sd.g l envp sd.res R)) (retQ sd.res R))) (retQ sd.res R))) :
    ACalls P f args σ m R := by
  unfold cDef at hc
  split at hc
  · rename_i c1 c2 id ops c4 hb
    split at hc
    · rename_i o1 o2 hops
      split at hc
      · rename_i g first caps t t' args' ts ho1 hg1 hd1 ho2 hg2 hd2
        split at hc
        · rename_i hif
          obtain ⟨i1, i2, rfl, i4, i5, i6⟩ := hif
          split at hc
          · rename_i s1 s2 sc s4 r h1 h2 h3 h4 h5
            injection hc with hc
            subst hc
            obtain rfl : args' = #[] := Array.eq_empty_of_size_eq_zero i2
            exact acalls_defer hm hf hb h1 h2 h4 h5 hops ho1 i1 hg1 hd1 i4 h3 ho2 hg2 hd2 i5 hargs envp i6 htn h
          · cases hc
        · cases hc
      · cases hc
    · cases hc
  · cases hc

theorem acalls_def_go {P : Program} {m : Nat → Nat → Prop} (hm : P.follows .mixedOrders = true) {f : FuncId} {fn : Func} {sd : SDef} (hf : P.funcs[f]? = some fn) (envp : Env) (hc : cDef P (envp.map (·.1)) fn = some sd) {args : List A} {σ : St} {R : AEnd → St → Prop} (hargs : args.length ≤ sd.n)
    (htn : sd.t ∉ envp.map (·.1))
    (h : wpC P m sd.s1 (envOf 0 args) σ (thenQ (fun env σ1 => wpC P m sd.s2 env σ1 (thenQ (fun env σ2 => EnvSub envp env ∧ ∃ l, evs env sd.caps = some l ∧ wpC P m sd.s4 (put env (some sd.t) (.clos sd.g l)) σ2 (defQ P m sd.g l envp sd.res fun e σ' => Fin (R e σ'))) (retQ sd.res fun e σ' => Fin (R e σ')))) (retQ sd.res fun e σ' => Fin (R e σ')))) :
    ACalls P f args σ m R := acalls_def hm hf envp hc hargs htn h

/-- A closure that begins with recover(), slim. -/
structure SRec where
  n : Nat
  d : Nat
  rest : List SOper
  s2 : SCode

def cRec (P : Program) (fn : Func) : Option SRec := match fn.body with
  | some (.seq (.region _ ops false) c2) => match ops.toList with
    | o0 :: rest => match o0.op, o0.guard, o0.dst with
      | .call { callee := .builtin .recover, args, .. }, none, some d =>
        if args.size = 0 ∧ d < fn.ntmps ∧ fn.results.size = 0 then match cOpers P fn.ntmps ops rest, cCode P fn.ntmps c2 with
          | some sl, some s2 => some ⟨fn.ntmps, d, sl, s2⟩
          | _, _ => none
        else none
      | _, _, _ => none
    | _ => none
  | _ => none

section
variable {P : Program} {m : Nat → Nat → Prop}
theorem adef_any (hm : P.follows .mixedOrders = true) {f : FuncId} {fn : Func} {sr : SRec} (hf : P.funcs[f]? = some fn) (hc : cRec P fn = some sr)
    {args : List A} {σ : St} {R : St → Prop} (hargs : args.length ≤ sr.n) (u u' : FrameMode) (x : X) (vs : List Value) (hx : Rel x) (hσ : x.σ = σ) (hl : vs.length = args.length) (hv : ∀ (j : Nat) (a : A), args[j]? = some a → VR x a (vs.getD j undef))
    (a : A) (v : Value) (hva : VR x a v) (hrec : ∀ (c₀ : Frame) (cs : List Frame), c₀.mode = u → (recoverD (c₀ :: cs) = some (v, { c₀ with mode := u' } :: cs)) ∨ (recoverD (c₀ :: cs) = none ∧ v = .nilIface ∧ u' = u))
    (h : wpO P m sr.rest (put (envOf 0 args) (some sr.d) a) σ (fun env σ1 => wpC P m sr.s2 env σ1 (recQ R)) (fun _ _ => False)) :
    CallsD P f vs.toArray u x.w fun e u1 w' => u1 = u' ∧ ∃ (v : Value) (y : X), e = .returned v ∧ y.w = w' ∧ Evol m x y ∧ Rel y ∧ R y.σ := by
  unfold cRec at hc
  split at hc
  · rename_i id ops c2 hb
    split at hc
    · rename_i o0 rest hops
      split at hc
      · rename_i args' ts d ho0 hg0 hd0
        split at hc
        · rename_i hif
          obtain ⟨i1, i2, i3⟩ := hif
          split at hc
          · rename_i sl s2 h1 h2
            injection hc with hc
            subst hc
            obtain rfl : args' = #[] := Array.eq_empty_of_size_eq_zero i1
            have hr : fn.results.toList = [] := by
              have := Array.eq_empty_of_size_eq_zero i3
              rw [this]
            exact adef_of hm hf hb h2 hr hops ho0 hg0 hd0 i2 h1 hargs u u' x vs hx hσ hl hv a v hva hrec h
          · cases hc
        · cases hc
      · cases hc
    · cases hc
  · cases hc

theorem adRet_of (hm : P.follows .mixedOrders = true) {f : FuncId} {fn : Func} {sr : SRec} (hf : P.funcs[f]? = some fn) (hc : cRec P fn = some sr) {args : List A} {σ : St} {R : St → Prop} (hargs : args.length ≤ sr.n)
    (h : wpO P m sr.rest (put (envOf 0 args) (some sr.d) .nili) σ (fun env σ1 => wpC P m sr.s2 env σ1 (recQ R)) (fun _ _ => False)) : ADRet P f args σ m R :=
  fun x vs hx hσ hl hv => adef_any hm hf hc hargs .returning .returning x vs hx hσ hl hv .nili .nilIface .nili (fun c₀ cs hu => .inr ⟨by simp [recoverD, hu], rfl, rfl⟩) h

theorem adPan_of (hm : P.follows .mixedOrders = true) {f : FuncId} {fn : Func} {sr : SRec} (hf : P.funcs[f]? = some fn) (hc : cRec P fn = some sr) {args : List A} {a : A} {σ : St} {R : St → Prop} (hargs : args.length ≤ sr.n)
    (h : wpO P m sr.rest (put (envOf 0 args) (some sr.d) a) σ (fun env σ1 => wpC P m sr.s2 env σ1 (recQ R)) (fun _ _ => False)) : ADPan P f args a σ m R :=
  fun x vs v hx hσ hl hv hva => adef_any hm hf hc hargs _ _ x vs hx hσ hl hv a v hva (fun c₀ cs hu => .inl (by simp [recoverD, hu])) h
end
end Go.Proofs.YtjeccchbeflddaaDoor.Ga
