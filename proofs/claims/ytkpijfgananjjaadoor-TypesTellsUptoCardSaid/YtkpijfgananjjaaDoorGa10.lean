/- Regions whose order is open: the plan, and that it is enough. -/
import Derived.Test.YtkpijfgananjjaaDoorGa9
set_option linter.unusedVariables false
set_option linter.unusedSimpArgs false
namespace Go.Proofs.YtkpijfgananjjaaDoor.Ga

def waitsFor (deep : Bool) (ops : Array Oper) (last i : Nat) : Bool := (List.range (ops.size - last)).all fun d => match ops[last + d]? with
  | none => true
  | some ol => (ol.after.any fun e => Region.binds .any e && e.on == i) || (deep && ol.after.any fun e => Region.binds .any e && (match ops[e.on]? with
    | none => false
    | some ok => ok.after.any fun e => Region.binds .any e && e.on == i))
theorem waitsFor_spec {deep : Bool} {ops : Array Oper} {last i : Nat} (h : waitsFor deep ops last i = true) (j : Nat) (ol : Oper) (hlj : last ≤ j) (hol : ops[j]? = some ol) : Chain ops i j := by
  unfold waitsFor at h
  have hjs : j < ops.size := (Array.getElem?_eq_some_iff.1 hol).1
  have h := List.all_eq_true.1 h (j - last) (List.mem_range.2 (by omega))
  rw [show last + (j - last) = j by omega, hol] at h
  simp only [Bool.or_eq_true, Bool.and_eq_true] at h
  rcases h with h | ⟨_, h⟩
  · obtain ⟨e, he, hb⟩ := Array.any_eq_true'.1 h
    simp only [Bool.and_eq_true, beq_iff_eq] at hb
    exact .here hol he hb.1 hb.2
  · obtain ⟨e, he, hb⟩ := Array.any_eq_true'.1 h
    simp only [Bool.and_eq_true] at hb
    obtain ⟨hb1, hb2⟩ := hb
    split at hb2
    · cases hb2
    · rename_i ok hok
      obtain ⟨e', he', hb'⟩ := Array.any_eq_true'.1 hb2
      simp only [Bool.and_eq_true, beq_iff_eq] at hb'
      exact .step hol he hb1 (.here hok he' hb'.1 hb'.2)

def sOper (P : Program) (n : Nat) (ops : Array Oper) (i : Nat) : Option SOper := (ops[i]?).bind (cOper P n ops)

def early (deep : Bool) (P : Program) (n : Nat) (ops : Array Oper) (last : Nat) (listed : Array Bool) (i : Nat) : Bool :=
  decide (i < last) && waitsFor deep ops last i && Region.free .any ops listed i && (match sOper P n ops i with | some s => quietK s.op | none => false)

/-- In which order: 0: only looks; 1: does something; 2: the last one. -/
def planGo (deep : Bool) (P : Program) (n : Nat) (ops : Array Oper) (last : Nat) : Nat → Array Bool → Option (List (Nat × SOper))
  | 0, listed => if (Region.ready .any ops listed).isEmpty then some [] else none
  | fuel + 1, listed =>
    if (Region.ready .any ops listed).isEmpty then some [] else
    match (Region.ready .any ops listed).find? (early deep P n ops last listed) with
    | some i => match sOper P n ops i, planGo deep P n ops last fuel (listed.setIfInBounds i true) with | some s, some l => some ((0, s) :: l) | _, _ => none
    | none => match Region.ready .any ops listed with
      | [i] => match sOper P n ops i, planGo deep P n ops last fuel (listed.setIfInBounds i true) with
        | some s, some l => if last ≤ i then (if l.all (fun p => p.1 == 2) then some ((2, s) :: l) else none) else some ((1, s) :: l)
        | _, _ => none
      | _ => none

/-- Is something loaded that is stored to, ahead of the last ones? -/
def clash (l : List (Nat × SOper)) : Bool := l.any fun q => match q with
  | (1, ⟨_, .store _ (.tmp p) _, _⟩) => l.any fun r => match r with
    | (0, ⟨_, .load _ _ (.tmp p'), _⟩) => p == p'
    | _ => false
  | _ => false
def planDown (P : Program) (n : Nat) (ops : Array Oper) : Nat → Option (List (Nat × SOper))
  | 0 => none
  | k + 1 => match planGo true P n ops k ops.size (Array.replicate ops.size false) with
    | some l => if clash l then planDown P n ops k else some l
    | none => planDown P n ops k
theorem planDown_spec {P : Program} {n : Nat} {ops : Array Oper} {l : List (Nat × SOper)} : ∀ k, planDown P n ops k = some l → ∃ deep last, planGo deep P n ops last ops.size (Array.replicate ops.size false) = some l
  | 0, h => by cases h
  | k + 1, h => by
    unfold planDown at h
    split at h
    · rename_i l' hl
      split at h
      · exact planDown_spec k h
      · injection h with h; subst h; exact ⟨_, _, hl⟩
    · exact planDown_spec k h

/-- The plan: the last operation is told apart, if that can be; more of them, if what is loaded is stored to; else none is. -/
def planBest (P : Program) (n : Nat) (ops : Array Oper) : Option (List (Nat × SOper)) :=
  match planGo false P n ops (ops.size - 1) ops.size (Array.replicate ops.size false) with
  | some l => if clash l then (match planDown P n ops (ops.size - 1) with | some l' => some l' | none => some l) else some l
  | none => planGo false P n ops ops.size ops.size (Array.replicate ops.size false)
theorem planBest_spec {P : Program} {n : Nat} {ops : Array Oper} {l : List (Nat × SOper)} (h : planBest P n ops = some l) : ∃ deep last, planGo deep P n ops last ops.size (Array.replicate ops.size false) = some l := by
  unfold planBest at h
  split at h
  · rename_i l' hl
    split at h
    · split at h
      · rename_i l2 hl2; injection h with h; subst h; exact planDown_spec _ hl2
      · injection h with h; subst h; exact ⟨_, _, hl⟩
    · injection h with h; subst h; exact ⟨_, _, hl⟩
  · exact ⟨_, _, h⟩

def lookK (K : Nat → Nat → Prop) (env : Env) : SOp → Prop
  | .load agg sz p => match ev env p with
    | some (.ptr id off) => ∀ j, j < (if agg then sz else 1) → K id (off + j)
    | _ => True
  | .lookup _ _ p _ _ => match ev env p with
    | some (.map id) => K id 0
    | _ => True
  | .len .map p => match ev env p with
    | some (.map id) => K id 0
    | _ => True
  | _ => True

def but (m K : Nat → Nat → Prop) : Nat → Nat → Prop := fun id off => m id off ∧ ¬ K id off

def wpDStep (P : Program) (m K : Nat → Nat → Prop) (to : Nat × SOper) (ih : WpT) : WpT := fun env σ qn qp =>
    match to.2.guard with
    | none => (to.1 = 0 → lookK K env to.2.op) ∧ stepO P (if to.1 = 2 then m else but m K) env σ to.2.op (fun a σ' => ih (put env to.2.dst a) σ' qn qp) qp
    | some (g, b) => match get env g with
      | some (.bool c) => Gd b c ((to.1 = 0 → lookK K env to.2.op) ∧ stepO P (if to.1 = 2 then m else but m K) env σ to.2.op (fun a σ' => ih (put env to.2.dst a) σ' qn qp) qp) (ih (put env to.2.dst (.tup [])) σ qn qp)
      | some (.tup []) => ih (put env to.2.dst (.tup [])) σ qn qp
      | _ => False
def wpD (P : Program) (m K : Nat → Nat → Prop) (l : List (Nat × SOper)) : WpT := List.rec (motive := fun _ => WpT) (fun env σ qn _ => qn env σ) (fun o _ ih => wpDStep P m K o ih) l
theorem wpD_cons (P : Program) (m K : Nat → Nat → Prop) (t : Nat) (o : SOper) (r : List (Nat × SOper)) (env : Env) (σ : St) (qn : Env → St → Prop) (qp : A → St → Prop) : wpD P m K ((t, o) :: r) env σ qn qp =
    match o.guard with
    | none => (t = 0 → lookK K env o.op) ∧ stepO P (if t = 2 then m else but m K) env σ o.op (fun a σ' => wpD P m K r (put env o.dst a) σ' qn qp) qp
    | some (g, b) => match get env g with
      | some (.bool c) => Gd b c ((t = 0 → lookK K env o.op) ∧ stepO P (if t = 2 then m else but m K) env σ o.op (fun a σ' => wpD P m K r (put env o.dst a) σ' qn qp) qp) (wpD P m K r (put env o.dst (.tup [])) σ qn qp)
      | some (.tup []) => wpD P m K r (put env o.dst (.tup [])) σ qn qp
      | _ => False := rfl

/-- The worlds that come of a state, some cells being kept. -/
def From (m : Nat → Nat → Prop) (x : X) (w : World) : Prop := ∃ y : X, y.w = w ∧ Evol m x y ∧ Rel y

section
variable {P : Program} {m K : Nat → Nat → Prop} {n : Nat}

theorem wpAnyT_mono {ops : Array Oper} {Q : Exit → Act → World → Prop} {S S' : World → Prop} {last : Nat} (h : ∀ w, S' w → S w) : ∀ (fuel : Nat) (listed : Array Bool) (a : Act) (w : World), wpAnyT P ops Q S' last fuel listed a w → wpAnyT P ops Q S last fuel listed a w
  | 0, _, _, _, H => H
  | fuel + 1, _, _, _, H => ⟨H.1, fun i hi => wpOp_mono (fun a' w' h' => ⟨fun q => h _ (h'.1 q), wpAnyT_mono h fuel _ a' w' h'.2⟩) (H.2 i hi)⟩

theorem late_any {deep : Bool} {ops : Array Oper} {Q : Exit → Act → World → Prop} {S S' : World → Prop} {last : Nat} : ∀ (fuel : Nat) (listed : Array Bool) (l : List (Nat × SOper)), planGo deep P n ops last fuel listed = some l → l.all (fun p => p.1 == 2) = true →
    ∀ (a : Act) (w : World), wpAnyT P ops Q S last fuel listed a w → wpAnyT P ops Q S' last fuel listed a w
  | 0, _, _, _, _, _, _, H => H
  | fuel + 1, listed, l, hl, ha, a, w, H => by
    unfold planGo at hl
    split at hl
    · rename_i hr
      have hr' : Region.ready .any ops listed = [] := by simpa using hr
      exact ⟨H.1, by rw [hr']; simp⟩
    · split at hl
      · split at hl
        · injection hl with hl; subst hl; simp at ha
        · cases hl
      · split at hl
        · rename_i i hri
          split at hl
          · rename_i s l' hs hl'
            split at hl
            · rename_i hle
              split at hl
              · rename_i hall
                refine ⟨H.1, fun j hj => ?_⟩
                have hji := hj
                rw [hri] at hji
                obtain rfl : j = i := by simpa using hji
                exact wpOp_mono (fun a' w' h' => ⟨fun q => absurd q (Nat.not_lt_of_le hle), late_any fuel _ l' hl' hall a' w' h'.2⟩) (H.2 j hj)
              · cases hl
            · injection hl with hl; subst hl; simp at ha
          · cases hl
        · cases hl

theorem mapK_ok {x : X} {v : A} (h : match some v with | some (.map id) => K id 0 | _ => True) : MapIn (From (but m K) x) x v := by
  unfold MapIn
  split
  · rename_i id
    intro es hes hid w hw
    obtain ⟨y, rfl, hy, _⟩ := hw
    have a := hy.objs id hid
    rw [hes] at a
    obtain ⟨_, es', _, a3⟩ := a
    exact (a3 (fun hm => hm.2 h)).2
  · trivial

theorem lookK_ok {x : X} (hx : Rel x) {env : Env} {act : Act} (he : EnvR x env n act) {o : Oper} {so : SOp} (hc : cOp P o = some so) (h : lookK K env so) : LooksOk (From (but m K) x) x env so := by
  cases so <;> try trivial
  case toStr p =>
    intro w hw b k own hk j hj
    obtain ⟨y, rfl, hy, _⟩ := hw
    have a := hy.blks b (hx.blk_lt (by rw [hk]; simp))
    rw [hk] at a
    obtain ⟨k', _, _, a3, _⟩ := a
    exact a3.cell hj
  case lookup str z p q ok =>
    intro v hv
    simp only [lookK, hv] at h
    exact mapK_ok h
  case len q p =>
    cases q <;> try trivial
    intro v hv
    simp only [lookK, hv] at h
    exact mapK_ok h
  rename_i agg sz p
  intro v hv
  have hpv : ∃ q, cOpd q = some p := by
    unfold cOp at hc
    split at hc <;> first
      | (obtain ⟨s, h1, h2⟩ := mapSome hc; cases h2; done)
      | (cases hc; done)
      | skip
    all_goals
      split at hc <;> first
        | (obtain ⟨s, h1, h2⟩ := mapSome hc; cases h2; done)
        | (cases hc; done)
        | skip
      all_goals first
        | (injection hc with hc; injection hc with c1 c2 c3; subst c3; exact ⟨_, by assumption⟩)
        | (injection hc with hc; cases hc; done)
        | (split at hc <;> first
            | (obtain ⟨s, h1, h2⟩ := mapSome hc; cases h2; done)
            | (injection hc with hc; cases hc; done)
            | (cases hc; done)
            | (split at hc <;> first
                | (obtain ⟨s, h1, h2⟩ := mapSome hc; cases h2; done)
                | (injection hc with hc; cases hc; done)
                | (cases hc; done)
                | (split at hc <;> first | (injection hc with hc; cases hc; done) | (cases hc; done))))
  obtain ⟨q, hq⟩ := hpv
  have hvr := ev_vr he hq hv
  simp only [lookK, hv] at h
  cases v
  case ptr id off =>
    intro w hw j hj
    obtain ⟨y, rfl, hy, _⟩ := hw
    generalize act.eval q = qv at hvr
    cases hvr with
    | ptr _ _ cs hid hcs =>
      have a := hy.objs id hid
      rw [hcs] at a
      obtain ⟨_, cs', _, _, a4⟩ := a
      exact (a4 (off + j) (fun hm => hm.2 (h j hj))).2
  all_goals
    intro w hw b k own hk j hj
    obtain ⟨y, rfl, hy, _⟩ := hw
    have a := hy.blks b (hx.blk_lt (by rw [hk]; simp))
    rw [hk] at a
    obtain ⟨k', _, _, a3, _⟩ := a
    exact a3.cell hj

theorem wpD_sound {deep : Bool} {ops : Array Oper} {last : Nat} (x0 : X) (Q : Exit → Act → World → Prop) (ds : Act → Prop) {qn : Env → St → Prop} {qp : A → St → Prop} (hsel : Region.noSelect ops = true)
    (hn : ∀ (y : X) (env : Env) (act : Act), Evol m x0 y → Rel y → EnvR y env n act → ds act → qn env y.σ → Q .normal act y.w)
    (hp : ∀ (y : X) (a : A) (v : Value) (act : Act), Evol m x0 y → Rel y → VR y a v → ds act → qp a y.σ → Q (.panic [{ v, recovered := false }]) act y.w)
    (hQ : ∀ (i : Nat) (o : Oper), ops[i]? = some o → ∀ c (a : Act) v w, Q (.panic c) (a.put o.dst v) w → Q (.panic c) a w) (hst : ∀ (i : Nat) (o : Oper), ops[i]? = some o → ∀ (a : Act) (v : Value), ds (a.put o.dst v) ↔ ds a) :
    ∀ (fuel : Nat) (listed : Array Bool) (pl : List (Nat × SOper)), planGo deep P n ops last fuel listed = some pl → ClosedL ops listed → ∀ (x : X) (env : Env) (act : Act), Evol m x0 x → Rel x → EnvR x env n act → ds act → wpD P m K pl env x.σ qn qp →
      wpAnyT P ops Q (From (but m K) x) last fuel listed act x.w := by
  have hbut : ∀ {a b : X}, Evol (but m K) a b → Evol m a b := fun h => h.mono fun _ _ _ q => q.1
  intro fuel
  induction fuel with
  | zero =>
    intro listed pl hpl hcl x env act h0 hx he hd h
    unfold planGo at hpl
    split at hpl
    · rename_i hr
      injection hpl with hpl
      subst hpl
      exact ⟨by simpa using hr, hn x env act h0 hx he hd h⟩
    · cases hpl
  | succ fuel ih =>
    intro listed pl hpl hcl x env act h0 hx he hd h
    unfold planGo at hpl
    split at hpl
    · rename_i hr
      injection hpl with hpl
      subst hpl
      have hr' : Region.ready .any ops listed = [] := by simpa using hr
      exact ⟨fun _ => hn x env act h0 hx he hd h, by rw [hr']; simp⟩
    · rename_i hr
      split at hpl
      · -- one that only looks
        rename_i i hf
        have hir : i ∈ Region.ready .any ops listed := List.mem_of_find?_eq_some hf
        have hea : early deep P n ops last listed i = true := List.find?_some hf
        simp only [early, Bool.and_eq_true, decide_eq_true_eq] at hea
        obtain ⟨⟨⟨e1, e2⟩, e3⟩, e4⟩ := hea
        split at hpl
        · rename_i s l hs hl
          injection hpl with hpl
          subst hpl
          rw [hs] at e4
          have e4 : quietK s.op = true := e4
          obtain ⟨oi, hoi, hco⟩ : ∃ oi, ops[i]? = some oi ∧ cOper P n ops oi = some s := by
            unfold sOper at hs
            cases hq : ops[i]? with
            | none => simp [hq] at hs
            | some oi => exact ⟨oi, rfl, by simpa [hq] using hs⟩
          obtain ⟨c1, c2, c3, c4⟩ := cOper_spec hco
          have hlast := waitsFor_spec e2
          have hself : From (but m K) x x.w := ⟨x, rfl, Evol.refl hx, hx⟩
          have go : ((0 : Nat) = 0 → lookK K env s.op) ∧ stepO P (if (0 : Nat) = 2 then m else but m K) env x.σ s.op (fun a σ' => wpD P m K l (put env s.dst a) σ' qn qp) qp →
              Region.wanted oi (yielded ops act.tmps) = true → wpAnyT P ops Q (From (but m K) x) last (fuel + 1) listed act x.w := fun h hw => by
            obtain ⟨a, v, y1, y2, y3⟩ := cOp_quiet (S := From (but m K) x) hx he c1 e4 (lookK_ok hx he c1 (h.1 rfl)) h.2
            refine wpAnyT_first hoi (Region.noSelect_spec hsel) e1 hlast (fun c a w => hQ i oi hoi c a v w) fuel listed act x.w (Region.free_spec hoi e3) hcl hir (.inl ⟨hw, y1⟩) hself ?_
            exact ih _ l hl (closed_set hcl hir) x _ _ h0 hx (by rw [c2]; exact he.put oi.dst c3 y2) ((hst _ oi hoi _ _).2 hd) y3
          have skip : wpD P m K l (put env s.dst (.tup [])) x.σ qn qp → Region.wanted oi (yielded ops act.tmps) = false → wpAnyT P ops Q (From (but m K) x) last (fuel + 1) listed act x.w := fun h hw => by
            refine wpAnyT_first (v := undef) hoi (Region.noSelect_spec hsel) e1 hlast (fun c a w => hQ i oi hoi c a undef w) fuel listed act x.w (Region.free_spec hoi e3) hcl hir (.inr ⟨hw, rfl⟩) hself ?_
            exact ih _ l hl (closed_set hcl hir) x _ _ h0 hx (by rw [c2]; exact he.put oi.dst c3 (vr_undef x)) ((hst _ oi hoi _ _).2 hd) h
          rw [wpD_cons] at h
          cases hg : oi.guard with
          | none =>
            rw [hg] at c4
            simp [cGuard] at c4
            rw [← c4] at h
            exact go h (by simp [Region.wanted, hg])
          | some jb =>
            obtain ⟨j, b⟩ := jb
            rw [hg] at c4
            simp only [cGuard] at c4
            split at c4
            · rename_i d hjd
              injection c4 with c4
              rw [← c4] at h
              simp only at h
              split at h
              · rename_i c hc'
                have hy := yielded_bool he hjd hc'
                have hw : Region.wanted oi (yielded ops act.tmps) = (c == b) := by simp [Region.wanted, hg, hy]
                cases hcb : (c == b) with
                | true => exact go ⟨fun _ => (h.yes hcb).1 trivial, (h.yes hcb).2⟩ (by rw [hw, hcb])
                | false => exact skip (h.no hcb) (by rw [hw, hcb])
              · rename_i hc'
                have hy := yielded_undef he hjd hc'
                exact skip h (by simp [Region.wanted, hg, hy])
              · exact h.elim
            · cases c4
        · cases hpl
      · -- one that does something
        split at hpl
        · rename_i i hri
          split at hpl
          · rename_i s l hs hl
            obtain ⟨oi, hoi, hco⟩ : ∃ oi, ops[i]? = some oi ∧ cOper P n ops oi = some s := by
              unfold sOper at hs
              cases hq : ops[i]? with
              | none => simp [hq] at hs
              | some oi => exact ⟨oi, rfl, by simpa [hq] using hs⟩
            obtain ⟨c1, c2, c3, c4⟩ := cOper_spec hco
            -- whichever it is
            have main : ∀ t : Nat, (t = 2 → last ≤ i ∧ l.all (fun p => p.1 == 2) = true) → (t ≠ 2 → i < last) → wpD P m K ((t, s) :: l) env x.σ qn qp → wpAnyT P ops Q (From (but m K) x) last (fuel + 1) listed act x.w := fun t ht ht' h => by
              refine ⟨fun q => (by rw [hri] at q; cases q), fun j hj => ?_⟩
              rw [hri] at hj
              obtain rfl : j = i := by simpa using hj
              have after : ∀ (y : X) (env' : Env) (act' : Act), Evol (if t = 2 then m else but m K) x y → Rel y → EnvR y env' n act' → ds act' → wpD P m K l env' y.σ qn qp →
                  (j < last → From (but m K) x y.w) ∧ wpAnyT P ops Q (From (but m K) x) last fuel (listed.setIfInBounds j true) act' y.w := fun y env' act' hy hr he' hd' hk => by
                by_cases h2 : t = 2
                · obtain ⟨g1, g2⟩ := ht h2
                  rw [if_pos h2] at hy
                  exact ⟨fun q => absurd q (Nat.not_lt_of_le g1), late_any fuel _ l hl g2 _ _ (ih _ l hl (closed_set hcl (by rw [hri]; simp)) y env' act' (h0.trans hy (fun _ _ _ q => q) (fun _ _ _ q => q)) hr he' hd' hk)⟩
                · rw [if_neg h2] at hy
                  refine ⟨fun _ => ⟨y, rfl, hy, hr⟩, ?_⟩
                  have := ih _ l hl (closed_set hcl (by rw [hri]; simp)) y env' act' (h0.trans (hbut hy) (fun _ _ _ q => q) (fun _ _ _ q => q)) hr he' hd' hk
                  exact wpAnyT_mono (fun w hw => by
                    obtain ⟨z, hz1, hz2, hz3⟩ := hw
                    exact ⟨z, hz1, hy.trans hz2 (fun _ _ _ q => q) (fun _ _ _ q => q), hz3⟩) _ _ _ _ this
              have hle : ∀ {y}, Evol (if t = 2 then m else but m K) x y → Evol m x y := fun hy => by
                by_cases h2 : t = 2
                · rwa [if_pos h2] at hy
                · rw [if_neg h2] at hy; exact hbut hy
              have go : stepO P (if t = 2 then m else but m K) env x.σ s.op (fun a σ' => wpD P m K l (put env s.dst a) σ' qn qp) qp →
                  oi.wp P act x.w (fun a' w' => (j < last → From (but m K) x w') ∧ wpAnyT P ops Q (From (but m K) x) last fuel (listed.setIfInBounds j true) a' w') Q := fun h => by
                refine cOp_does hx he c1 h _ _ (fun y a v hy hr hv hk => ?_) (fun y a v hy hr hv hk => hp y a v act (h0.trans (hle hy) (fun _ _ _ q => q) (fun _ _ _ q => q)) hr hv hd hk)
                exact after y _ _ hy hr (by rw [c2]; exact (he.evol hy hx).put oi.dst c3 hv) ((hst _ oi hoi _ _).2 hd) hk
              have skip : wpD P m K l (put env s.dst (.tup [])) x.σ qn qp → (j < last → From (but m K) x x.w) ∧ wpAnyT P ops Q (From (but m K) x) last fuel (listed.setIfInBounds j true) (act.put oi.dst undef) x.w := fun h =>
                after x _ _ (Evol.refl hx) hx (by rw [c2]; exact he.put oi.dst c3 (vr_undef x)) ((hst _ oi hoi _ _).2 hd) h
              rw [wpD_cons] at h
              unfold wpOp
              rw [hoi]
              simp only
              cases hg : oi.guard with
              | none =>
                rw [hg] at c4
                simp [cGuard] at c4
                rw [← c4] at h
                have hw : Region.wanted oi (yielded ops act.tmps) = true := by simp [Region.wanted, hg]
                rw [if_pos hw]
                exact .inl (go h.2)
              | some jb =>
                obtain ⟨j', b⟩ := jb
                rw [hg] at c4
                simp only [cGuard] at c4
                split at c4
                · rename_i d hjd
                  injection c4 with c4
                  rw [← c4] at h
                  simp only at h
                  split at h
                  · rename_i c hc'
                    have hy := yielded_bool he hjd hc'
                    have hw : Region.wanted oi (yielded ops act.tmps) = (c == b) := by simp [Region.wanted, hg, hy]
                    cases hcb : (c == b) with
                    | true => rw [if_pos (by rw [hw, hcb])]; exact .inl (go (h.yes hcb).2)
                    | false => rw [if_neg (by rw [hw, hcb]; simp)]; exact skip (h.no hcb)
                  · rename_i hc'
                    have hy := yielded_undef he hjd hc'
                    have hw : Region.wanted oi (yielded ops act.tmps) = false := by simp [Region.wanted, hg, hy]
                    rw [if_neg (by rw [hw]; simp)]
                    exact skip h
                  · exact h.elim
                · cases c4
            split at hpl
            · rename_i hil
              split at hpl
              · rename_i hle
                injection hpl with hpl
                subst hpl
                exact main 2 (fun _ => ⟨hil, hle⟩) (fun q => absurd rfl q) h
              · cases hpl
            · rename_i hil
              injection hpl with hpl
              subst hpl
              exact main 1 (fun q => (by cases q)) (fun _ => Nat.lt_of_not_le hil) h
          · cases hpl
        · cases hpl
end
end Go.Proofs.YtkpijfgananjjaaDoor.Ga
