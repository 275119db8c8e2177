/- The whole step; regions; code; functions. -/
import Derived.Test.YtkpijfgananjjaaDoorGa7
import Derived.Test.YtkpijfgananjjaaDoorGam
set_option linter.unusedVariables false
set_option linter.unusedSimpArgs false
namespace Go.Proofs.YtkpijfgananjjaaDoor.Ga
section
variable {P : Program} {m : Nat → Nat → Prop} {x : X} {act : Act} {o : Oper} {k pk : A → St → Prop} {env : Env} {n : Nat}

theorem mapSome {α β : Type} {f : α → β} {o : Option α} {b : β} (h : o.map f = some b) : ∃ a, o = some a ∧ f a = b := by
  cases o with
  | none => simp at h
  | some a => simp at h; exact ⟨a, rfl, h⟩

theorem arr1 {α : Type} {a : Array α} {x : α} (h : a.toList = [x]) : a = #[x] := by apply Array.ext'; simpa using h
theorem arr2 {α : Type} {a : Array α} {x y : α} (h : a.toList = [x, y]) : a = #[x, y] := by apply Array.ext'; simpa using h

set_option maxHeartbeats 1000000 in
theorem cOp_does (hx : Rel x) (he : EnvR x env n act) {so : SOp} (hc : cOp P o = some so) (h : stepO P m env x.σ so k pk) : Does P m x act o k pk := by
  unfold cOp at hc
  split at hc
  · rename_i e ho; obtain ⟨s, h1, rfl⟩ := mapSome hc; exact (Yl.mov hx he h1 (.inl ho) h).does hx
  · rename_i e ho; obtain ⟨s, h1, rfl⟩ := mapSome hc; exact (Yl.mov hx he h1 (.inr ho) h).does hx
  · rename_i ho
    split at hc
    · rename_i h1 h2 h3; injection hc with hc; subst hc; exact (Yl.pick (m := m) (pk := pk) hx he h1 h2 h3 ho h).does hx
    · cases hc
  · rename_i ho
    split at hc
    · rename_i h1; injection hc with hc; subst hc; exact Does.alloc hx h1 ho h
    · cases hc
  · rename_i ho; obtain ⟨s, h1, rfl⟩ := mapSome hc; exact Does.box hx he h1 ho h
  · rename_i ho
    split at hc
    · rename_i h1 h2
      split at hc
      · cases hc
      · rename_i h3
        split at hc
        · rename_i h4; injection hc with hc; subst hc; exact (Yl.build (m := m) (pk := pk) hx he h1 h2 (by simpa only [Bool.not_eq_false] using h3) h4 ho h).does hx
        · cases hc
    · cases hc
  · rename_i ho
    split at hc
    · rename_i h0
      split at hc
      · rename_i h1 h2 h3
        split at hc
        · rename_i h4; obtain ⟨g1, g2, g3, _⟩ := h4; injection hc with hc; subst hc; exact Does.buildSl hx he h0 h1 h2 g1 g2 g3 h3 ho h
        · cases hc
      · cases hc
    · cases hc
  · rename_i ho
    split at hc
    · rename_i h1 h2 h3; injection hc with hc; subst hc; exact (Yl.load (S := (· = x.w)) hx he h1 h2 h3 ho (fun v _ => loadOk_here x _ _ v) h).does hx rfl
    · cases hc
  · rename_i ho
    split at hc
    · rename_i h1 h2 h3; injection hc with hc; subst hc; exact Does.store hx he h1 h2 h3 ho h
    · cases hc
  · rename_i ho; obtain ⟨s, h1, rfl⟩ := mapSome hc; exact (Yl.nilCheck (m := m) (pk := pk) hx he h1 ho h).does hx
  · rename_i ho
    split at hc
    · rename_i hn; obtain ⟨s, h3, rfl⟩ := mapSome hc; exact (Yl.isnil (m := m) (pk := pk) hx he hn h3 ho h).does hx
    · split at hc
      · rename_i h1 h2
        split at hc
        · rename_i hq; injection hc with hc; subst hc; exact (Yl.eqS (m := m) (pk := pk) hx he hq h1 h2 ho h).does hx
        · injection hc with hc; subst hc; exact (Yl.bin (m := m) (pk := pk) hx he h1 h2 ho h).does hx
      · cases hc
  · rename_i ho; obtain ⟨s, h1, rfl⟩ := mapSome hc; exact (Yl.un (m := m) (pk := pk) hx he h1 ho h).does hx
  · rename_i ho
    split at hc
    · rename_i h1 h2; obtain ⟨s, h3, rfl⟩ := mapSome hc; exact (Yl.toInt (m := m) (pk := pk) hx he h1 h2 h3 ho h).does hx
    · rename_i h1 h2
      split at hc
      · rename_i h4; obtain ⟨s, h3, rfl⟩ := mapSome hc; exact (Yl.toStr (S := (· = x.w)) (m := m) (pk := pk) hx he h1 h4 h2 h3 ho (fun w hw b k own _ j _ => by rw [hw]) h).does hx rfl
      · cases hc
    · cases hc
  · rename_i ho
    split at hc
    · rename_i h1; obtain ⟨s, h3, rfl⟩ := mapSome hc; exact (Yl.mkIface (m := m) (pk := pk) hx he h1 h3 ho h).does hx
    · cases hc
  · rename_i ho
    split at hc
    · rename_i h1; obtain ⟨s, h3, rfl⟩ := mapSome hc; exact (Yl.mkFunc (m := m) (pk := pk) hx he h1 h3 ho h).does hx
    · cases hc
  · rename_i ho; injection hc with hc; subst hc; exact Does.mkMap hx ho h
  · rename_i ho
    split at hc
    · rename_i h1 h2 h3 h4; injection hc with hc; subst hc; exact (Yl.sliceStr (m := m) (pk := pk) hx he h1 h2 h3 h4 ho h).does hx
    · rename_i h1 h2 h3 h4
      split at hc
      · rename_i h5 h6; injection hc with hc; subst hc; exact (Yl.sliceSl (m := m) (pk := pk) hx he h1 h5 (Nat.succ_pos _) h2 h3 h4 h6 ho h).does hx
      · cases hc
    · cases hc
  · rename_i ho
    split at hc
    · rename_i h1 h2
      split at hc
      · rename_i h3; injection hc with hc; subst hc; exact (Yl.fieldAddr (m := m) (pk := pk) hx he h1 h3 h2 ho h).does hx
      · cases hc
    · cases hc
  · rename_i ho
    split at hc
    · rename_i h1 h2
      split at hc
      · rename_i h3 h4; injection hc with hc; subst hc; exact (Yl.field (m := m) (pk := pk) hx he h1 h3 h4 h2 ho h).does hx
      · cases hc
    · cases hc
  · rename_i ho
    split at hc
    · rename_i h1 h2 h3
      split at hc
      · rename_i h4; injection hc with hc; subst hc; exact (Yl.idxAddr (m := m) (pk := pk) hx he h1 h4 (Nat.succ_pos _) h2 h3 ho h).does hx
      · cases hc
    · cases hc
  · rename_i ho
    split at hc
    · rename_i h1 h2 h3; injection hc with hc; subst hc; exact (Yl.idxStr (m := m) (pk := pk) hx he h1 h2 h3 ho h).does hx
    · cases hc
  · rename_i ho; obtain ⟨s, h1, rfl⟩ := mapSome hc; exact (Yl.extract (m := m) (pk := pk) hx he h1 ho h).does hx
  · rename_i ho
    split at hc
    · rename_i h1 h2 h3; injection hc with hc; subst hc; exact (Yl.tassert (m := m) (pk := pk) hx he h1 h2 h3 ho h).does hx
    · cases hc
  · rename_i ho
    split at hc
    · rename_i h1; obtain ⟨s, h3, rfl⟩ := mapSome hc; exact Does.call hx he h1 h3 ho h
    · cases hc
  · rename_i ho; obtain ⟨s, h1, rfl⟩ := mapSome hc; exact Does.callV hx he h1 ho h
  · rename_i ho
    split at hc
    · rename_i ha ht
      obtain rfl := arr1 ha
      obtain rfl := arr1 ht
      split at hc
      · rename_i h1; obtain ⟨s, h3, rfl⟩ := mapSome hc; exact (Yl.lenStr (m := m) (pk := pk) hx he h1 h3 ho h).does hx
      · rename_i h1; obtain ⟨s, h3, rfl⟩ := mapSome hc; exact (Yl.lenSl (m := m) (pk := pk) hx he h1 h3 ho h).does hx
      · rename_i h1; obtain ⟨s, h3, rfl⟩ := mapSome hc; exact Does.lenMap hx he h1 h3 ho h
      · cases hc
    · cases hc
  · rename_i ho
    split at hc
    · rename_i ha ht
      obtain rfl := arr2 ha
      obtain rfl := arr2 ht
      split at hc
      · rename_i h1 h2
        split at hc
        · rename_i h3 h4 h5 h6
          split at hc
          · rename_i h7; injection hc with hc; subst hc; exact Does.append (str := false) hx he h1 ⟨_, h2⟩ h3 h4 h7.1 h5 h6 ho h
          · cases hc
        · cases hc
      · rename_i h1 h2
        split at hc
        · rename_i h3 h4 h5 h6
          split at hc
          · rename_i h7; injection hc with hc; subst hc; exact Does.append (str := true) hx he h1 ⟨h2, h7.2⟩ h3 h4 h7.1 h5 h6 ho h
          · cases hc
        · cases hc
      · cases hc
    · cases hc
  · rename_i ho
    split at hc
    · rename_i ha
      obtain rfl := arr1 ha
      obtain ⟨s, h3, rfl⟩ := mapSome hc
      exact Does.panic hx he h3 (.inr ⟨_, ho⟩) h
    · cases hc
  · rename_i ho; obtain ⟨s, h1, rfl⟩ := mapSome hc; exact Does.panic hx he h1 (.inl ho) h
  · rename_i ho
    split at hc
    · rename_i h1 h2 h3; obtain ⟨z, h4, rfl⟩ := mapSome hc; exact YlS.does (S := (· = x.w)) hx (Yl.lookup hx he h1 h4 h2 h3 ho (fun v _ => mapIn_here x v) h) rfl
    · cases hc
  · rename_i ho
    split at hc
    · rename_i h1 h2 h3 h4; injection hc with hc; subst hc; exact Does.mapUpd hx he h1 h2 h3 h4 (.inl ho) h
    · cases hc
  · rename_i ho
    split at hc
    · rename_i h1 h2 h3 h4; injection hc with hc; subst hc; exact Does.mapUpd hx he h1 h2 h3 h4 (.inr ho) h
    · cases hc
  · rename_i ho
    split at hc
    · rename_i ha ht
      obtain rfl := arr2 ha
      split at hc
      · rename_i h1 h2 h3; injection hc with hc; subst hc; exact Does.delete hx he h1 h2 h3 ht ho h
      · cases hc
    · cases hc
  · rename_i ho
    split at hc
    · rename_i ha ht
      obtain rfl := arr1 ha
      obtain rfl := arr1 ht
      split at hc
      · rename_i h1; obtain ⟨s, h3, rfl⟩ := mapSome hc; exact Does.clear hx he h1 h3 ho h
      · cases hc
    · cases hc
  · rename_i ho
    split at hc
    · rename_i ha
      obtain rfl := arr2 ha
      split at hc
      · rename_i h1 h2; injection hc with hc; subst hc; exact (Yl.mnmx (mn := true) (m := m) (pk := pk) hx he h1 h2 ho h).does hx
      · cases hc
    · cases hc
  · rename_i ho
    split at hc
    · rename_i ha
      obtain rfl := arr2 ha
      split at hc
      · rename_i h1 h2; injection hc with hc; subst hc; exact (Yl.mnmx (mn := false) (m := m) (pk := pk) hx he h1 h2 ho h).does hx
      · cases hc
    · cases hc
  · cases hc
end

/-! ### Regions -/
def cGuard (ops : Array Oper) : Option (Nat × Bool) → Option (Option (Nat × Bool))
  | none => some none
  | some (j, b) => match (ops[j]?).bind (·.dst) with | some d => some (some (d, b)) | none => none

/-- A slim operation, of a frame of n slots. -/
def cOper (P : Program) (n : Nat) (ops : Array Oper) (o : Oper) : Option SOper :=
  match cOp P o, cGuard ops o.guard with
  | some s, some g => match o.dst with
    | none => some ⟨none, s, g⟩
    | some d => if d < n then some ⟨some d, s, g⟩ else none
  | _, _ => none

def cOpers (P : Program) (n : Nat) (ops : Array Oper) : List Oper → Option (List SOper)
  | [] => some []
  | o :: r => match cOper P n ops o, cOpers P n ops r with | some s, some l => some (s :: l) | _, _ => none

abbrev WpT := Env → St → (Env → St → Prop) → (A → St → Prop) → Prop
/-- One operation; what is to come is 'ih'. -/
def wpOStep (P : Program) (m : Nat → Nat → Prop) (o : SOper) (ih : WpT) : WpT := fun env σ qn qp =>
    match o.guard with
    | none => stepO P m env σ o.op (fun a σ' => ih (put env o.dst a) σ' qn qp) qp
    | some (t, b) => match get env t with
      | some (.bool c) => Gd b c (stepO P m env σ o.op (fun a σ' => ih (put env o.dst a) σ' qn qp) qp) (ih (put env o.dst (.tup [])) σ qn qp)
      | some (.tup []) => ih (put env o.dst (.tup [])) σ qn qp
      | _ => False
def wpO (P : Program) (m : Nat → Nat → Prop) (l : List SOper) : WpT := List.rec (motive := fun _ => WpT) (fun env σ qn _ => qn env σ) (fun o _ ih => wpOStep P m o ih) l
theorem wpO_cons (P : Program) (m : Nat → Nat → Prop) (o : SOper) (r : List SOper) (env : Env) (σ : St) (qn : Env → St → Prop) (qp : A → St → Prop) : wpO P m (o :: r) env σ qn qp =
    match o.guard with
    | none => stepO P m env σ o.op (fun a σ' => wpO P m r (put env o.dst a) σ' qn qp) qp
    | some (t, b) => match get env t with
      | some (.bool c) => Gd b c (stepO P m env σ o.op (fun a σ' => wpO P m r (put env o.dst a) σ' qn qp) qp) (wpO P m r (put env o.dst (.tup [])) σ qn qp)
      | some (.tup []) => wpO P m r (put env o.dst (.tup [])) σ qn qp
      | _ => False := rfl

section
variable {P : Program} {m : Nat → Nat → Prop} {n : Nat}

theorem cOper_spec {ops : Array Oper} {o : Oper} {s : SOper} (h : cOper P n ops o = some s) : cOp P o = some s.op ∧ s.dst = o.dst ∧ (∀ d, o.dst = some d → d < n) ∧ cGuard ops o.guard = some s.guard := by
  unfold cOper at h
  split at h
  · rename_i so g h1 h2
    split at h
    · rename_i hd; injection h with h; subst h; exact ⟨h1, hd.symm, fun d q => (by rw [hd] at q; cases q), h2⟩
    · rename_i d hd
      split at h
      · rename_i hlt; injection h with h; subst h; exact ⟨h1, hd.symm, fun d' q => (by rw [hd] at q; injection q with q; subst q; exact hlt), h2⟩
      · cases h
  · cases h

theorem yielded_bool {x : X} {env : Env} {act : Act} (he : EnvR x env n act) {ops : Array Oper} {j d : Nat} (hd : (ops[j]?).bind (·.dst) = some d) {c : Bool} (h : get env d = some (.bool c)) : yielded ops act.tmps j = some c := by
  have := he.2 d _ h
  generalize hv : act.tmps.getD d undef = v at this
  cases this
  have hq : act.tmps[d]? = some (.bool c) := by
    rw [Array.getD_eq_getD_getElem?] at hv
    cases hq : act.tmps[d]? with
    | none => rw [hq] at hv; simp [undef] at hv
    | some u => rw [hq] at hv; simp at hv; rw [hv]
  simp [yielded, hd, hq]

theorem yielded_undef {x : X} {env : Env} {act : Act} (he : EnvR x env n act) {ops : Array Oper} {j d : Nat} (hd : (ops[j]?).bind (·.dst) = some d) (h : get env d = some (.tup [])) : yielded ops act.tmps j = none := by
  have := he.2 d _ h
  generalize hv : act.tmps.getD d undef = v at this
  cases this
  rename_i vs hl _
  unfold yielded
  rw [hd]
  cases hq : act.tmps[d]? with
  | none => simp [hq]
  | some u =>
    rw [Array.getD_eq_getD_getElem?, hq] at hv
    simp at hv
    subst hv
    simp [hq]

theorem vr_undef (x : X) : VR x (.tup []) undef := .tup [] #[] rfl (fun j c hj => by simp at hj)

/-- A region's list of operations. -/
theorem wpO_sound {ops : Array Oper} {x0 : X} (Q : Exit → Act → World → Prop) (ds : Act → Prop) {qn : Env → St → Prop} {qp : A → St → Prop}
    (hn : ∀ (y : X) (env : Env) (act : Act), Evol m x0 y → Rel y → EnvR y env n act → ds act → qn env y.σ → Q .normal act y.w)
    (hp : ∀ (y : X) (a : A) (v : Value) (act : Act), Evol m x0 y → Rel y → VR y a v → ds act → qp a y.σ → Q (.panic [{ v, recovered := false }]) act y.w) :
    ∀ (l : List Oper) (sl : List SOper), cOpers P n ops l = some sl → (∀ o ∈ l, ∀ (a : Act) (v : Value), ds (a.put o.dst v) ↔ ds a) → ∀ (x : X) (env : Env) (act : Act), Evol m x0 x → Rel x → EnvR x env n act → ds act → wpO P m sl env x.σ qn qp → wpList P ops Q l act x.w
  | [], sl, hc, hst, x, env, act, h0, hx, he, hd, h => by
    simp [cOpers] at hc
    subst hc
    exact hn x env act h0 hx he hd h
  | o :: r, sl, hc, hst, x, env, act, h0, hx, he, hd, h => by
    unfold cOpers at hc
    split at hc
    · rename_i s l' h1 h2
      injection hc with hc
      subst hc
      obtain ⟨c1, c2, c3, c4⟩ := cOper_spec h1
      have go : ∀ (h : stepO P m env x.σ s.op (fun a σ' => wpO P m l' (put env s.dst a) σ' qn qp) qp), o.wp P act x.w (wpList P ops Q r) Q := fun h => by
        refine cOp_does hx he c1 h _ _ (fun y a v hy hr hv hk => ?_) (fun y a v hy hr hv hk => hp y a v act (h0.trans hy (fun _ _ _ q => q) (fun _ _ _ q => q)) hr hv hd hk)
        refine wpO_sound Q ds hn hp r l' h2 (fun o' ho => hst o' (List.mem_cons_of_mem _ ho)) y (put env s.dst a) _ (h0.trans hy (fun _ _ _ q => q) (fun _ _ _ q => q)) hr ?_ ((hst o (List.mem_cons_self ..) _ _).2 hd) hk
        rw [c2]
        exact (he.evol hy hx).put o.dst c3 hv
      have skip : wpO P m l' (put env s.dst (.tup [])) x.σ qn qp → wpList P ops Q r (act.put o.dst undef) x.w := fun h =>
        wpO_sound Q ds hn hp r l' h2 (fun o' ho => hst o' (List.mem_cons_of_mem _ ho)) x _ _ h0 hx (by rw [c2]; exact he.put o.dst c3 (vr_undef x)) ((hst o (List.mem_cons_self ..) _ _).2 hd) h
      rw [wpO_cons] at h
      unfold wpList
      cases hg : o.guard with
      | none =>
        rw [hg] at c4
        simp [cGuard] at c4
        rw [← c4] at h
        have hw : Region.wanted o (yielded ops act.tmps) = true := by simp [Region.wanted, hg]
        rw [if_pos hw]
        exact .inl (go h)
      | some jb =>
        obtain ⟨j, b⟩ := jb
        rw [hg] at c4
        simp only [cGuard] at c4
        · skip
          split at c4
          · rename_i d hjd
            injection c4 with c4
            rw [← c4] at h
            simp only at h
            split at h
            · rename_i c hc'
              have hy := yielded_bool he hjd hc'
              have hw : Region.wanted o (yielded ops act.tmps) = (c == b) := by simp [Region.wanted, hg, hy]
              cases hcb : (c == b) with
              | true => rw [if_pos (by rw [hw, hcb])]; exact .inl (go (h.yes hcb))
              | false => rw [if_neg (by rw [hw, hcb]; simp)]; exact skip (h.no hcb)
            · rename_i hc'
              have hy := yielded_undef he hjd hc'
              have hw : Region.wanted o (yielded ops act.tmps) = false := by simp [Region.wanted, hg, hy]
              rw [if_neg (by rw [hw]; simp)]
              exact skip h
            · exact h.elim
          · cases c4
    · cases hc
end
end Go.Proofs.YtkpijfgananjjaaDoor.Ga
