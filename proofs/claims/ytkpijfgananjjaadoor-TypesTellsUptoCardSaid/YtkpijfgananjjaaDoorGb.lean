/- What less may be told of a value; contracts in which what was made anew is forgotten. -/
import Derived.Test.YtkpijfgananjjaaDoorGa13
set_option linter.unusedVariables false
set_option linter.unusedSimpArgs false
namespace Go.Proofs.YtkpijfgananjjaaDoor.Ga

theorem ACalls.frame {P : Program} {f : FuncId} {args : List A} {σ : St} {m m' : Nat → Nat → Prop} {R : AEnd → St → Prop} (h : ACalls P f args σ m R) (hm : ∀ id off, id < σ.n → m id off → m' id off) : ACalls P f args σ m' R :=
  fun x vs hx hσ hl hv => (h x vs hx hσ hl hv).mono fun e w' ⟨y, h1, h2, h3, ae, h4, h5⟩ => ⟨y, h1, h2.mono (fun id off hid => hm id off (hσ ▸ hid)), h3, ae, h4, h5⟩

/-- Whatever is an a is an a', too. -/
def Le (a a' : A) : Prop := ∀ (x : X) (v : Value), VR x a v → VR x a' v
theorem Le.refl (a : A) : Le a a := fun _ _ h => h
theorem Le.trans {a b c : A} (h : Le a b) (k : Le b c) : Le a c := fun x v q => k x v (h x v q)
theorem Le.nils (sz : Nat) : Le .nils (.sl .no sz []) := fun x v h => by cases h; exact .slnil .no sz trivial
theorem Le.own (o : Own) (sz : Nat) (xs : List A) : Le (.sl o sz xs) (.sl .no sz xs) := fun x v h => by
  cases h with
  | sl o sz xs cs b off cap k own vs hcs hsz hcap hk hc hv ho => exact .sl .no sz xs cs b off cap k own vs hcs hsz hcap hk hc hv trivial
  | slnil o sz ho => exact .slnil .no sz trivial
  | slz sz ad cap => exact .slz sz ad cap
theorem Le.agg {cs cs' : List A} (hl : cs'.length = cs.length) (h : ∀ (j : Nat) (c c' : A), cs[j]? = some c → cs'[j]? = some c' → Le c c') : Le (.agg cs) (.agg cs') := fun x v hv => by
  cases hv with
  | agg cs vs hl' hv => exact .agg cs' vs (by omega) (fun j c hj => by obtain ⟨d, hd⟩ := getElem?_len hl hj; exact h j d c hd hj x _ (hv j d hd))
theorem Le.agg3 {a b c a' b' c' : A} (h1 : Le a a') (h2 : Le b b') (h3 : Le c c') : Le (.agg [a, b, c]) (.agg [a', b', c']) := Le.agg rfl (fun j d d' h h' => by
  match j with
  | 0 => injection h with h; injection h' with h'; subst h h'; exact h1
  | 1 => injection h with h; injection h' with h'; subst h h'; exact h2
  | 2 => injection h with h; injection h' with h'; subst h h'; exact h3
  | j + 3 => cases h)

inductive ELe : AEnd → AEnd → Prop where
  | ret {a a' : A} (h : Le a a') : ELe (.ret a) (.ret a')
  | pan {a a' : A} (h : Le a a') : ELe (.pan a) (.pan a')

theorem ACalls.args {P : Program} {f : FuncId} {args args' : List A} {σ : St} {m : Nat → Nat → Prop} {R : AEnd → St → Prop} (h : ACalls P f args' σ m R) (hl : args'.length = args.length)
    (hle : ∀ (j : Nat) (a a' : A), args[j]? = some a → args'[j]? = some a' → Le a a') : ACalls P f args σ m R := fun x vs hx hσ hlen hv =>
  h x vs hx hσ (by omega) (fun j a' hj => by obtain ⟨a, ha⟩ := getElem?_len hl hj; exact hle j a a' ha hj x _ (hv j a ha))

theorem ACalls.less {P : Program} {f : FuncId} {args : List A} {σ : St} {m : Nat → Nat → Prop} {R R' : AEnd → St → Prop} (h : ACalls P f args σ m R) (hR : ∀ e σ', R e σ' → ∃ e', ELe e e' ∧ R' e' σ') : ACalls P f args σ m R' :=
  fun x vs hx hσ hl hv => (h x vs hx hσ hl hv).mono fun e w' ⟨y, h1, h2, h3, ae, h4, h5⟩ => by
    obtain ⟨e', q1, q2⟩ := hR ae y.σ h5
    refine ⟨y, h1, h2, h3, e', ?_, q2⟩
    cases q1 with
    | ret h => obtain ⟨v, rfl, hv⟩ := h4; exact ⟨v, rfl, h y v hv⟩
    | pan h => obtain ⟨v, rfl, hv⟩ := h4; exact ⟨v, rfl, h y v hv⟩


/-- Two that differ; a name of its own, so that no one splits cases by it. -/
def Df (a b : Nat) : Prop := a ≠ b
theorem Df.of {a b : Nat} (h : a ≠ b) : Df a b := h
theorem Df.symm {a b : Nat} (h : Df a b) : Df b a := Ne.symm h
theorem Df.lt {a b : Nat} (h : a < b) : Df a b := Nat.ne_of_lt h
theorem Df.gt {a b : Nat} (h : b < a) : Df a b := Nat.ne_of_gt h

/-- What an end is told to be: less, and nothing that is new. -/
def EPl (n : Nat) (e e0 : AEnd) : Prop := ∃ e1, ELe e e1 ∧ EStr n e1 e0
theorem EPl.ret {n : Nat} {a b c : A} (h : Le a b) (k : Str n b c) : EPl n (.ret a) (.ret c) := ⟨_, .ret h, .ret _ _ k⟩
theorem EPl.str {n : Nat} {a c : A} (k : Str n a c) : EPl n (.ret a) (.ret c) := ⟨_, .ret (Le.refl _), .ret _ _ k⟩
theorem EPl.unit {n : Nat} : EPl n (.ret (.tup [])) (.ret (.tup [])) := ⟨_, .ret (Le.refl _), .ret _ _ (.tup _ _ rfl (fun j c c' h _ => by simp at h))⟩
theorem EPl.int {n : Nat} {k : IntKind} {i j : Int} (h : i = j) : EPl n (.ret (.int k i)) (.ret (.int k j)) := by subst h; exact .str (.int _ _)
theorem EPl.bool {n : Nat} {i j : Bool} (h : i = j) : EPl n (.ret (.bool i)) (.ret (.bool j)) := by subst h; exact .str (.bool _)
theorem EPl.string {n : Nat} {i j : List UInt8} (h : i = j) : EPl n (.ret (.str i)) (.ret (.str j)) := by subst h; exact .str (.str _)
theorem Str.agg3 {n : Nat} {a b c a' b' c' : A} (h1 : Str n a a') (h2 : Str n b b') (h3 : Str n c c') : Str n (.agg [a, b, c]) (.agg [a', b', c']) := .agg _ _ rfl (fun j d d' h h' => by
  match j with
  | 0 => injection h with h; injection h' with h'; subst h h'; exact h1
  | 1 => injection h with h; injection h' with h'; subst h h'; exact h2
  | 2 => injection h with h; injection h' with h'; subst h h'; exact h3
  | j + 3 => cases h)

theorem mapOf_eq {σ : St} {i : Nat} {es : List (A × A)} (h : σ.obj i = .map es) : mapOf σ (.map i) = some es := by simp only [mapOf, h]

/-- An object that leads to nothing new. -/
def closedO (n : Nat) : AO → Prop
  | .cells cs => ∀ c ∈ cs, Str n c c
  | .map es => ∀ (j : Nat) (k v : A), es[j]? = some (k, v) → Str n k k ∧ Str n v v
  | .row _ => True

/-- Whoever changes only some objects, and makes others anew. -/
def Ch (ch : Nat → Prop) (n : Nat) : Nat → Nat → Prop := fun id _ => ch id ∨ n ≤ id
def Old (ch : Nat → Prop) : Nat → Nat → Prop := fun id _ => ch id

theorem ACalls.to {P : Program} {f : FuncId} {args : List A} {σ : St} {ch : Nat → Prop} {e0 : AEnd} {τ : St} (hn : τ.n = σ.n) (hb : τ.base = σ.base) (hsame : ∀ id, ¬ ch id → id < σ.n → τ.obj id = σ.obj id) (hcl : ∀ id, ch id → closedO σ.n (τ.obj id))
    (h : ACalls P f args σ (Ch ch σ.n) (fun e σ' => (∀ id, ch id → id < σ.n → σ'.obj id = τ.obj id) ∧ EPl σ.n e e0)) : ACalls P f args σ (Old ch) (fun e σ' => σ' = τ ∧ e = e0) := by
  have h1 : ACalls P f args σ (Old ch) (fun e σ' => (∀ id, ch id → id < σ.n → σ'.obj id = τ.obj id) ∧ EStr σ.n e e0) :=
    (ACalls.less (R' := fun e σ' => (∀ id, ch id → id < σ.n → σ'.obj id = τ.obj id) ∧ EStr σ.n e e0) h (fun e σ' ⟨q1, e1, q2, q3⟩ => ⟨e1, q2, q1, q3⟩)).frame (fun id off hid hm => hm.resolve_right (Nat.not_le_of_lt hid))
  refine ACalls.gc h1 (fun e σ' hk hR => ⟨τ, e0, hn, hb, fun id hid => ?_, fun id hid => ?_, hR.2, rfl, rfl⟩)
  · by_cases hc : ch id
    · exact (hR.1 id hc hid).symm
    · rw [hsame id hc hid]; exact (hk.same hid (fun off q => hc q)).symm
  · by_cases hc : ch id
    · rw [hR.1 id hc hid]
      have := hcl id hc
      cases hq : τ.obj id with
      | cells cs => rw [hq] at this; exact fun off c _ hj => this c (List.mem_of_getElem? hj)
      | map es => rw [hq] at this; exact fun _ => this
      | row hw => trivial
    · cases σ'.obj id with
      | cells cs => exact fun off c hm => absurd hm hc
      | map es => exact fun hm => absurd hm hc
      | row hw => trivial

/-- The same, what is left being told at the end. -/
theorem ACalls.toE {P : Program} {f : FuncId} {args : List A} {σ : St} {ch : Nat → Prop} {R : AEnd → St → Prop}
    (h : ACalls P f args σ (Ch ch σ.n) (fun e σ' => ∃ τ e0, τ.n = σ.n ∧ τ.base = σ.base ∧ (∀ id, ¬ ch id → id < σ.n → τ.obj id = σ.obj id) ∧ (∀ id, ch id → closedO σ.n (τ.obj id)) ∧ (∀ id, ch id → id < σ.n → σ'.obj id = τ.obj id) ∧ EPl σ.n e e0 ∧ R e0 τ)) :
    ACalls P f args σ (Old ch) R := by
  have h1 : ACalls P f args σ (Old ch) (fun e σ' => ∃ τ e0, τ.n = σ.n ∧ τ.base = σ.base ∧ (∀ id, ¬ ch id → id < σ.n → τ.obj id = σ.obj id) ∧ (∀ id, ch id → closedO σ.n (τ.obj id)) ∧ (∀ id, ch id → id < σ.n → σ'.obj id = τ.obj id) ∧ EStr σ.n e e0 ∧ R e0 τ) :=
    (ACalls.less h (fun e σ' ⟨τ, e0, q1, q2, q3, q4, q5, ⟨e1, q6, q7⟩, q8⟩ => ⟨e1, q6, τ, e0, q1, q2, q3, q4, q5, q7, q8⟩)).frame (fun id off hid hm => hm.resolve_right (Nat.not_le_of_lt hid))
  refine ACalls.gc h1 (fun e σ' hk ⟨τ, e0, q1, q2, q3, q4, q5, q6, q7⟩ => ⟨τ, e0, q1, q2, fun id hid => ?_, fun id hid => ?_, q6, q7⟩)
  · by_cases hc : ch id
    · exact (q5 id hc hid).symm
    · rw [q3 id hc hid]; exact (hk.same hid (fun off q => hc q)).symm
  · by_cases hc : ch id
    · rw [q5 id hc hid]
      have := q4 id hc
      cases hq : τ.obj id with
      | cells cs => rw [hq] at this; exact fun off c _ hj => this c (List.mem_of_getElem? hj)
      | map es => rw [hq] at this; exact fun _ => this
      | row hw => trivial
    · cases σ'.obj id with
      | cells cs => exact fun off c hm => absurd hm hc
      | map es => exact fun hm => absurd hm hc
      | row hw => trivial

def NoC : Nat → Prop := fun _ => False
/-- One that only reads. -/
theorem ACalls.reads {P : Program} {f : FuncId} {args : List A} {σ : St} {e0 : AEnd} (h : ACalls P f args σ (Ch NoC σ.n) (fun e σ' => EPl σ.n e e0)) (m) : ACalls P f args σ m (fun e σ' => σ' = σ ∧ e = e0) :=
  (ACalls.to (ch := NoC) (τ := σ) rfl rfl (fun _ _ _ => rfl) (fun _ q => q.elim) (h.mono fun e σ' q => ⟨fun _ q => q.elim, q⟩)).frame (fun _ _ _ q => q.elim)
/-- One that changes one object. -/
theorem ACalls.set1 {P : Program} {f : FuncId} {args : List A} {σ : St} {e0 : AEnd} {r : Nat} {o : AO} (hr : r < σ.n) (hcl : closedO σ.n o)
    (h : ACalls P f args σ (Ch (· = r) σ.n) (fun e σ' => σ'.obj r = o ∧ EPl σ.n e e0)) : ACalls P f args σ (Old (· = r)) (fun e σ' => σ' = σ.set r o ∧ e = e0) :=
  ACalls.to (ch := (· = r)) (τ := σ.set r o) rfl rfl (fun id q _ => upd_ne _ _ q) (fun id q => by subst q; rw [show (σ.set id o).obj id = o from upd_same _ _ _]; exact hcl)
    (h.mono fun e σ' ⟨q1, q2⟩ => ⟨fun id hid _ => by subst hid; rw [q1]; exact (upd_same _ _ _).symm, q2⟩)
/-- One that changes two. -/
theorem ACalls.set2 {P : Program} {f : FuncId} {args : List A} {σ : St} {e0 : AEnd} {r q : Nat} {o o' : AO} (hrq : r ≠ q) (hcl : closedO σ.n o) (hcl' : closedO σ.n o')
    (h : ACalls P f args σ (Ch (fun id => id = r ∨ id = q) σ.n) (fun e σ' => σ'.obj r = o ∧ σ'.obj q = o' ∧ EPl σ.n e e0)) : ACalls P f args σ (Old (fun id => id = r ∨ id = q)) (fun e σ' => σ' = (σ.set r o).set q o' ∧ e = e0) :=
  ACalls.to (ch := fun id => id = r ∨ id = q) (τ := (σ.set r o).set q o') rfl rfl (fun id hc _ => by rw [St.set_ne _ _ (fun e => hc (.inr e)), St.set_ne _ _ (fun e => hc (.inl e))])
    (fun id hc => by
      rcases hc with rfl | rfl
      · rw [St.set_ne _ _ hrq, St.set_same]; exact hcl
      · rw [St.set_same]; exact hcl')
    (h.mono fun e σ' ⟨q1, q2, q3⟩ => ⟨fun id hid _ => by
      rcases hid with rfl | rfl
      · rw [St.set_ne _ _ hrq, St.set_same]; exact q1
      · rw [St.set_same]; exact q2, q3⟩)
end Go.Proofs.YtkpijfgananjjaaDoor.Ga
