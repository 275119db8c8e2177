/- Regions whose order is open: what only looks is taken first. -/
import Derived.Test.YtkpijfgananjjaaDoorGa8
import Derived.Orders
import Derived.OrdersHeld
set_option linter.unusedVariables false
set_option linter.unusedSimpArgs false
namespace Go.Proofs.YtkpijfgananjjaaDoor.Ga

/-- A step that only looks. -/
def quietK : SOp → Bool
  | .mov _ | .pick _ _ _ | .nilCheck _ | .un _ _ | .toInt _ _ | .mkIface _ _ | .mkFunc _ _ | .fieldAddr _ _ | .field _ _ _ _ | .extract _ _ | .bin _ _ _ _ | .idxStr _ _ | .idxAddr _ _ _ | .len .str _ | .len .sl _ | .sliceStr _ _ _
  | .tassert _ _ _ _ | .build _ _ | .load _ _ _ | .isnil _ _ _ | .eqS _ _ _ _ | .toStr _ | .sliceSl _ _ _ _ _ | .mnmx _ _ _ | .lookup _ _ _ _ _ | .len .map _ => true
  | _ => false

section
variable {P : Program} {m : Nat → Nat → Prop} {x : X} {act : Act} {o : Oper} {k pk : A → St → Prop} {env : Env} {n : Nat}

/-- What a load reads is the same in all worlds of S. -/
def LooksOk (S : World → Prop) (x : X) (env : Env) : SOp → Prop
  | .load agg sz p => ∀ v, ev env p = some v → LoadOk S x agg sz v
  | .lookup _ _ p _ _ => ∀ v, ev env p = some v → MapIn S x v
  | .len .map p => ∀ v, ev env p = some v → MapIn S x v
  | .toStr _ => ∀ w, S w → ∀ b k own, x.g.kind b = .row k own → ∀ j, j < k → w.cell? ⟨b, j, none⟩ = x.w.cell? ⟨b, j, none⟩
  | _ => True

set_option maxHeartbeats 1000000 in
theorem cOp_quiet {S : World → Prop} (hx : Rel x) (he : EnvR x env n act) {so : SOp} (hc : cOp P o = some so) (hq : quietK so = true) (hS : LooksOk S x env so) (h : stepO P m env x.σ so k pk) : YlS P S x act o k := by
  have w : ∀ {k}, YlAll P x act o k → YlS P S x act o k := fun h => YlS.mono h (fun _ _ => trivial)
  unfold cOp at hc
  split at hc
  · rename_i e ho; obtain ⟨s, h1, rfl⟩ := mapSome hc; exact w (Yl.mov hx he h1 (.inl ho) h)
  · rename_i e ho; obtain ⟨s, h1, rfl⟩ := mapSome hc; exact w (Yl.mov hx he h1 (.inr ho) h)
  · rename_i ho
    split at hc
    · rename_i h1 h2 h3; injection hc with hc; subst hc; exact w (Yl.pick (m := m) (pk := pk) hx he h1 h2 h3 ho h)
    · cases hc
  · split at hc
    · injection hc with hc; subst hc; simp [quietK] at hq
    · cases hc
  · obtain ⟨s, h1, rfl⟩ := mapSome hc; simp [quietK] at hq
  · rename_i ho
    split at hc
    · rename_i h1 h2
      split at hc
      · cases hc
      · rename_i h3
        split at hc
        · rename_i h4; injection hc with hc; subst hc; exact w (Yl.build (m := m) (pk := pk) hx he h1 h2 (by simpa only [Bool.not_eq_false] using h3) h4 ho h)
        · cases hc
    · cases hc
  · split at hc
    · split at hc
      · split at hc
        · injection hc with hc; subst hc; simp [quietK] at hq
        · cases hc
      · cases hc
    · cases hc
  · rename_i ho
    split at hc
    · rename_i h1 h2 h3; injection hc with hc; subst hc; exact Yl.load hx he h1 h2 h3 ho hS h
    · cases hc
  · split at hc
    · injection hc with hc; subst hc; simp [quietK] at hq
    · cases hc
  · rename_i ho; obtain ⟨s, h1, rfl⟩ := mapSome hc; exact w (Yl.nilCheck (m := m) (pk := pk) hx he h1 ho h)
  · rename_i ho
    split at hc
    · rename_i hn; obtain ⟨s, h3, rfl⟩ := mapSome hc; exact w (Yl.isnil (m := m) (pk := pk) hx he hn h3 ho h)
    · split at hc
      · rename_i h1 h2
        split at hc
        · rename_i hqq; injection hc with hc; subst hc; exact w (Yl.eqS (m := m) (pk := pk) hx he hqq h1 h2 ho h)
        · injection hc with hc; subst hc; exact w (Yl.bin (m := m) (pk := pk) hx he h1 h2 ho h)
      · cases hc
  · rename_i ho; obtain ⟨s, h1, rfl⟩ := mapSome hc; exact w (Yl.un (m := m) (pk := pk) hx he h1 ho h)
  · rename_i ho
    split at hc
    · rename_i h1 h2; obtain ⟨s, h3, rfl⟩ := mapSome hc; exact w (Yl.toInt (m := m) (pk := pk) hx he h1 h2 h3 ho h)
    · rename_i h1 h2
      split at hc
      · rename_i h4; obtain ⟨s, h3, rfl⟩ := mapSome hc; exact Yl.toStr (m := m) (pk := pk) hx he h1 h4 h2 h3 ho hS h
      · cases hc
    · cases hc
  · rename_i ho
    split at hc
    · rename_i h1; obtain ⟨s, h3, rfl⟩ := mapSome hc; exact w (Yl.mkIface (m := m) (pk := pk) hx he h1 h3 ho h)
    · cases hc
  · rename_i ho
    split at hc
    · rename_i h1; obtain ⟨s, h3, rfl⟩ := mapSome hc; exact w (Yl.mkFunc (m := m) (pk := pk) hx he h1 h3 ho h)
    · cases hc
  · injection hc with hc; subst hc; simp [quietK] at hq
  · rename_i ho
    split at hc
    · rename_i h1 h2 h3 h4; injection hc with hc; subst hc; exact w (Yl.sliceStr (m := m) (pk := pk) hx he h1 h2 h3 h4 ho h)
    · rename_i h1 h2 h3 h4
      split at hc
      · rename_i h5 h6; injection hc with hc; subst hc; exact w (Yl.sliceSl (m := m) (pk := pk) hx he h1 h5 (Nat.succ_pos _) h2 h3 h4 h6 ho h)
      · cases hc
    · cases hc
  · rename_i ho
    split at hc
    · rename_i h1 h2
      split at hc
      · rename_i h3; injection hc with hc; subst hc; exact w (Yl.fieldAddr (m := m) (pk := pk) hx he h1 h3 h2 ho h)
      · cases hc
    · cases hc
  · rename_i ho
    split at hc
    · rename_i h1 h2
      split at hc
      · rename_i h3 h4; injection hc with hc; subst hc; exact w (Yl.field (m := m) (pk := pk) hx he h1 h3 h4 h2 ho h)
      · cases hc
    · cases hc
  · rename_i ho
    split at hc
    · rename_i h1 h2 h3
      split at hc
      · rename_i h4; injection hc with hc; subst hc; exact w (Yl.idxAddr (m := m) (pk := pk) hx he h1 h4 (Nat.succ_pos _) h2 h3 ho h)
      · cases hc
    · cases hc
  · rename_i ho
    split at hc
    · rename_i h1 h2 h3; injection hc with hc; subst hc; exact w (Yl.idxStr (m := m) (pk := pk) hx he h1 h2 h3 ho h)
    · cases hc
  · rename_i ho; obtain ⟨s, h1, rfl⟩ := mapSome hc; exact w (Yl.extract (m := m) (pk := pk) hx he h1 ho h)
  · rename_i ho
    split at hc
    · rename_i h1 h2 h3; injection hc with hc; subst hc; exact w (Yl.tassert (m := m) (pk := pk) hx he h1 h2 h3 ho h)
    · cases hc
  · split at hc
    · obtain ⟨s, h3, rfl⟩ := mapSome hc; simp [quietK] at hq
    · cases hc
  · obtain ⟨s, h1, rfl⟩ := mapSome hc; simp [quietK] at hq
  · rename_i ho
    split at hc
    · rename_i ha ht
      obtain rfl := arr1 ha
      obtain rfl := arr1 ht
      split at hc
      · rename_i h1; obtain ⟨s, h3, rfl⟩ := mapSome hc; exact w (Yl.lenStr (m := m) (pk := pk) hx he h1 h3 ho h)
      · rename_i h1; obtain ⟨s, h3, rfl⟩ := mapSome hc; exact w (Yl.lenSl (m := m) (pk := pk) hx he h1 h3 ho h)
      · rename_i h1; obtain ⟨s, h3, rfl⟩ := mapSome hc; exact Yl.lenMap (m := m) (pk := pk) hx he h1 h3 ho hS h
      · cases hc
    · cases hc
  · split at hc
    · split at hc
      · split at hc
        · split at hc
          · injection hc with hc; subst hc; simp [quietK] at hq
          · cases hc
        · cases hc
      · split at hc
        · split at hc
          · injection hc with hc; subst hc; simp [quietK] at hq
          · cases hc
        · cases hc
      · cases hc
    · cases hc
  · split at hc
    · obtain ⟨s, h3, rfl⟩ := mapSome hc; simp [quietK] at hq
    · cases hc
  · obtain ⟨s, h1, rfl⟩ := mapSome hc; simp [quietK] at hq
  · rename_i ho
    split at hc
    · rename_i h1 h2 h3; obtain ⟨z, h4, rfl⟩ := mapSome hc; exact Yl.lookup (m := m) (pk := pk) hx he h1 h4 h2 h3 ho hS h
    · cases hc
  · split at hc
    · injection hc with hc; subst hc; simp [quietK] at hq
    · cases hc
  · split at hc
    · injection hc with hc; subst hc; simp [quietK] at hq
    · cases hc
  · split at hc
    · split at hc
      · injection hc with hc; subst hc; simp [quietK] at hq
      · cases hc
    · cases hc
  · split at hc
    · split at hc
      · obtain ⟨s, h3, rfl⟩ := mapSome hc; simp [quietK] at hq
      · cases hc
    · cases hc
  · rename_i ho
    split at hc
    · rename_i ha
      obtain rfl := arr2 ha
      split at hc
      · rename_i h1 h2; injection hc with hc; subst hc; exact w (Yl.mnmx (mn := true) (m := m) (pk := pk) hx he h1 h2 ho h)
      · cases hc
    · cases hc
  · rename_i ho
    split at hc
    · rename_i ha
      obtain rfl := arr2 ha
      split at hc
      · rename_i h1 h2; injection hc with hc; subst hc; exact w (Yl.mnmx (mn := false) (m := m) (pk := pk) hx he h1 h2 ho h)
      · cases hc
    · cases hc
  · cases hc
end

/-! ### Whatever order: 'S' holds behind each operation but the last ones -/
def wpAnyT (P : Program) (ops : Array Oper) (Q : Exit → Act → World → Prop) (S : World → Prop) (last : Nat) : Nat → Array Bool → Act → World → Prop
  | 0, listed, a, w => Region.ready .any ops listed = [] ∧ Q .normal a w
  | fuel + 1, listed, a, w =>
    (Region.ready .any ops listed = [] → Q .normal a w) ∧
    ∀ i ∈ Region.ready .any ops listed, wpOp P ops Q i (fun a' w' => (i < last → S w') ∧ wpAnyT P ops Q S last fuel (listed.setIfInBounds i true) a' w') a w

section
variable {P : Program} {ops : Array Oper} {Q : Exit → Act → World → Prop} {S : World → Prop} {last : Nat}

theorem wpAny_of_T : ∀ (fuel : Nat) (listed : Array Bool) (a : Act) (w : World), wpAnyT P ops Q S last fuel listed a w → wpAny P .any ops Q fuel listed a w
  | 0, _, _, _, h => h
  | fuel + 1, _, _, _, h => ⟨h.1, fun i hi => wpOp_mono (fun a' w' h' => wpAny_of_T fuel _ a' w' h'.2) (h.2 i hi)⟩

/-- What must be done ahead of k, through others. -/
inductive Chain (ops : Array Oper) (i : Nat) : Nat → Prop where
  | here {k : Nat} {ok : Oper} {e : Edge} (h : ops[k]? = some ok) (he : e ∈ ok.after) (hb : Region.binds .any e = true) (hi : e.on = i) : Chain ops i k
  | step {k : Nat} {ok : Oper} {e : Edge} (h : ops[k]? = some ok) (he : e ∈ ok.after) (hb : Region.binds .any e = true) (hc : Chain ops i e.on) : Chain ops i k
/-- Behind what is done stands nothing that isn't. -/
def ClosedL (ops : Array Oper) (listed : Array Bool) : Prop := ∀ (k : Nat) ok, ops[k]? = some ok → listed.getD k false = true → ∀ e ∈ ok.after, Region.binds .any e = true → listed.getD e.on false = true
theorem Chain.listed {ops : Array Oper} {i : Nat} {listed : Array Bool} (hcl : ClosedL ops listed) {k : Nat} (h : Chain ops i k) (hk : listed.getD k false = true) : listed.getD i false = true := by
  induction h with
  | here h he hb hi => rw [← hi]; exact hcl _ _ h hk _ he hb
  | step h he hb _ ih => exact ih (hcl _ _ h hk _ he hb)
theorem getD_set_mono {listed : Array Bool} {j k : Nat} (h : listed.getD k false = true) : (listed.setIfInBounds j true).getD k false = true := by
  by_cases hjk : j = k
  · subst hjk
    have : j < listed.size := by
      rcases Nat.lt_or_ge j listed.size with q | q
      · exact q
      · simp [Array.getElem?_eq_none q] at h
    simp [this]
  · rw [getD_set_ne false hjk]; exact h
theorem closed_none (ops : Array Oper) : ClosedL ops (Array.replicate ops.size false) := by
  intro k ok hk hl
  have hks : k < ops.size := (Array.getElem?_eq_some_iff.1 hk).1
  simp [hks] at hl
theorem closed_set {ops : Array Oper} {listed : Array Bool} (hcl : ClosedL ops listed) {j : Nat} (hj : j ∈ Region.ready .any ops listed) : ClosedL ops (listed.setIfInBounds j true) := by
  intro k ok hk hl e he hb
  refine getD_set_mono ?_
  by_cases hjk : j = k
  · subst hjk
    obtain ⟨_, oj, hoj, hall⟩ := mem_ready.1 hj
    rw [hk] at hoj
    injection hoj with hoj
    subst hoj
    exact hall e he hb
  · rw [getD_set_ne false hjk] at hl
    exact hcl k ok hk hl e he hb

theorem wpAnyT_first {i : Nat} {oi : Oper} {v : Value} (hi : ops[i]? = some oi) (hsel : ∀ (j : Nat) (o : Oper) cs b, ops[j]? = some o → o.op ≠ .select cs b)
    (hil : i < last) (hlast : ∀ j ol, last ≤ j → ops[j]? = some ol → Chain ops i j)
    (hQ : ∀ c a w, Q (.panic c) (a.put oi.dst v) w → Q (.panic c) a w) :
    ∀ (fuel : Nat) (listed : Array Bool) (a : Act) (w : World),
      (∀ j oj, ops[j]? = some oj → j ≠ i → listed.getD j true = false → (∀ e ∈ oj.after, Region.binds .any e = true → e.on ≠ i) → oi.apart ops oj = true) →
      ClosedL ops listed → i ∈ Region.ready .any ops listed → YieldsIf P ops S oi v a → S w →
      wpAnyT P ops Q S last fuel (listed.setIfInBounds i true) (a.put oi.dst v) w → wpAnyT P ops Q S last (fuel + 1) listed a w := by
  intro fuel
  induction fuel with
  | zero =>
    intro listed a w _ hcl hr hy hS H
    refine ⟨fun h => (by rw [h] at hr; cases hr), fun j hj => ?_⟩
    by_cases hji : j = i
    · subst hji; exact hy.wpOp hi hS ⟨fun _ => hS, H⟩
    · have := ready_mono hj hji
      rw [H.1] at this
      cases this
  | succ fuel ih =>
    intro listed a w hfree hcl hr hy hS H
    refine ⟨fun h => (by rw [h] at hr; cases hr), fun j hj => ?_⟩
    by_cases hji : j = i
    · subst hji; exact hy.wpOp hi hS ⟨fun _ => hS, H⟩
    · have h1 := H.2 j (ready_mono hj hji)
      obtain ⟨hjun, oj, hoj, hall⟩ := mem_ready.1 hj
      have hnot : ∀ e ∈ oj.after, Region.binds .any e = true → e.on ≠ i := fun e he hb heq => by
        have h1 := hall e he hb
        have h0 := (mem_ready.1 hr).1
        rw [heq] at h1
        rcases Nat.lt_or_ge i listed.size with h' | h'
        · simp [h'] at h0 h1; rw [h0] at h1; cases h1
        · simp [Array.getElem?_eq_none h'] at h1
      have hjl : j < last := Nat.lt_of_not_le fun q => by
        have h0 := (mem_ready.1 hr).1
        have h1 : listed.getD i false = true := by
          cases hlast j oj q hoj with
          | here h he hb hi => rw [hoj] at h; injection h with h; subst h; exact absurd hi (hnot _ he hb)
          | step h he hb hc => rw [hoj] at h; injection h with h; subst h; exact hc.listed hcl (hall _ he hb)
        rcases Nat.lt_or_ge i listed.size with h' | h'
        · simp [h'] at h0 h1; rw [h0] at h1; cases h1
        · simp [Array.getElem?_eq_none h'] at h1
      have h2 := wpOp_putIf hoj (hfree j oj hoj hji hjun hnot) (fun cs b => hsel i oi cs b hi) (fun cs b => hsel j oj cs b hoj) hQ hy h1
      have hfree' : ∀ k ok, ops[k]? = some ok → k ≠ i → (listed.setIfInBounds j true).getD k true = false →
          (∀ e ∈ ok.after, Region.binds .any e = true → e.on ≠ i) → oi.apart ops ok = true := fun k ok hk hki hun hno => by
        refine hfree k ok hk hki ?_ hno
        by_cases hjk : j = k
        · subst hjk; exact hjun
        · rw [getD_set_ne true hjk] at hun; exact hun
      refine wpOp_mono (fun a' w' h3 => ⟨fun _ => h3.2.1 hjl, ih (listed.setIfInBounds j true) a' w' hfree' (closed_set hcl hj) (ready_mono hr (Ne.symm hji)) h3.1 (h3.2.1 hjl) ?_⟩) h2
      rw [Array.setIfInBounds_comm _ _ hji]
      exact h3.2.2
end
end Go.Proofs.YtkpijfgananjjaaDoor.Ga
