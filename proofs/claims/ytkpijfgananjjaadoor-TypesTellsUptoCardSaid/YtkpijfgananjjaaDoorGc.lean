/- Loops that count; numbers of 64 bits. -/
import Derived.Test.YtkpijfgananjjaaDoorGb
import Derived.Test.YtkpijfgananjjaaDoorChecked
import Derived.KernelRfl
set_option linter.unusedVariables false
set_option linter.unusedSimpArgs false
namespace Go.Proofs.YtkpijfgananjjaaDoor.Ga
theorem mixed : Tryd.prog.follows .mixedOrders = true := by kernel_rfl
def Non : Nat → Nat → Prop := fun _ _ => False

theorem w64 {n : Int} (h0 : -9223372036854775808 ≤ n) (h1 : n < 9223372036854775808) : IntKind.i64.wrap n = n := by
  unfold IntKind.wrap
  have e1 : IntKind.i64.min = -9223372036854775808 := by decide
  have e2 : IntKind.i64.signed = true := by decide
  have e3 : IntKind.i64.bits = 64 := by decide
  simp only [e1, e2, e3]
  first
    | omega
    | (simp; omega)

theorem iEq {i j : Int} (h : i = j) : some (A.int .i64 i) = some (A.int .i64 j) := by rw [h]

theorem sEq {a b : List UInt8} (h : a = b) : some (A.str a) = some (A.str b) := by rw [h]

/-- What a round must come to. -/
def Next {S : Type} (n : Nat) (env0 : Nat → S → Env) (J : Nat → S → St → Prop) (j : Nat) (env' : Env) (σ' : St) : Prop := ∃ k' env'', k' < n - j ∧ EnvSub env'' env' ∧ ∃ j' s, k' = n - j' ∧ J j' s σ' ∧ env'' = env0 j' s
theorem Next.of {S : Type} {n : Nat} {env0 : Nat → S → Env} {J : Nat → S → St → Prop} {j : Nat} {env' : Env} {σ' : St} (s : S) (hj : j < n) (he : EnvSub (env0 (j + 1) s) env') (h : J (j + 1) s σ') : Next n env0 J j env' σ' :=
  ⟨n - (j + 1), _, by omega, he, j + 1, s, rfl, h, rfl⟩

/-- A loop that counts from 0 on, with something beside. -/
theorem ALoop.range {P : Program} {m : Nat → Nat → Prop} {body : Env → St → Post → Prop} {env : Env} {σ : St} {Q : Post} {S : Type} (n : Nat) (env0 : Nat → S → Env) (J : Nat → S → St → Prop) (s0 : S) (hsub : EnvSub (env0 0 s0) env) (h0 : J 0 s0 σ)
    (hround : ∀ j s σ, J j s σ → body (env0 j s) σ (thenQ (fun env' σ' => Next n env0 J j env' σ') Q)) : ALoop P m body env σ Q := by
  refine ⟨fun k env1 σ1 => ∃ j s, k = n - j ∧ J j s σ1 ∧ env1 = env0 j s, n, env0 0 s0, hsub, ⟨0, s0, rfl, h0, rfl⟩, ?_⟩
  rintro k env1 σ1 ⟨j, s, rfl, hJ, rfl⟩
  exact hround j s σ1 hJ

/-! ### Slices that grow -/
/-- What a slice that grows holds; its token is newer than n. -/
def Grow (n sz : Nat) (σ : St) (L : List A) (a : A) : Prop := (L = [] ∧ a = .nils) ∨ ∃ t, n ≤ t ∧ t < σ.n ∧ σ.obj t = .row L.length ∧ a = .sl (.tok t) sz L
/-- All that isn't a row is as it was. -/
def SameO (σ σ' : St) : Prop := σ.n ≤ σ'.n ∧ σ'.base = σ.base ∧ ∀ id, id < σ.n → (∀ hw, σ.obj id ≠ .row hw) → σ'.obj id = σ.obj id
theorem SameO.cells {σ σ' : St} (h : SameO σ σ') {id : Nat} {cs : List A} (hid : id < σ.n) (hc : σ.obj id = .cells cs) : σ'.obj id = .cells cs := by rw [h.2.2 id hid (fun hw q => by rw [hc] at q; cases q), hc]
theorem SameO.map {σ σ' : St} (h : SameO σ σ') {id : Nat} {es : List (A × A)} (hid : id < σ.n) (hc : σ.obj id = .map es) : σ'.obj id = .map es := by rw [h.2.2 id hid (fun hw q => by rw [hc] at q; cases q), hc]
theorem Grow.le {n sz : Nat} {σ : St} {L : List A} {a : A} (h : Grow n sz σ L a) : Le a (.sl .no sz L) := by
  rcases h with ⟨rfl, rfl⟩ | ⟨t, _, _, _, rfl⟩
  · exact Le.nils _
  · exact Le.own _ _ _
theorem Grow.nil {n sz : Nat} {σ : St} : Grow n sz σ [] .nils := .inl ⟨rfl, rfl⟩
/-- It stays one where no row is written. -/
theorem Grow.keep {n sz : Nat} {σ σ' : St} {L : List A} {a : A} (h : Grow n sz σ L a) (hn : σ.n ≤ σ'.n) (hr : ∀ id hw, n ≤ id → id < σ.n → σ.obj id = .row hw → σ'.obj id = .row hw) : Grow n sz σ' L a := by
  rcases h with h | ⟨t, h1, h2, h3, h4⟩
  · exact .inl h
  · exact .inr ⟨t, h1, by omega, hr t _ h1 h2 h3, h4⟩
theorem app1t {n sz bytes : Nat} {σ : St} {L : List A} {a e : A} {m : Nat → Nat → Prop} {k : A → St → Prop} (h : Grow n sz σ L a) (hn : n ≤ σ.n) (hb : bytes ≤ 4096) (hlen : L.length ≤ 1000000000) (he : e.cells.length = sz ∧ scalars e.cells = true) (hm : ∀ t, n ≤ t → t < σ.n → (∃ hw, σ.obj t = .row hw) → m t 0)
    (hk : ∀ t σ', SameO σ σ' → n ≤ t → t < σ'.n → σ'.obj t = .row (L ++ [e]).length → k (.sl (.tok t) sz (L ++ [e])) σ') : match destOf sz a, elemsOf false sz (.sl .full sz [e]) with | some (o, xs), some ys => appendS m σ sz bytes o xs ys k | _, _ => False := by
  have e1 : elemsOf false sz (.sl .full sz [e]) = some [e] := by simp [elemsOf]
  have h1 : 2 * (L.length + 1) * bytes ≤ 281474976710656 := by
    have : 2 * (L.length + 1) * bytes ≤ 2 * (1000000000 + 1) * 4096 := Nat.mul_le_mul (by omega) hb
    omega
  have hall : ∀ x ∈ [e], x.cells.length = sz ∧ scalars x.cells = true := fun x hx => by rcases List.mem_singleton.1 hx with rfl; exact he
  rcases h with ⟨rfl, rfl⟩ | ⟨t, t1, t2, t3, rfl⟩
  · rw [e1]
    show appendS m σ sz bytes .full [] [e] k
    refine ⟨by simpa using h1, by simp, hall, ?_⟩
    show ([e] = [] → ([] : List A) = []) ∧ _
    refine ⟨fun _ => rfl, ?_⟩
    refine hk _ _ ⟨Nat.le_succ _, rfl, fun id hid _ => upd_ne _ _ (by omega)⟩ hn (Nat.lt_succ_self _) (upd_same _ _ _)
  · have e2 : destOf sz (.sl (.tok t) sz L) = some (.tok t, L) := by simp [destOf]
    rw [e1, e2]
    show appendS m σ sz bytes (.tok t) L [e] k
    refine ⟨by simpa using h1, by simp; omega, hall, ?_⟩
    show m t 0 ∧ σ.obj t = .row L.length ∧ _
    refine ⟨hm t t1 t2 ⟨_, t3⟩, t3, ?_⟩
    exact hk _ _ ⟨Nat.le_refl _, rfl, fun id hid hr => upd_ne _ _ (fun q => by subst q; exact hr _ t3)⟩ t1 t2 (upd_same _ _ _)
theorem app1 {n sz bytes : Nat} {σ : St} {L : List A} {a e : A} {m : Nat → Nat → Prop} {k : A → St → Prop} (h : Grow n sz σ L a) (hn : n ≤ σ.n) (hb : bytes ≤ 4096) (hlen : L.length ≤ 1000000000) (he : e.cells.length = sz ∧ scalars e.cells = true) (hm : ∀ t, n ≤ t → t < σ.n → (∃ hw, σ.obj t = .row hw) → m t 0)
    (hk : ∀ a' σ', SameO σ σ' → Grow n sz σ' (L ++ [e]) a' → k a' σ') : match destOf sz a, elemsOf false sz (.sl .full sz [e]) with | some (o, xs), some ys => appendS m σ sz bytes o xs ys k | _, _ => False :=
  app1t h hn hb hlen he hm (fun t σ' hs h1 h2 h3 => hk _ _ hs (.inr ⟨t, h1, h2, h3, rfl⟩))
end Go.Proofs.YtkpijfgananjjaaDoor.Ga
