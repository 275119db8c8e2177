/- What a walk by 'whnf' needs. -/
import Derived.Test.YtkpijfgananjjaaDoorGa11
set_option linter.unusedVariables false
set_option linter.unusedSimpArgs false
namespace Go.Proofs.YtkpijfgananjjaaDoor.Ga

/-- What a function's end is to meet: the walk stops there. -/
def Fin (p : Prop) : Prop := p
theorem Fin.of {p : Prop} (h : p) : Fin p := h

theorem Bc_split {c : Bool} {p q : Prop} (h1 : c = true → p) (h2 : c = false → q) : Bc c p q := ⟨h1, h2⟩
theorem Bc_t {p q : Prop} (h : p) : Bc true p q := ⟨fun _ => h, fun h => by cases h⟩
theorem Bc_f {p q : Prop} (h : q) : Bc false p q := ⟨fun h => (by cases h), fun _ => h⟩

theorem St.set_same (σ : St) (id : Nat) (o : AO) : (σ.set id o).obj id = o := upd_same _ _ _
theorem St.set_ne (σ : St) {id j : Nat} (o : AO) (h : j ≠ id) : (σ.set id o).obj j = σ.obj j := upd_ne _ _ h
theorem St.set_n (σ : St) (id : Nat) (o : AO) : (σ.set id o).n = σ.n := rfl
theorem St.set_base (σ : St) (id : Nat) (o : AO) : (σ.set id o).base = σ.base := rfl
theorem St.new_base (σ : St) (o : AO) : (σ.new o).base = σ.base := rfl
theorem St.new_same (σ : St) (o : AO) : (σ.new o).obj σ.n = o := upd_same _ _ _
theorem St.new_ne (σ : St) {j : Nat} (o : AO) (h : j ≠ σ.n) : (σ.new o).obj j = σ.obj j := upd_ne _ _ h
theorem St.new_n (σ : St) (o : AO) : (σ.new o).n = σ.n + 1 := rfl
theorem St.set_set (σ : St) (id : Nat) (a b : AO) : (σ.set id a).set id b = σ.set id b := by
  simp only [St.set, St.mk.injEq, true_and, and_true]
  funext j
  unfold upd
  split <;> rfl
theorem St.set_self (σ : St) (id : Nat) (a : AO) (h : σ.obj id = a) : σ.set id a = σ := by
  cases σ with
  | mk n obj =>
    simp only [St.set, St.mk.injEq, true_and, and_true]
    funext j
    unfold upd
    split
    · rename_i e; subst e; exact h.symm
    · rfl

theorem acalls_go {P : Program} {m : Nat → Nat → Prop} (hm : P.follows .mixedOrders = true) {f : FuncId} {fn : Func} {sf : SFun} (hf : P.funcs[f]? = some fn) (hc : cFun P fn = some sf) {args : List A} {σ : St} {R : AEnd → St → Prop} (hargs : args.length ≤ sf.n)
    (h : wpC P m sf.body (envOf 0 args) σ (retQ sf.res fun e σ' => Fin (R e σ'))) : ACalls P f args σ m R := acalls_of hm hf hc hargs h

end Go.Proofs.YtkpijfgananjjaaDoor.Ga
