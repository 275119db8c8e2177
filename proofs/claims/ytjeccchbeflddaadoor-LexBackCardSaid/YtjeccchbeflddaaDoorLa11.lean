/- lex.Text; awake. -/
import Derived.Test.YtjeccchbeflddaaDoorLa10
set_option linter.unusedVariables false
set_option linter.unusedSimpArgs false
namespace Go.Proofs.YtjeccchbeflddaaDoor.Ga
open Lx

def c_digits : SFun := ⟨6, (.seq (.reg [⟨(some 2), (.mov (.const (.str []))), none⟩]) (.seq (.reg [⟨(some 3), (.mov (.tmp 0)), none⟩, ⟨(some 4), (.call 29 [(.tmp 3)]), none⟩, ⟨(some 5), (.call 28 [(.tmp 4), (.const (.int .i64 10))]), none⟩, ⟨(some 2), (.mov (.tmp 5)), none⟩]) .ret)), [(.tmp 2)]⟩
theorem c_digits_ok : cFun Tryd.prog Tryd.f18 = some c_digits := by kernel_rfl

/-- A contract of which nothing but a plain answer is left. -/
theorem gc_plain {P : Program} {f : FuncId} {args : List A} {σ : St} {R : AEnd → St → Prop} {a : A} (h : ACalls P f args σ (fun id _ => σ.n ≤ id) R) (hR : ∀ e σ', R e σ' → e = .ret a) (hs : Str σ.n a a) (m) : ACalls P f args σ m (fun e σ' => σ' = σ ∧ e = .ret a) := by
  refine (ACalls.gc (h.frame (m' := Non) fun id off hid hm => absurd hm (by omega)) fun e σ' hk hRe => ?_).frame (fun _ _ _ h => h.elim)
  refine ⟨σ, _, rfl, rfl, fun id hid => (hk.same hid (fun _ h => h.elim)).symm, fun id hid => ?_, by rw [hR e σ' hRe]; exact .ret _ _ hs, rfl, rfl⟩
  cases σ'.obj id with
  | cells cs => exact fun off c h => h.elim
  | map es => exact fun h => h.elim
  | row hw => trivial

theorem quoted_ok (s : List UInt8) (hs : s.length ≤ 1000000) (σ : St) (m) : ACalls Tryd.prog 20 [.str s] σ m (fun e σ' => σ' = σ ∧ e = .ret (.str (quote s))) :=
  gc_plain (quoted_raw s hs σ) (fun _ _ h => h) (.str _) m

/-- A token's text. -/
def textOf (t : Tk) : List UInt8 := if t.1 = 1 then Lib.itoa (t.2.2.1 : Int) else if t.1 = 2 then quote t.2.2.2 else if t.1 = 0 then [] else t.2.2.2

section
attribute [local irreducible] Bc ACallsW ALoop Fin St.set St.new
theorem digits_ok (n : Nat) (h : n < 4611686018427387904) (σ : St) (hB : B0 σ.base) (m) : ACalls Tryd.prog 18 [.int .u64 (2 * n + 1)] σ m (fun e σ' => σ' = σ ∧ e = .ret (.str (Lib.itoa n))) := by
  refine acalls_go mixed Tryd.func18 c_digits_ok (Nat.le_of_ble_eq_true rfl) ?_
  conv => whnf
  refine ACallsW.of (num_ok n h _ Non) (fun _ _ _ h => h.elim) ?_
  rintro _ σ1 _ ⟨e1, rfl⟩
  have e2 := e1.symm
  subst e2
  conv => whnf
  refine ACallsW.of (formatInt_ok n (by omega) (by omega) _ hB Non) (fun _ _ _ h => h.elim) ?_
  rintro _ σ1 _ ⟨e1, rfl⟩
  have e2 := e1.symm
  subst e2
  conv => whnf
  exact Fin.of ⟨rfl, rfl⟩

theorem lextext_raw (k at_ n : Nat) (S : List UInt8) (hn : k = 1 → n < 4611686018427387904) (hS : S.length ≤ 1000000) (σ : St) (hB : B0 σ.base) :
    ACalls Tryd.prog 12 [tokA k at_ n S] σ (fun id _ => σ.n ≤ id) (fun e σ' => e = .ret (.str (textOf (k, at_, n, S)))) := by
  refine acalls_go mixed Tryd.func12 c_lextext_ok (Nat.le_of_ble_eq_true rfl) ?_
  conv => whnf
  repeat' (first
      | (refine Bc_t ?_; conv => whnf)
      | (refine Bc_f ?_; conv => whnf)
      | (rw [g1]; conv => whnf)
      | (rw [g2]; conv => whnf)
      | (rw [g3]; conv => whnf)
      | (rw [g4]; conv => whnf)
      | (rw [g5]; conv => whnf)
      | (rw [g6]; conv => whnf)
      | (rw [hr]; conv => whnf)
      | (refine Bc_split (fun hb => ?_) (fun hb => ?_) <;> (rw [hb]; conv => whnf))
      | (refine And.intro (by first
          | omega
          | assumption
          | (simp only [St.set_n, St.new_n] at *; omega)
          | (simp; done)
          | (simp; omega)
          | (intro _; exact trivial)
          | (intro _; intro _ _; exact trivial)
          | (intro _; intro j hj; first | rfl | (have hj' : j < 1 := hj
                                                 obtain rfl : j = 0 := by omega
                                                 exact ⟨rfl, rfl⟩))
          | (intro j hj; obtain rfl : j = 0 := by omega
             first | exact ⟨rfl, rfl⟩ | exact .inl ⟨rfl, rfl⟩ | exact .inr (by omega) | exact ⟨by assumption, by assumption⟩ | assumption | trivial)
          | exact .inr (by assumption)
          | (intro j hj; exact .inr (by simp only [St.set_n, St.new_n] at *; omega))
          | (intro e he; rcases List.mem_singleton.1 he with rfl; exact ⟨rfl, rfl⟩)
          | (rw [St.set_ne _ _ (by first | assumption | omega | (simp only [St.set_n, St.new_n] at *; omega))]; assumption)
          | (rw [St.set_ne _ _ (by first | assumption | omega | (simp only [St.set_n, St.new_n] at *; omega)), St.set_ne _ _ (by first | assumption | omega | (simp only [St.set_n, St.new_n] at *; omega))]; assumption)
          | (simp only [decide_eq_true_eq, decide_eq_false_iff_not, Bool.not_eq_true, beq_iff_eq, beq_eq_false_iff_ne, ne_eq, ge_iff_le, gt_iff_lt] at *; omega)) ?_; conv => whnf)
      | (rw [St.set_same]; conv => whnf)
      | (rw [St.new_same]; conv => whnf)
      | (rw [St.set_ne _ _ (by first | assumption | omega | (simp only [St.set_n, St.new_n] at *; omega))]; conv => whnf)
      | (rw [St.new_ne _ _ (by first | assumption | omega | (simp only [St.set_n, St.new_n] at *; omega))]; conv => whnf))
  · have hk : k = 1 := by have := beq_iff_eq.1 hb; omega
    refine ACallsW.of (int_ok n (hn hk) _ Non) (fun _ _ _ h => h.elim) ?_
    rintro _ _ _ ⟨e1, rfl⟩
    subst e1
    conv => whnf
    refine ACallsW.of (digits_ok n (hn hk) _ (by rw [St.new_base]; exact hB) Non) (fun _ _ _ h => h.elim) ?_
    rintro _ _ _ ⟨e1, rfl⟩
    subst e1
    conv => whnf
    exact Fin.of (by rw [textOf, if_pos hk]; rfl)
  · rename_i h1
    have hk1 : k ≠ 1 := by have := beq_eq_false_iff_ne.1 h1; omega
    have hk : k = 2 := by have := beq_iff_eq.1 hb; omega
    refine ACallsW.of (quoted_ok S hS _ Non) (fun _ _ _ h => h.elim) ?_
    rintro _ _ _ ⟨e1, rfl⟩
    subst e1
    conv => whnf
    exact Fin.of (by rw [textOf, if_neg hk1, if_pos hk]; rfl)
  · rename_i h1 h2
    have hk1 : k ≠ 1 := by have := beq_eq_false_iff_ne.1 h1; omega
    have hk2 : k ≠ 2 := by have := beq_eq_false_iff_ne.1 h2; omega
    have hk : k = 0 := by have := beq_iff_eq.1 hb; omega
    exact Fin.of (by rw [textOf, if_neg hk1, if_neg hk2, if_pos hk]; rfl)
  · rename_i h1 h2
    have hk1 : k ≠ 1 := by have := beq_eq_false_iff_ne.1 h1; omega
    have hk2 : k ≠ 2 := by have := beq_eq_false_iff_ne.1 h2; omega
    have hk : k ≠ 0 := by have := beq_eq_false_iff_ne.1 hb; omega
    exact Fin.of (by rw [textOf, if_neg hk1, if_neg hk2, if_neg hk]; rfl)

theorem lextext_ok (t : Tk) (hn : t.1 = 1 → t.2.2.1 < 4611686018427387904) (hS : t.2.2.2.length ≤ 1000000) (σ : St) (hB : B0 σ.base) (m) :
    ACalls Tryd.prog 12 [tkA t] σ m (fun e σ' => σ' = σ ∧ e = .ret (.str (textOf t))) :=
  gc_plain (lextext_raw t.1 t.2.1 t.2.2.1 t.2.2.2 hn hS σ hB) (fun _ _ h => h) (.str _) m
end
end Go.Proofs.YtjeccchbeflddaaDoor.Ga
