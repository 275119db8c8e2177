/- lex.Lex. -/
import Derived.Test.YtjeccchbeflddaaDoorLa8
import Derived.Test.YtjeccchbeflddaaDoorGa14
set_option linter.unusedVariables false
set_option linter.unusedSimpArgs false
namespace Go.Proofs.YtjeccchbeflddaaDoor.Ga
open Lx

def c_lex : SDef := ⟨45, (.reg [⟨(some 2), (.alloc [.nils]), none⟩, ⟨(some 3), (.alloc [(.int .i64 0)]), none⟩, ⟨(some 4), (.alloc [(.int .i64 0)]), none⟩]), (.seq (.reg [⟨(some 6), (.mov (.tmp 0)), none⟩, ⟨(some 7), (.len .str (.tmp 6)), none⟩, ⟨(some 8), (.bin .gtr .none (.tmp 7) (.const (.int .i64 4096))), none⟩]) (.cond (.tmp 8) (.seq (.reg [⟨none, (.store 1 (.tmp 2) (.const .nils)), none⟩, ⟨none, (.store 1 (.tmp 3) (.const (.int .i64 4))), none⟩, ⟨none, (.store 1 (.tmp 4) (.const (.int .i64 0))), none⟩]) .ret) .skip)), 9, 23, [(.tmp 2), (.tmp 3), (.tmp 4)], (.seq (.reg [⟨(some 10), (.mov (.tmp 0)), none⟩, ⟨(some 11), (.build [(.str []), (.int .i64 0), .nils] [(0, (1, (.tmp 10)))]), none⟩, ⟨(some 12), (.box (.tmp 11)), none⟩, ⟨(some 5), (.mov (.tmp 12)), none⟩]) (.seq (.seq (.reg [⟨(some 13), (.mov (.tmp 5)), none⟩, ⟨(some 14), (.call 24 [(.tmp 13)]), none⟩]) (.block 0 (.loop (.seq (.seq (.reg [⟨(some 15), (.mov (.tmp 5)), none⟩, ⟨(some 16), (.nilCheck (.tmp 15)), none⟩, ⟨(some 17), (.fieldAddr 1 (.tmp 16)), none⟩, ⟨(some 18), (.load false 1 (.tmp 17)), none⟩, ⟨(some 19), (.mov (.tmp 0)), none⟩, ⟨(some 20), (.len .str (.tmp 19)), none⟩, ⟨(some 21), (.bin .lss .none (.tmp 18) (.tmp 20)), none⟩]) (.cond (.tmp 21) .skip (.exit 0))) (.seq (.block 1 (.dreg [(0, ⟨(some 24), (.mov (.tmp 5)), none⟩), (0, ⟨(some 25), (.mov (.tmp 5)), none⟩), (0, ⟨(some 26), (.nilCheck (.tmp 25)), none⟩), (0, ⟨(some 27), (.fieldAddr 2 (.tmp 26)), none⟩), (0, ⟨(some 28), (.load false 1 (.tmp 27)), none⟩), (0, ⟨(some 29), (.mov (.tmp 5)), none⟩), (1, ⟨(some 30), (.call 25 [(.tmp 29)]), none⟩), (1, ⟨(some 31), (.buildSl 4 (.agg [(.int .i64 0), (.int .i64 0), (.int .i64 0), (.str [])]) 1 [(0, (.tmp 30))]), none⟩), (1, ⟨(some 32), (.append false 4 40 (.tmp 28) (.tmp 31)), none⟩), (1, ⟨(some 33), (.nilCheck (.tmp 24)), none⟩), (0, ⟨(some 34), (.fieldAddr 2 (.tmp 33)), none⟩), (2, ⟨none, (.store 1 (.tmp 34) (.tmp 32)), none⟩)])) (.reg [⟨(some 22), (.mov (.tmp 5)), none⟩, ⟨(some 23), (.call 24 [(.tmp 22)]), none⟩])))))) (.seq (.reg [⟨(some 35), (.mov (.tmp 5)), none⟩, ⟨(some 36), (.nilCheck (.tmp 35)), none⟩, ⟨(some 37), (.fieldAddr 2 (.tmp 36)), none⟩, ⟨(some 38), (.load false 1 (.tmp 37)), none⟩, ⟨(some 39), (.call 26 [(.tmp 38)]), none⟩, ⟨(some 40), (.mov (.tmp 0)), none⟩, ⟨(some 41), (.len .str (.tmp 40)), none⟩, ⟨(some 42), (.build [(.int .i64 0), (.int .i64 0), (.int .i64 0), (.str [])] [(0, (1, (.const (.int .i64 0)))), (1, (1, (.tmp 41)))]), none⟩, ⟨(some 43), (.buildSl 4 (.agg [(.int .i64 0), (.int .i64 0), (.int .i64 0), (.str [])]) 1 [(0, (.tmp 42))]), none⟩, ⟨(some 44), (.append false 4 40 (.tmp 39) (.tmp 43)), none⟩, ⟨none, (.store 1 (.tmp 2) (.tmp 44)), none⟩, ⟨none, (.store 1 (.tmp 3) (.const (.int .i64 0))), none⟩, ⟨none, (.store 1 (.tmp 4) (.const (.int .i64 0))), none⟩]) .ret))), [(.cell 2 false 1), (.cell 3 false 1), (.cell 4 false 1)]⟩
theorem c_lex_ok : cDef Tryd.prog [2,3,4] Tryd.f14 = some c_lex := by kernel_rfl
def c_lex1 : SRec := ⟨15, 6, [⟨(some 7), (.tassert 45 (.agg [(.int .i64 0), (.int .i64 0)]) (.tmp 6) true), none⟩, ⟨(some 5), (.mov (.tmp 7)), none⟩, ⟨(some 8), (.extract (.tmp 5) 0), none⟩, ⟨(some 9), (.extract (.tmp 5) 1), none⟩, ⟨(some 3), (.alloc [(.int .i64 0), (.int .i64 0)]), none⟩, ⟨none, (.store 2 (.tmp 3) (.tmp 8)), none⟩, ⟨(some 4), (.mov (.tmp 9)), none⟩], (.seq (.reg [⟨(some 10), (.mov (.tmp 4)), none⟩]) (.cond (.tmp 10) (.dreg [(0, ⟨(some 11), (.fieldAddr 0 (.tmp 3)), none⟩), (0, ⟨(some 12), (.load false 1 (.tmp 11)), none⟩), (0, ⟨(some 13), (.fieldAddr 1 (.tmp 3)), none⟩), (0, ⟨(some 14), (.load false 1 (.tmp 13)), none⟩), (1, ⟨none, (.store 1 (.tmp 0) (.const .nils)), none⟩), (1, ⟨none, (.store 1 (.tmp 1) (.tmp 12)), none⟩), (2, ⟨none, (.store 1 (.tmp 2) (.tmp 14)), none⟩)]) .skip))⟩
theorem c_lex1_ok : cRec Tryd.prog Tryd.f23 = some c_lex1 := by kernel_rfl
def c_clone : SFun := ⟨8, (.seq (.reg [⟨(some 2), (.mov (.const .nils)), none⟩]) (.seq (.seq (.reg [⟨(some 3), (.mov (.tmp 0)), none⟩, ⟨(some 4), (.isnil false .slice (.tmp 3)), none⟩]) (.cond (.tmp 4) (.seq (.reg [⟨(some 2), (.mov (.const .nils)), none⟩]) .ret) .skip)) (.seq (.reg [⟨(some 5), (.buildSl 4 (.agg [(.int .i64 0), (.int .i64 0), (.int .i64 0), (.str [])]) 0 []), none⟩, ⟨(some 6), (.mov (.tmp 0)), none⟩, ⟨(some 7), (.append false 4 40 (.tmp 5) (.tmp 6)), none⟩, ⟨(some 2), (.mov (.tmp 7)), none⟩]) .ret))), [(.tmp 2)]⟩
theorem c_clone_ok : cFun Tryd.prog Tryd.f26 = some c_clone := by kernel_rfl

def tkA (t : Tk) : A := tokA t.1 t.2.1 t.2.2.1 t.2.2.2

section
attribute [local irreducible] Bc ACallsW ALoop Fin St.set St.new
theorem lex1_ret (a b c : Nat) (σ : St) (m : Nat → Nat → Prop) (hm : ∀ id off, σ.n ≤ id → m id off) : ADRet Tryd.prog 23 [.ptr a 0, .ptr b 0, .ptr c 0] σ m (fun σ' => ∀ id, id < σ.n → σ'.obj id = σ.obj id) := by
  refine adRet_of mixed Tryd.func23 c_lex1_ok (Nat.le_of_ble_eq_true rfl) ?_
  conv => whnf
  repeat' (first
      | (refine Bc_t ?_; conv => whnf)
      | (refine Bc_f ?_; conv => whnf)
      | (rw [g1]; conv => whnf)
      | (rw [g2]; conv => whnf)
      | (rw [g3]; conv => whnf)
      | (rw [g4]; conv => whnf)
      | (rw [g5]; conv => whnf)
      | (rw [g6]; conv => whnf)
      | (rw [hr]; conv => whnf)
      | (refine Bc_split (fun hb => ?_) (fun hb => ?_) <;> (rw [hb]; conv => whnf))
      | (refine And.intro (by first
          | omega
          | assumption
          | (simp only [St.set_n, St.new_n] at *; omega)
          | (simp; done)
          | (simp; omega)
          | (intro _; exact trivial)
          | (intro _; intro _ _; exact trivial)
          | (intro _; intro j hj; first | rfl | (have hj' : j < 1 := hj
                                                 obtain rfl : j = 0 := by omega
                                                 exact ⟨rfl, rfl⟩))
          | (intro j hj; obtain rfl : j = 0 := by omega
             first | exact ⟨rfl, rfl⟩ | exact .inl ⟨rfl, rfl⟩ | exact .inr (by omega) | exact ⟨by assumption, by assumption⟩ | assumption | trivial)
          | exact .inr (by assumption)
          | (intro j hj; exact .inr (by simp only [St.set_n, St.new_n] at *; omega))
          | (intro e he; rcases List.mem_singleton.1 he with rfl; exact ⟨rfl, rfl⟩)
          | (rw [St.set_ne _ _ (by first | assumption | omega | (simp only [St.set_n, St.new_n] at *; omega))]; assumption)
          | (rw [St.set_ne _ _ (by first | assumption | omega | (simp only [St.set_n, St.new_n] at *; omega)), St.set_ne _ _ (by first | assumption | omega | (simp only [St.set_n, St.new_n] at *; omega))]; assumption)
          | (simp only [decide_eq_true_eq, decide_eq_false_iff_not, Bool.not_eq_true, beq_iff_eq, beq_eq_false_iff_ne, ne_eq, ge_iff_le, gt_iff_lt] at *; omega)) ?_; conv => whnf)
      | (rw [St.set_same]; conv => whnf)
      | (rw [St.new_same]; conv => whnf)
      | (rw [St.set_ne _ _ (by first | assumption | omega | (simp only [St.set_n, St.new_n] at *; omega))]; conv => whnf)
      | (rw [St.new_ne _ _ (by first | assumption | omega | (simp only [St.set_n, St.new_n] at *; omega))]; conv => whnf))
  refine ⟨fun j _ => hm _ _ (Nat.le_refl _), ?_⟩
  conv => whnf
  repeat' (first
      | (refine Bc_t ?_; conv => whnf)
      | (refine Bc_f ?_; conv => whnf)
      | (rw [g1]; conv => whnf)
      | (rw [g2]; conv => whnf)
      | (rw [g3]; conv => whnf)
      | (rw [g4]; conv => whnf)
      | (rw [g5]; conv => whnf)
      | (rw [g6]; conv => whnf)
      | (rw [hr]; conv => whnf)
      | (refine Bc_split (fun hb => ?_) (fun hb => ?_) <;> (rw [hb]; conv => whnf))
      | (refine And.intro (by first
          | omega
          | assumption
          | (simp only [St.set_n, St.new_n] at *; omega)
          | (simp; done)
          | (simp; omega)
          | (intro _; exact trivial)
          | (intro _; intro _ _; exact trivial)
          | (intro _; intro j hj; first | rfl | (have hj' : j < 1 := hj
                                                 obtain rfl : j = 0 := by omega
                                                 exact ⟨rfl, rfl⟩))
          | (intro j hj; obtain rfl : j = 0 := by omega
             first | exact ⟨rfl, rfl⟩ | exact .inl ⟨rfl, rfl⟩ | exact .inr (by omega) | exact ⟨by assumption, by assumption⟩ | assumption | trivial)
          | exact .inr (by assumption)
          | (intro j hj; exact .inr (by simp only [St.set_n, St.new_n] at *; omega))
          | (intro e he; rcases List.mem_singleton.1 he with rfl; exact ⟨rfl, rfl⟩)
          | (rw [St.set_ne _ _ (by first | assumption | omega | (simp only [St.set_n, St.new_n] at *; omega))]; assumption)
          | (rw [St.set_ne _ _ (by first | assumption | omega | (simp only [St.set_n, St.new_n] at *; omega)), St.set_ne _ _ (by first | assumption | omega | (simp only [St.set_n, St.new_n] at *; omega))]; assumption)
          | (simp only [decide_eq_true_eq, decide_eq_false_iff_not, Bool.not_eq_true, beq_iff_eq, beq_eq_false_iff_ne, ne_eq, ge_iff_le, gt_iff_lt] at *; omega)) ?_; conv => whnf)
      | (rw [St.set_same]; conv => whnf)
      | (rw [St.new_same]; conv => whnf)
      | (rw [St.set_ne _ _ (by first | assumption | omega | (simp only [St.set_n, St.new_n] at *; omega))]; conv => whnf)
      | (rw [St.new_ne _ _ (by first | assumption | omega | (simp only [St.set_n, St.new_n] at *; omega))]; conv => whnf))
  intro id hid
  rw [St.set_ne _ _ (by omega), St.new_ne _ _ (by omega)]

theorem lex1_pan (a b c e at_ : Nat) (va vb vc : A) (σ : St) (m : Nat → Nat → Prop) (hm : ∀ id off, σ.n ≤ id → m id off) (ha : σ.obj a = .cells [va]) (hb : σ.obj b = .cells [vb]) (hc : σ.obj c = .cells [vc])
    (hab : a ≠ b) (hac : a ≠ c) (hbc : b ≠ c) (hma : m a 0) (hmb : m b 0) (hmc : m c 0) (hla : a < σ.n) (hlb : b < σ.n) (hlc : c < σ.n) :
    ADPan Tryd.prog 23 [.ptr a 0, .ptr b 0, .ptr c 0] (bad e at_) σ m (fun σ' => σ'.obj a = .cells [.nils] ∧ σ'.obj b = .cells [.int .i64 e] ∧ σ'.obj c = .cells [.int .i64 at_]) := by
  have hna : a ≠ σ.n := by omega
  have hnb : b ≠ σ.n := by omega
  have hnc : c ≠ σ.n := by omega
  have hba := hab.symm
  have hca := hac.symm
  have hcb := hbc.symm
  have g1 := ha
  have g2 := hb
  have g3 := hc
  refine adPan_of mixed Tryd.func23 c_lex1_ok (Nat.le_of_ble_eq_true rfl) ?_
  conv => whnf
  repeat' (first
      | (refine Bc_t ?_; conv => whnf)
      | (refine Bc_f ?_; conv => whnf)
      | (rw [g1]; conv => whnf)
      | (rw [g2]; conv => whnf)
      | (rw [g3]; conv => whnf)
      | (rw [g4]; conv => whnf)
      | (rw [g5]; conv => whnf)
      | (rw [g6]; conv => whnf)
      | (rw [hr]; conv => whnf)
      | (refine Bc_split (fun hb => ?_) (fun hb => ?_) <;> (rw [hb]; conv => whnf))
      | (refine And.intro (by first
          | omega
          | assumption
          | (simp only [St.set_n, St.new_n] at *; omega)
          | (simp; done)
          | (simp; omega)
          | (intro _; exact trivial)
          | (intro _; intro _ _; exact trivial)
          | (intro _; intro j hj; first | rfl | (have hj' : j < 1 := hj
                                                 obtain rfl : j = 0 := by omega
                                                 exact ⟨rfl, rfl⟩))
          | (intro j hj; obtain rfl : j = 0 := by omega
             first | exact ⟨rfl, rfl⟩ | exact .inl ⟨rfl, rfl⟩ | exact .inr (by omega) | exact ⟨by assumption, by assumption⟩ | assumption | trivial)
          | exact .inr (by assumption)
          | (intro j hj; exact .inr (by simp only [St.set_n, St.new_n] at *; omega))
          | (intro e he; rcases List.mem_singleton.1 he with rfl; exact ⟨rfl, rfl⟩)
          | (rw [St.set_ne _ _ (by first | assumption | omega | (simp only [St.set_n, St.new_n] at *; omega))]; assumption)
          | (rw [St.set_ne _ _ (by first | assumption | omega | (simp only [St.set_n, St.new_n] at *; omega)), St.set_ne _ _ (by first | assumption | omega | (simp only [St.set_n, St.new_n] at *; omega))]; assumption)
          | (simp only [decide_eq_true_eq, decide_eq_false_iff_not, Bool.not_eq_true, beq_iff_eq, beq_eq_false_iff_ne, ne_eq, ge_iff_le, gt_iff_lt] at *; omega)) ?_; conv => whnf)
      | (rw [St.set_same]; conv => whnf)
      | (rw [St.new_same]; conv => whnf)
      | (rw [St.set_ne _ _ (by first | assumption | omega | (simp only [St.set_n, St.new_n] at *; omega))]; conv => whnf)
      | (rw [St.new_ne _ _ (by first | assumption | omega | (simp only [St.set_n, St.new_n] at *; omega))]; conv => whnf))
  refine ⟨fun j _ => hm _ _ (Nat.le_refl _), ?_⟩
  conv => whnf
  repeat' (first
      | (refine Bc_t ?_; conv => whnf)
      | (refine Bc_f ?_; conv => whnf)
      | (rw [g1]; conv => whnf)
      | (rw [g2]; conv => whnf)
      | (rw [g3]; conv => whnf)
      | (rw [g4]; conv => whnf)
      | (rw [g5]; conv => whnf)
      | (rw [g6]; conv => whnf)
      | (rw [hr]; conv => whnf)
      | (refine Bc_split (fun hb => ?_) (fun hb => ?_) <;> (rw [hb]; conv => whnf))
      | (refine And.intro (by first
          | omega
          | assumption
          | (simp only [St.set_n, St.new_n] at *; omega)
          | (simp; done)
          | (simp; omega)
          | (intro _; exact trivial)
          | (intro _; intro _ _; exact trivial)
          | (intro _; intro j hj; first | rfl | (have hj' : j < 1 := hj
                                                 obtain rfl : j = 0 := by omega
                                                 exact ⟨rfl, rfl⟩))
          | (intro j hj; obtain rfl : j = 0 := by omega
             first | exact ⟨rfl, rfl⟩ | exact .inl ⟨rfl, rfl⟩ | exact .inr (by omega) | exact ⟨by assumption, by assumption⟩ | assumption | trivial)
          | exact .inr (by assumption)
          | (intro j hj; exact .inr (by simp only [St.set_n, St.new_n] at *; omega))
          | (intro e he; rcases List.mem_singleton.1 he with rfl; exact ⟨rfl, rfl⟩)
          | (rw [St.set_ne _ _ (by first | assumption | omega | (simp only [St.set_n, St.new_n] at *; omega))]; assumption)
          | (rw [St.set_ne _ _ (by first | assumption | omega | (simp only [St.set_n, St.new_n] at *; omega)), St.set_ne _ _ (by first | assumption | omega | (simp only [St.set_n, St.new_n] at *; omega))]; assumption)
          | (simp only [decide_eq_true_eq, decide_eq_false_iff_not, Bool.not_eq_true, beq_iff_eq, beq_eq_false_iff_ne, ne_eq, ge_iff_le, gt_iff_lt] at *; omega)) ?_; conv => whnf)
      | (rw [St.set_same]; conv => whnf)
      | (rw [St.new_same]; conv => whnf)
      | (rw [St.set_ne _ _ (by first | assumption | omega | (simp only [St.set_n, St.new_n] at *; omega))]; conv => whnf)
      | (rw [St.new_ne _ _ (by first | assumption | omega | (simp only [St.set_n, St.new_n] at *; omega))]; conv => whnf))
  refine Exists.intro (fun id _ => id = σ.n) ?_
  conv => whnf
  repeat' (first
      | (refine Bc_t ?_; conv => whnf)
      | (refine Bc_f ?_; conv => whnf)
      | (rw [g1]; conv => whnf)
      | (rw [g2]; conv => whnf)
      | (rw [g3]; conv => whnf)
      | (rw [g4]; conv => whnf)
      | (rw [g5]; conv => whnf)
      | (rw [g6]; conv => whnf)
      | (rw [hr]; conv => whnf)
      | (refine Bc_split (fun hb => ?_) (fun hb => ?_) <;> (rw [hb]; conv => whnf))
      | (refine And.intro (by first
          | omega
          | assumption
          | (simp only [St.set_n, St.new_n] at *; omega)
          | (simp; done)
          | (simp; omega)
          | (intro _; exact trivial)
          | (intro _; intro _ _; exact trivial)
          | (intro _; intro j hj; first | rfl | (have hj' : j < 1 := hj
                                                 obtain rfl : j = 0 := by omega
                                                 exact ⟨rfl, rfl⟩))
          | (intro j hj; obtain rfl : j = 0 := by omega
             first | exact ⟨rfl, rfl⟩ | exact .inl ⟨rfl, rfl⟩ | exact .inr (by omega) | exact ⟨by assumption, by assumption⟩ | assumption | trivial)
          | exact .inr (by assumption)
          | (intro j hj; exact .inr (by simp only [St.set_n, St.new_n] at *; omega))
          | (intro e he; rcases List.mem_singleton.1 he with rfl; exact ⟨rfl, rfl⟩)
          | (rw [St.set_ne _ _ (by first | assumption | omega | (simp only [St.set_n, St.new_n] at *; omega))]; assumption)
          | (rw [St.set_ne _ _ (by first | assumption | omega | (simp only [St.set_n, St.new_n] at *; omega)), St.set_ne _ _ (by first | assumption | omega | (simp only [St.set_n, St.new_n] at *; omega))]; assumption)
          | (simp only [decide_eq_true_eq, decide_eq_false_iff_not, Bool.not_eq_true, beq_iff_eq, beq_eq_false_iff_ne, ne_eq, ge_iff_le, gt_iff_lt] at *; omega)) ?_; conv => whnf)
      | (rw [St.set_same]; conv => whnf)
      | (rw [St.new_same]; conv => whnf)
      | (rw [St.set_ne _ _ (by first | assumption | omega | (simp only [St.set_n, St.new_n] at *; omega))]; conv => whnf)
      | (rw [St.new_ne _ _ (by first | assumption | omega | (simp only [St.set_n, St.new_n] at *; omega))]; conv => whnf))
  exact ⟨rfl, rfl, rfl⟩

theorem clone_ok (o : Own) (xs : List A) (hne : xs ≠ []) (hlen : xs.length ≤ 100000) (hall : ∀ e ∈ xs, e.cells.length = 4 ∧ scalars e.cells = true) (σ : St) (m) :
    ACalls Tryd.prog 26 [.sl o 4 xs] σ m (fun e σ' => σ' = σ.new (.row xs.length) ∧ e = .ret (.sl (.tok σ.n) 4 xs)) := by
  obtain ⟨y, ys, rfl⟩ := List.exists_cons_of_ne_nil hne
  refine acalls_go mixed Tryd.func26 c_clone_ok (Nat.le_of_ble_eq_true rfl) ?_
  conv => whnf
  repeat' (first
      | (refine Bc_t ?_; conv => whnf)
      | (refine Bc_f ?_; conv => whnf)
      | (rw [g1]; conv => whnf)
      | (rw [g2]; conv => whnf)
      | (rw [g3]; conv => whnf)
      | (rw [g4]; conv => whnf)
      | (rw [g5]; conv => whnf)
      | (rw [g6]; conv => whnf)
      | (rw [hr]; conv => whnf)
      | (refine Bc_split (fun hb => ?_) (fun hb => ?_) <;> (rw [hb]; conv => whnf))
      | (refine And.intro (by first
          | omega
          | assumption
          | (simp only [St.set_n, St.new_n] at *; omega)
          | (simp; done)
          | (simp; omega)
          | (intro _; exact trivial)
          | (intro _; intro _ _; exact trivial)
          | (intro _; intro j hj; first | rfl | (have hj' : j < 1 := hj
                                                 obtain rfl : j = 0 := by omega
                                                 exact ⟨rfl, rfl⟩))
          | (intro j hj; obtain rfl : j = 0 := by omega
             first | exact ⟨rfl, rfl⟩ | exact .inl ⟨rfl, rfl⟩ | exact .inr (by omega) | exact ⟨by assumption, by assumption⟩ | assumption | trivial)
          | exact .inr (by assumption)
          | (intro j hj; exact .inr (by simp only [St.set_n, St.new_n] at *; omega))
          | (intro e he; rcases List.mem_singleton.1 he with rfl; exact ⟨rfl, rfl⟩)
          | (rw [St.set_ne _ _ (by first | assumption | omega | (simp only [St.set_n, St.new_n] at *; omega))]; assumption)
          | (rw [St.set_ne _ _ (by first | assumption | omega | (simp only [St.set_n, St.new_n] at *; omega)), St.set_ne _ _ (by first | assumption | omega | (simp only [St.set_n, St.new_n] at *; omega))]; assumption)
          | (simp only [decide_eq_true_eq, decide_eq_false_iff_not, Bool.not_eq_true, beq_iff_eq, beq_eq_false_iff_ne, ne_eq, ge_iff_le, gt_iff_lt] at *; omega)) ?_; conv => whnf)
      | (rw [St.set_same]; conv => whnf)
      | (rw [St.new_same]; conv => whnf)
      | (rw [St.set_ne _ _ (by first | assumption | omega | (simp only [St.set_n, St.new_n] at *; omega))]; conv => whnf)
      | (rw [St.new_ne _ _ (by first | assumption | omega | (simp only [St.set_n, St.new_n] at *; omega))]; conv => whnf))
  refine ⟨by show 2 * (0 + (y :: ys).length) * 40 ≤ _; omega, by show 0 + (y :: ys).length ≤ _; omega, hall, fun q => (by cases q), ?_⟩
  conv => whnf
  exact Fin.of ⟨rfl, rfl⟩

/-- The tokens that have been read: a slice that grows. -/
def TBuf (n : Nat) (σ : St) (ts : List Tk) (b : A) : Prop := (ts = [] ∧ b = .nils) ∨ ∃ t, ts ≠ [] ∧ n ≤ t ∧ t < σ.n ∧ σ.obj t = .row (ts.map tkA).length ∧ b = .sl (.tok t) 4 (ts.map tkA)

theorem tk_all (ts : List Tk) : ∀ e ∈ ts.map tkA, e.cells.length = 4 ∧ scalars e.cells = true := fun e he => by
  obtain ⟨t, _, rfl⟩ := List.mem_map.1 he
  exact ⟨rfl, rfl⟩

/-- What lex.Lex tells. -/
def LexR (n : Nat) (s : List UInt8) (e : AEnd) : Prop := (4096 < s.length ∧ e = .ret (.tup [.nils, .int .i64 4, .int .i64 0])) ∨ (s.length ≤ 4096 ∧ match lexAll s with
      | .ok ts => ∃ t, n ≤ t ∧ e = .ret (.tup [.sl (.tok t) 4 (ts.map tkA ++ [tokA 0 s.length 0 []]), .int .i64 0, .int .i64 0])
      | .error p => e = .ret (.tup [.nils, .int .i64 p.1, .int .i64 p.2]))

attribute [local irreducible] LexR

theorem clone_nil (σ : St) (m) : ACalls Tryd.prog 26 [.nils] σ m (fun e σ' => σ' = σ ∧ e = .ret .nils) := by
  refine acalls_go mixed Tryd.func26 c_clone_ok (Nat.le_of_ble_eq_true rfl) ?_
  conv => whnf
  repeat' (first
      | (refine Bc_t ?_; conv => whnf)
      | (refine Bc_f ?_; conv => whnf)
      | (rw [g1]; conv => whnf)
      | (rw [g2]; conv => whnf)
      | (rw [g3]; conv => whnf)
      | (rw [g4]; conv => whnf)
      | (rw [g5]; conv => whnf)
      | (rw [g6]; conv => whnf)
      | (rw [hr]; conv => whnf)
      | (refine Bc_split (fun hb => ?_) (fun hb => ?_) <;> (rw [hb]; conv => whnf))
      | (refine And.intro (by first
          | omega
          | assumption
          | (simp only [St.set_n, St.new_n] at *; omega)
          | (simp; done)
          | (simp; omega)
          | (intro _; exact trivial)
          | (intro _; intro _ _; exact trivial)
          | (intro _; intro j hj; first | rfl | (have hj' : j < 1 := hj
                                                 obtain rfl : j = 0 := by omega
                                                 exact ⟨rfl, rfl⟩))
          | (intro j hj; obtain rfl : j = 0 := by omega
             first | exact ⟨rfl, rfl⟩ | exact .inl ⟨rfl, rfl⟩ | exact .inr (by omega) | exact ⟨by assumption, by assumption⟩ | assumption | trivial)
          | exact .inr (by assumption)
          | (intro j hj; exact .inr (by simp only [St.set_n, St.new_n] at *; omega))
          | (intro e he; rcases List.mem_singleton.1 he with rfl; exact ⟨rfl, rfl⟩)
          | (rw [St.set_ne _ _ (by first | assumption | omega | (simp only [St.set_n, St.new_n] at *; omega))]; assumption)
          | (rw [St.set_ne _ _ (by first | assumption | omega | (simp only [St.set_n, St.new_n] at *; omega)), St.set_ne _ _ (by first | assumption | omega | (simp only [St.set_n, St.new_n] at *; omega))]; assumption)
          | (simp only [decide_eq_true_eq, decide_eq_false_iff_not, Bool.not_eq_true, beq_iff_eq, beq_eq_false_iff_ne, ne_eq, ge_iff_le, gt_iff_lt] at *; omega)) ?_; conv => whnf)
      | (rw [St.set_same]; conv => whnf)
      | (rw [St.new_same]; conv => whnf)
      | (rw [St.set_ne _ _ (by first | assumption | omega | (simp only [St.set_n, St.new_n] at *; omega))]; conv => whnf)
      | (rw [St.new_ne _ _ (by first | assumption | omega | (simp only [St.set_n, St.new_n] at *; omega))]; conv => whnf))
  exact Fin.of ⟨rfl, rfl⟩

theorem lex_raw (s : List UInt8) (σ : St) (hB : B0 σ.base) :
    ACalls Tryd.prog 14 [.str s] σ (fun id _ => σ.n ≤ id) (fun e σ' => LexR σ.n s e) := by
  refine acalls_def_go mixed Tryd.func14 [(2, .ptr σ.n 0), (3, .ptr (σ.n + 1) 0), (4, .ptr (σ.n + 2) 0)] c_lex_ok (Nat.le_of_ble_eq_true rfl) (by show 9 ∉ [2, 3, 4]; decide) ?_
  conv => whnf
  repeat' (first
      | (refine Bc_t ?_; conv => whnf)
      | (refine Bc_f ?_; conv => whnf)
      | (rw [g1]; conv => whnf)
      | (rw [g2]; conv => whnf)
      | (rw [g3]; conv => whnf)
      | (rw [g4]; conv => whnf)
      | (rw [g5]; conv => whnf)
      | (rw [g6]; conv => whnf)
      | (rw [hr]; conv => whnf)
      | (refine Bc_split (fun hb => ?_) (fun hb => ?_) <;> (rw [hb]; conv => whnf))
      | (refine And.intro (by first
          | omega
          | assumption
          | (simp only [St.set_n, St.new_n] at *; omega)
          | (simp; done)
          | (simp; omega)
          | (intro _; exact trivial)
          | (intro _; intro _ _; exact trivial)
          | (intro _; intro j hj; first | rfl | (have hj' : j < 1 := hj
                                                 obtain rfl : j = 0 := by omega
                                                 exact ⟨rfl, rfl⟩))
          | (intro j hj; obtain rfl : j = 0 := by omega
             first | exact ⟨rfl, rfl⟩ | exact .inl ⟨rfl, rfl⟩ | exact .inr (by omega) | exact ⟨by assumption, by assumption⟩ | assumption | trivial)
          | exact .inr (by assumption)
          | (intro j hj; exact .inr (by simp only [St.set_n, St.new_n] at *; omega))
          | (intro e he; rcases List.mem_singleton.1 he with rfl; exact ⟨rfl, rfl⟩)
          | (rw [St.set_ne _ _ (by first | assumption | omega | (simp only [St.set_n, St.new_n] at *; omega))]; assumption)
          | (rw [St.set_ne _ _ (by first | assumption | omega | (simp only [St.set_n, St.new_n] at *; omega)), St.set_ne _ _ (by first | assumption | omega | (simp only [St.set_n, St.new_n] at *; omega))]; assumption)
          | (simp only [decide_eq_true_eq, decide_eq_false_iff_not, Bool.not_eq_true, beq_iff_eq, beq_eq_false_iff_ne, ne_eq, ge_iff_le, gt_iff_lt] at *; omega)) ?_; conv => whnf)
      | (rw [St.set_same]; conv => whnf)
      | (rw [St.new_same]; conv => whnf)
      | (rw [St.set_ne _ _ (by first | assumption | omega | (simp only [St.set_n, St.new_n] at *; omega))]; conv => whnf)
      | (rw [St.new_ne _ _ (by first | assumption | omega | (simp only [St.set_n, St.new_n] at *; omega))]; conv => whnf))
  · refine Fin.of ?_
    unfold LexR
    exact .inl ⟨by simp at hb; omega, rfl⟩
  have hs : s.length ≤ 4096 := by simp at hb; omega
  clear hb
  have e1 : (σ.new (AO.cells [A.nils])).n = σ.n + 1 := St.new_n ..
  have e2 : ((σ.new (AO.cells [A.nils])).new (AO.cells [A.int .i64 0])).n = σ.n + 2 := by rw [St.new_n, e1]
  have e3 : (((σ.new (AO.cells [A.nils])).new (AO.cells [A.int .i64 0])).new (AO.cells [A.int .i64 0])).n = σ.n + 3 := by rw [St.new_n, e2]
  have f1 : (((σ.new (AO.cells [A.nils])).new (AO.cells [A.int .i64 0])).new (AO.cells [A.int .i64 0])).obj σ.n = .cells [.nils] := by rw [St.new_ne _ _ (by omega), St.new_ne _ _ (by omega), St.new_same]
  have f2 : (((σ.new (AO.cells [A.nils])).new (AO.cells [A.int .i64 0])).new (AO.cells [A.int .i64 0])).obj (σ.n + 1) = .cells [.int .i64 0] := by rw [St.new_ne _ _ (by omega), ← e1, St.new_same]
  have f3 : (((σ.new (AO.cells [A.nils])).new (AO.cells [A.int .i64 0])).new (AO.cells [A.int .i64 0])).obj (σ.n + 2) = .cells [.int .i64 0] := by rw [← e2, St.new_same]
  have f4 : (((σ.new (AO.cells [A.nils])).new (AO.cells [A.int .i64 0])).new (AO.cells [A.int .i64 0])).base = σ.base := by rw [St.new_base, St.new_base, St.new_base]
  rw [e2, e1]
  generalize ((σ.new (AO.cells [A.nils])).new (AO.cells [A.int .i64 0])).new (AO.cells [A.int .i64 0]) = σ3 at e3 f1 f2 f3 f4 ⊢
  rw [← f4] at hB
  refine ⟨⟨rfl, rfl, rfl, trivial⟩, [.ptr σ.n 0, .ptr (σ.n + 1) 0, .ptr (σ.n + 2) 0], rfl, ?_⟩
  have hpan : ∀ (σ5 : St) (e at_ : Nat) (va vb vc : A), σ.n + 3 ≤ σ5.n → σ5.obj σ.n = .cells [va] → σ5.obj (σ.n + 1) = .cells [vb] → σ5.obj (σ.n + 2) = .cells [vc] → lexAll s = .error (e, at_) →
      defQ Tryd.prog (fun id _ => σ.n ≤ id) c_lex.g [.ptr σ.n 0, .ptr (σ.n + 1) 0, .ptr (σ.n + 2) 0] [(2, .ptr σ.n 0), (3, .ptr (σ.n + 1) 0), (4, .ptr (σ.n + 2) 0)] c_lex.res (fun e _ => Fin (LexR σ.n s e)) (.panic (bad e at_)) [] σ5 := by
    intro σ5 e at_ va vb vc hn h1 h2 h3 hl
    refine ⟨_, lex1_pan σ.n (σ.n + 1) (σ.n + 2) e at_ va vb vc σ5 _ (fun id _ h => by omega) h1 h2 h3 (by omega) (by omega) (by omega) (Nat.le_refl _) (by omega) (by omega) (by omega) (by omega) (by omega), ?_⟩
    rintro σ' _ ⟨g1, g2, g3⟩
    conv => whnf
    repeat' (first
        | (refine Bc_t ?_; conv => whnf)
        | (refine Bc_f ?_; conv => whnf)
        | (rw [g1]; conv => whnf)
        | (rw [g2]; conv => whnf)
        | (rw [g3]; conv => whnf)
        | (rw [g4]; conv => whnf)
        | (rw [g5]; conv => whnf)
        | (rw [g6]; conv => whnf)
        | (rw [hr]; conv => whnf)
        | (refine Bc_split (fun hb => ?_) (fun hb => ?_) <;> (rw [hb]; conv => whnf))
        | (refine And.intro (by first
            | omega
            | assumption
            | (simp only [St.set_n, St.new_n] at *; omega)
            | (simp; done)
            | (simp; omega)
            | (intro _; exact trivial)
            | (intro _; intro _ _; exact trivial)
            | (intro _; intro j hj; first | rfl | (have hj' : j < 1 := hj
                                                   obtain rfl : j = 0 := by omega
                                                   exact ⟨rfl, rfl⟩))
            | (intro j hj; obtain rfl : j = 0 := by omega
               first | exact ⟨rfl, rfl⟩ | exact .inl ⟨rfl, rfl⟩ | exact .inr (by omega) | exact ⟨by assumption, by assumption⟩ | assumption | trivial)
            | exact .inr (by assumption)
            | (intro j hj; exact .inr (by simp only [St.set_n, St.new_n] at *; omega))
            | (intro e he; rcases List.mem_singleton.1 he with rfl; exact ⟨rfl, rfl⟩)
            | (rw [St.set_ne _ _ (by first | assumption | omega | (simp only [St.set_n, St.new_n] at *; omega))]; assumption)
            | (rw [St.set_ne _ _ (by first | assumption | omega | (simp only [St.set_n, St.new_n] at *; omega)), St.set_ne _ _ (by first | assumption | omega | (simp only [St.set_n, St.new_n] at *; omega))]; assumption)
            | (simp only [decide_eq_true_eq, decide_eq_false_iff_not, Bool.not_eq_true, beq_iff_eq, beq_eq_false_iff_ne, ne_eq, ge_iff_le, gt_iff_lt] at *; omega)) ?_; conv => whnf)
        | (rw [St.set_same]; conv => whnf)
        | (rw [St.new_same]; conv => whnf)
        | (rw [St.set_ne _ _ (by first | assumption | omega | (simp only [St.set_n, St.new_n] at *; omega))]; conv => whnf)
        | (rw [St.new_ne _ _ (by first | assumption | omega | (simp only [St.set_n, St.new_n] at *; omega))]; conv => whnf))
    refine Fin.of ?_
    unfold LexR
    exact .inr ⟨hs, by rw [hl]; rfl⟩
  have hret : ∀ (σ5 : St) (env : Env) (t : Nat) (ts : List Tk), σ.n ≤ t → σ.n + 3 ≤ σ5.n → σ5.obj σ.n = .cells [.sl (.tok t) 4 (ts.map tkA ++ [tokA 0 s.length 0 []])] → σ5.obj (σ.n + 1) = .cells [.int .i64 0] → σ5.obj (σ.n + 2) = .cells [.int .i64 0] → lexAll s = .ok ts →
      defQ Tryd.prog (fun id _ => σ.n ≤ id) c_lex.g [.ptr σ.n 0, .ptr (σ.n + 1) 0, .ptr (σ.n + 2) 0] [(2, .ptr σ.n 0), (3, .ptr (σ.n + 1) 0), (4, .ptr (σ.n + 2) 0)] c_lex.res (fun e _ => Fin (LexR σ.n s e)) .ret env σ5 := by
    intro σ5 env t ts ht hn h1 h2 h3 hl
    refine ⟨_, lex1_ret σ.n (σ.n + 1) (σ.n + 2) σ5 _ (fun id _ h => by omega), ?_⟩
    intro σ' _ hsame
    have g1 := (hsame σ.n (by omega)).trans h1
    have g2 := (hsame (σ.n + 1) (by omega)).trans h2
    have g3 := (hsame (σ.n + 2) (by omega)).trans h3
    conv => whnf
    repeat' (first
        | (refine Bc_t ?_; conv => whnf)
        | (refine Bc_f ?_; conv => whnf)
        | (rw [g1]; conv => whnf)
        | (rw [g2]; conv => whnf)
        | (rw [g3]; conv => whnf)
        | (rw [g4]; conv => whnf)
        | (rw [g5]; conv => whnf)
        | (rw [g6]; conv => whnf)
        | (rw [hr]; conv => whnf)
        | (refine Bc_split (fun hb => ?_) (fun hb => ?_) <;> (rw [hb]; conv => whnf))
        | (refine And.intro (by first
            | omega
            | assumption
            | (simp only [St.set_n, St.new_n] at *; omega)
            | (simp; done)
            | (simp; omega)
            | (intro _; exact trivial)
            | (intro _; intro _ _; exact trivial)
            | (intro _; intro j hj; first | rfl | (have hj' : j < 1 := hj
                                                   obtain rfl : j = 0 := by omega
                                                   exact ⟨rfl, rfl⟩))
            | (intro j hj; obtain rfl : j = 0 := by omega
               first | exact ⟨rfl, rfl⟩ | exact .inl ⟨rfl, rfl⟩ | exact .inr (by omega) | exact ⟨by assumption, by assumption⟩ | assumption | trivial)
            | exact .inr (by assumption)
            | (intro j hj; exact .inr (by simp only [St.set_n, St.new_n] at *; omega))
            | (intro e he; rcases List.mem_singleton.1 he with rfl; exact ⟨rfl, rfl⟩)
            | (rw [St.set_ne _ _ (by first | assumption | omega | (simp only [St.set_n, St.new_n] at *; omega))]; assumption)
            | (rw [St.set_ne _ _ (by first | assumption | omega | (simp only [St.set_n, St.new_n] at *; omega)), St.set_ne _ _ (by first | assumption | omega | (simp only [St.set_n, St.new_n] at *; omega))]; assumption)
            | (simp only [decide_eq_true_eq, decide_eq_false_iff_not, Bool.not_eq_true, beq_iff_eq, beq_eq_false_iff_ne, ne_eq, ge_iff_le, gt_iff_lt] at *; omega)) ?_; conv => whnf)
        | (rw [St.set_same]; conv => whnf)
        | (rw [St.new_same]; conv => whnf)
        | (rw [St.set_ne _ _ (by first | assumption | omega | (simp only [St.set_n, St.new_n] at *; omega))]; conv => whnf)
        | (rw [St.new_ne _ _ (by first | assumption | omega | (simp only [St.set_n, St.new_n] at *; omega))]; conv => whnf))
    refine Fin.of ?_
    unfold LexR
    exact .inr ⟨hs, by rw [hl]; exact ⟨t, ht, rfl⟩⟩
  conv => whnf
  repeat' (first
      | (refine Bc_t ?_; conv => whnf)
      | (refine Bc_f ?_; conv => whnf)
      | (rw [g1]; conv => whnf)
      | (rw [g2]; conv => whnf)
      | (rw [g3]; conv => whnf)
      | (rw [g4]; conv => whnf)
      | (rw [g5]; conv => whnf)
      | (rw [g6]; conv => whnf)
      | (rw [hr]; conv => whnf)
      | (refine Bc_split (fun hb => ?_) (fun hb => ?_) <;> (rw [hb]; conv => whnf))
      | (refine And.intro (by first
          | omega
          | assumption
          | (simp only [St.set_n, St.new_n] at *; omega)
          | (simp; done)
          | (simp; omega)
          | (intro _; exact trivial)
          | (intro _; intro _ _; exact trivial)
          | (intro _; intro j hj; first | rfl | (have hj' : j < 1 := hj
                                                 obtain rfl : j = 0 := by omega
                                                 exact ⟨rfl, rfl⟩))
          | (intro j hj; obtain rfl : j = 0 := by omega
             first | exact ⟨rfl, rfl⟩ | exact .inl ⟨rfl, rfl⟩ | exact .inr (by omega) | exact ⟨by assumption, by assumption⟩ | assumption | trivial)
          | exact .inr (by assumption)
          | (intro j hj; exact .inr (by simp only [St.set_n, St.new_n] at *; omega))
          | (intro e he; rcases List.mem_singleton.1 he with rfl; exact ⟨rfl, rfl⟩)
          | (rw [St.set_ne _ _ (by first | assumption | omega | (simp only [St.set_n, St.new_n] at *; omega))]; assumption)
          | (rw [St.set_ne _ _ (by first | assumption | omega | (simp only [St.set_n, St.new_n] at *; omega)), St.set_ne _ _ (by first | assumption | omega | (simp only [St.set_n, St.new_n] at *; omega))]; assumption)
          | (simp only [decide_eq_true_eq, decide_eq_false_iff_not, Bool.not_eq_true, beq_iff_eq, beq_eq_false_iff_ne, ne_eq, ge_iff_le, gt_iff_lt] at *; omega)) ?_; conv => whnf)
      | (rw [St.set_same]; conv => whnf)
      | (rw [St.new_same]; conv => whnf)
      | (rw [St.set_ne _ _ (by first | assumption | omega | (simp only [St.set_n, St.new_n] at *; omega))]; conv => whnf)
      | (rw [St.new_ne _ _ (by first | assumption | omega | (simp only [St.set_n, St.new_n] at *; omega))]; conv => whnf))
  rw [e3]
  have r1 : (σ3.new (AO.cells (A.agg (setL [A.str [], A.int .i64 0, A.nils] 0 (A.str s).cells)).cells)).obj (σ.n + 3) = rd s 0 .nils := by rw [← e3, St.new_same]; rfl
  have r2 : (σ3.new (AO.cells (A.agg (setL [A.str [], A.int .i64 0, A.nils] 0 (A.str s).cells)).cells)).n = σ.n + 4 := by rw [St.new_n, e3]
  have r3 : (σ3.new (AO.cells (A.agg (setL [A.str [], A.int .i64 0, A.nils] 0 (A.str s).cells)).cells)).base = σ.base := by rw [St.new_base, f4]
  have r4 : (σ3.new (AO.cells (A.agg (setL [A.str [], A.int .i64 0, A.nils] 0 (A.str s).cells)).cells)).obj σ.n = .cells [.nils] := by rw [St.new_ne _ _ (by omega), f1]
  have r5 : (σ3.new (AO.cells (A.agg (setL [A.str [], A.int .i64 0, A.nils] 0 (A.str s).cells)).cells)).obj (σ.n + 1) = .cells [.int .i64 0] := by rw [St.new_ne _ _ (by omega), f2]
  have r6 : (σ3.new (AO.cells (A.agg (setL [A.str [], A.int .i64 0, A.nils] 0 (A.str s).cells)).cells)).obj (σ.n + 2) = .cells [.int .i64 0] := by rw [St.new_ne _ _ (by omega), f3]
  generalize σ3.new (AO.cells (A.agg (setL [A.str [], A.int .i64 0, A.nils] 0 (A.str s).cells)).cells) = σ4 at r1 r2 r3 r4 r5 r6 ⊢
  rw [f4] at hB
  clear e1 e2 e3 f1 f2 f3 f4
  refine ACallsW.of (gap_ok s 0 .nils (σ.n + 3) σ4 hs (by omega) r1) (fun id off _ h => by have := h.1; omega) ?_
  intro e σ' hk hR
  rw [List.drop_zero] at hR
  have hall : lexAll s = match skip 0 [] s with | (false, st) => .error (20, s.length - st.length) | (true, l') => lexT s.length s.length l' := lexF_succ _ _ _
  cases hsk : skip 0 [] s with
  | mk b l =>
  rw [hsk] at hR hall
  cases b with
  | false =>
    simp only at hR hall
    subst hR
    have k1 := hk.same (id := σ.n) (by omega) (fun off h => by have := h.1; omega)
    have k2 := hk.same (id := σ.n + 1) (by omega) (fun off h => by have := h.1; omega)
    have k3 := hk.same (id := σ.n + 2) (by omega) (fun off h => by have := h.1; omega)
    exact hpan σ' 20 (s.length - l.length) _ _ _ (by have := hk.1; omega) (k1.trans r4) (k2.trans r5) (k3.trans r6) hall
  | true =>
    simp only at hR hall
    obtain ⟨rfl, rfl⟩ := hR
    have hsuf := (skip_suf s 0 [] true l hsk).1 rfl
    have hl := suf_drop hsuf
    conv => whnf
    unfold ALoop
    refine ⟨fun k env σ5 => ∃ (i f : Nat) (ts : List Tk) (out : A), k = s.length - i ∧ i ≤ s.length ∧ lexAll s = Lx.ahead ts (lexT f s.length (s.drop i)) ∧ s.length - i ≤ f ∧ σ.n + 4 ≤ σ5.n ∧ σ5.obj (σ.n + 3) = rd s i out ∧
        σ5.obj σ.n = .cells [.nils] ∧ σ5.obj (σ.n + 1) = .cells [.int .i64 0] ∧ σ5.obj (σ.n + 2) = .cells [.int .i64 0] ∧ σ5.base = σ.base ∧ ts.length ≤ i ∧ TBuf (σ.n + 4) σ5 ts out ∧
        env = [(0, .str s), (5, .ptr (σ.n + 3) 0), (2, .ptr σ.n 0), (3, .ptr (σ.n + 1) 0), (4, .ptr (σ.n + 2) 0)], _,
      [(0, .str s), (5, .ptr (σ.n + 3) 0), (2, .ptr σ.n 0), (3, .ptr (σ.n + 1) 0), (4, .ptr (σ.n + 2) 0)], ⟨rfl, rfl, rfl, rfl, rfl, trivial⟩,
      ⟨s.length - l.length, s.length, [], .nils, rfl, by omega, ?_, by omega, ?_, ?_, ?_, ?_, ?_, ?_, Nat.zero_le _, .inl ⟨rfl, rfl⟩, rfl⟩, ?_⟩
    · rw [hall, ahead_nil, hl]
    · rw [St.set_n]; omega
    · rw [St.set_same]
    · rw [St.set_ne _ _ (by omega)]; exact r4
    · rw [St.set_ne _ _ (by omega)]; exact r5
    · rw [St.set_ne _ _ (by omega)]; exact r6
    · rw [St.set_base]; exact r3
    clear hk hall hsk hsuf hl r1 r2 r3 r4 r5 r6
    rintro k env σ5 ⟨i, f, ts, out, rfl, h1, h2, h3, h4, h5, h6, h7, h8, h9, h10, hbuf, rfl⟩
    have hr := h5
    unfold rd at hr
    by_cases hi : i < s.length
    · have g1 : decide ((i : Int) < s.length) = true := by simp; omega
      conv => whnf
      repeat' (first
          | (refine Bc_t ?_; conv => whnf)
          | (refine Bc_f ?_; conv => whnf)
          | (rw [g1]; conv => whnf)
          | (rw [g2]; conv => whnf)
          | (rw [g3]; conv => whnf)
          | (rw [g4]; conv => whnf)
          | (rw [g5]; conv => whnf)
          | (rw [g6]; conv => whnf)
          | (rw [hr]; conv => whnf)
          | (refine Bc_split (fun hb => ?_) (fun hb => ?_) <;> (rw [hb]; conv => whnf))
          | (refine And.intro (by first
              | omega
              | assumption
              | (simp only [St.set_n, St.new_n] at *; omega)
              | (simp; done)
              | (simp; omega)
              | (intro _; exact trivial)
              | (intro _; intro _ _; exact trivial)
              | (intro _; intro j hj; first | rfl | (have hj' : j < 1 := hj
                                                     obtain rfl : j = 0 := by omega
                                                     exact ⟨rfl, rfl⟩))
              | (intro j hj; obtain rfl : j = 0 := by omega
                 first | exact ⟨rfl, rfl⟩ | exact .inl ⟨rfl, rfl⟩ | exact .inr (by omega) | exact ⟨by assumption, by assumption⟩ | assumption | trivial)
              | exact .inr (by assumption)
              | (intro j hj; exact .inr (by simp only [St.set_n, St.new_n] at *; omega))
              | (intro e he; rcases List.mem_singleton.1 he with rfl; exact ⟨rfl, rfl⟩)
              | (rw [St.set_ne _ _ (by first | assumption | omega | (simp only [St.set_n, St.new_n] at *; omega))]; assumption)
              | (rw [St.set_ne _ _ (by first | assumption | omega | (simp only [St.set_n, St.new_n] at *; omega)), St.set_ne _ _ (by first | assumption | omega | (simp only [St.set_n, St.new_n] at *; omega))]; assumption)
              | (simp only [decide_eq_true_eq, decide_eq_false_iff_not, Bool.not_eq_true, beq_iff_eq, beq_eq_false_iff_ne, ne_eq, ge_iff_le, gt_iff_lt] at *; omega)) ?_; conv => whnf)
          | (rw [St.set_same]; conv => whnf)
          | (rw [St.new_same]; conv => whnf)
          | (rw [St.set_ne _ _ (by first | assumption | omega | (simp only [St.set_n, St.new_n] at *; omega))]; conv => whnf)
          | (rw [St.new_ne _ _ (by first | assumption | omega | (simp only [St.set_n, St.new_n] at *; omega))]; conv => whnf))
      refine Exists.intro (fun id off => id = σ.n + 3 ∧ off = 2) ?_
      conv => whnf
      repeat' (first
          | (refine Bc_t ?_; conv => whnf)
          | (refine Bc_f ?_; conv => whnf)
          | (rw [g1]; conv => whnf)
          | (rw [g2]; conv => whnf)
          | (rw [g3]; conv => whnf)
          | (rw [g4]; conv => whnf)
          | (rw [g5]; conv => whnf)
          | (rw [g6]; conv => whnf)
          | (rw [hr]; conv => whnf)
          | (refine Bc_split (fun hb => ?_) (fun hb => ?_) <;> (rw [hb]; conv => whnf))
          | (refine And.intro (by first
              | omega
              | assumption
              | (simp only [St.set_n, St.new_n] at *; omega)
              | (simp; done)
              | (simp; omega)
              | (intro _; exact trivial)
              | (intro _; intro _ _; exact trivial)
              | (intro _; intro j hj; first | rfl | (have hj' : j < 1 := hj
                                                     obtain rfl : j = 0 := by omega
                                                     exact ⟨rfl, rfl⟩))
              | (intro j hj; obtain rfl : j = 0 := by omega
                 first | exact ⟨rfl, rfl⟩ | exact .inl ⟨rfl, rfl⟩ | exact .inr (by omega) | exact ⟨by assumption, by assumption⟩ | assumption | trivial)
              | exact .inr (by assumption)
              | (intro j hj; exact .inr (by simp only [St.set_n, St.new_n] at *; omega))
              | (intro e he; rcases List.mem_singleton.1 he with rfl; exact ⟨rfl, rfl⟩)
              | (rw [St.set_ne _ _ (by first | assumption | omega | (simp only [St.set_n, St.new_n] at *; omega))]; assumption)
              | (rw [St.set_ne _ _ (by first | assumption | omega | (simp only [St.set_n, St.new_n] at *; omega)), St.set_ne _ _ (by first | assumption | omega | (simp only [St.set_n, St.new_n] at *; omega))]; assumption)
              | (simp only [decide_eq_true_eq, decide_eq_false_iff_not, Bool.not_eq_true, beq_iff_eq, beq_eq_false_iff_ne, ne_eq, ge_iff_le, gt_iff_lt] at *; omega)) ?_; conv => whnf)
          | (rw [St.set_same]; conv => whnf)
          | (rw [St.new_same]; conv => whnf)
          | (rw [St.set_ne _ _ (by first | assumption | omega | (simp only [St.set_n, St.new_n] at *; omega))]; conv => whnf)
          | (rw [St.new_ne _ _ (by first | assumption | omega | (simp only [St.set_n, St.new_n] at *; omega))]; conv => whnf))
      obtain ⟨f', rfl⟩ : ∃ f', f = f' + 1 := ⟨f - 1, by omega⟩
      have hdrop : s.drop i ≠ [] := by intro q; have := congrArg List.length q; rw [List.length_drop] at this; simp at this; omega
      have hlen : s.length - (s.drop i).length = i := by rw [List.length_drop]; omega
      refine ACallsW.of (one_ok s i out (σ.n + 3) σ5 (by rw [h9]; exact hB) hs hi (by omega) h5) (fun id off _ h => ⟨by have := h.1; omega, fun q => by have := h.2; have := q.2; omega⟩) ?_
      intro e σ' hk hR
      have hn' := hk.1
      have k1 := (hk.same (id := σ.n) (by omega) (fun off h => by have := h.1; omega)).trans h6
      have k2 := (hk.same (id := σ.n + 1) (by omega) (fun off h => by have := h.1; omega)).trans h7
      have k3 := (hk.same (id := σ.n + 2) (by omega) (fun off h => by have := h.1; omega)).trans h8
      cases htk : tok (s.drop i) with
      | error k =>
        rw [htk] at hR
        simp only at hR
        subst hR
        refine hpan σ' k i _ _ _ (by omega) k1 k2 k3 ?_
        rw [h2, lexT_err hdrop htk, hlen]
        rfl
      | ok p =>
        obtain ⟨k, n, S, l'⟩ := p
        rw [htk] at hR
        simp only at hR
        obtain ⟨hr2, rfl⟩ := hR
        obtain ⟨hsuf, hlt⟩ := tok_suf htk
        rw [List.length_drop] at hlt
        have hl' := suf_drop (hsuf.trans (List.drop_suffix i s))
        have h2' : lexAll s = Lx.ahead (ts ++ [(k, i, n, S)]) (lexF (f' + 1) s.length l') := by rw [h2, lexT_ok htk, hlen, ahead_ahead]
        have hr := hr2
        unfold rd at hr
        have hb9 : σ'.base = σ.base := hk.2.1.trans h9
        rcases hbuf with ⟨rfl, rfl⟩ | ⟨t, htne, ht1, ht2, ht3, rfl⟩
        · conv => whnf
          repeat' (first
              | (refine Bc_t ?_; conv => whnf)
              | (refine Bc_f ?_; conv => whnf)
              | (rw [g1]; conv => whnf)
              | (rw [g2]; conv => whnf)
              | (rw [g3]; conv => whnf)
              | (rw [g4]; conv => whnf)
              | (rw [g5]; conv => whnf)
              | (rw [g6]; conv => whnf)
              | (rw [hr]; conv => whnf)
              | (refine Bc_split (fun hb => ?_) (fun hb => ?_) <;> (rw [hb]; conv => whnf))
              | (refine And.intro (by first
                  | omega
                  | assumption
                  | (simp only [St.set_n, St.new_n] at *; omega)
                  | (simp; done)
                  | (simp; omega)
                  | (intro _; exact trivial)
                  | (intro _; intro _ _; exact trivial)
                  | (intro _; intro j hj; first | rfl | (have hj' : j < 1 := hj
                                                         obtain rfl : j = 0 := by omega
                                                         exact ⟨rfl, rfl⟩))
                  | (intro j hj; obtain rfl : j = 0 := by omega
                     first | exact ⟨rfl, rfl⟩ | exact .inl ⟨rfl, rfl⟩ | exact .inr (by omega) | exact ⟨by assumption, by assumption⟩ | assumption | trivial)
                  | exact .inr (by assumption)
                  | (intro j hj; exact .inr (by simp only [St.set_n, St.new_n] at *; omega))
                  | (intro e he; rcases List.mem_singleton.1 he with rfl; exact ⟨rfl, rfl⟩)
                  | (rw [St.set_ne _ _ (by first | assumption | omega | (simp only [St.set_n, St.new_n] at *; omega))]; assumption)
                  | (rw [St.set_ne _ _ (by first | assumption | omega | (simp only [St.set_n, St.new_n] at *; omega)), St.set_ne _ _ (by first | assumption | omega | (simp only [St.set_n, St.new_n] at *; omega))]; assumption)
                  | (simp only [decide_eq_true_eq, decide_eq_false_iff_not, Bool.not_eq_true, beq_iff_eq, beq_eq_false_iff_ne, ne_eq, ge_iff_le, gt_iff_lt] at *; omega)) ?_; conv => whnf)
              | (rw [St.set_same]; conv => whnf)
              | (rw [St.new_same]; conv => whnf)
              | (rw [St.set_ne _ _ (by first | assumption | omega | (simp only [St.set_n, St.new_n] at *; omega))]; conv => whnf)
              | (rw [St.new_ne _ _ (by first | assumption | omega | (simp only [St.set_n, St.new_n] at *; omega))]; conv => whnf))
          have hq : σ'.n ≠ σ.n + 3 := by omega
          have hi' : s.length - l'.length ≤ s.length := by omega
          rw [lexF_succ] at h2'
          refine ACallsW.of (gap_ok s (s.length - l'.length) (A.sl (.tok σ'.n) 4 (([] ++ [(k, i, n, S)]).map tkA)) (σ.n + 3) _ hs hi' (by rw [St.set_same]; rfl)) (fun id off _ h => by have := h.1; omega) ?_
          intro e σ7 hk7 hR7
          rw [hl'] at hR7
          have hn7 := hk7.1
          simp only [St.set_n, St.new_n] at hn7
          cases hsk : skip 0 [] l' with
          | mk b l =>
          rw [hsk] at hR7 h2'
          cases b with
          | false =>
            simp only at hR7 h2'
            subst hR7
            have m1 := (hk7.same (id := σ.n) (by simp only [St.set_n, St.new_n]; omega) (fun off h => by have := h.1; omega))
            have m2 := (hk7.same (id := σ.n + 1) (by simp only [St.set_n, St.new_n]; omega) (fun off h => by have := h.1; omega))
            have m3 := (hk7.same (id := σ.n + 2) (by simp only [St.set_n, St.new_n]; omega) (fun off h => by have := h.1; omega))
            rw [St.set_ne _ _ (by omega), St.new_ne _ _ (by omega)] at m1 m2 m3
            exact hpan σ7 20 (s.length - l.length) _ _ _ (by omega) (m1.trans k1) (m2.trans k2) (m3.trans k3) h2'
          | true =>
            simp only at hR7 h2'
            obtain ⟨rfl, rfl⟩ := hR7
            have hsuf2 := (skip_suf l' 0 [] true l hsk).1 rfl
            have hl2 := suf_drop (hsuf2.trans ((hsuf.trans (List.drop_suffix i s))))
            have hle2 := hsuf2.length_le
            conv => whnf
            refine ⟨_, [(0, .str s), (5, .ptr (σ.n + 3) 0), (2, .ptr σ.n 0), (3, .ptr (σ.n + 1) 0), (4, .ptr (σ.n + 2) 0)], ?_, ⟨rfl, rfl, rfl, rfl, rfl, trivial⟩, s.length - l.length, f', [] ++ [(k, i, n, S)], _, rfl, by omega, ?_, by omega, ?_, ?_, ?_, ?_, ?_, ?_, ?_, .inr ⟨σ'.n, by simp, ?_, ?_, ?_, rfl⟩, rfl⟩
            · omega
            · rw [h2', hl2]
            · simp only [St.set_n, St.new_n]; omega
            · rw [St.set_same]
            · rw [St.set_ne _ _ (by omega), St.set_ne _ _ (by omega), St.new_ne _ _ (by omega)]; exact k1
            · rw [St.set_ne _ _ (by omega), St.set_ne _ _ (by omega), St.new_ne _ _ (by omega)]; exact k2
            · rw [St.set_ne _ _ (by omega), St.set_ne _ _ (by omega), St.new_ne _ _ (by omega)]; exact k3
            · simp only [St.set_base, St.new_base]; exact hb9
            · simp; omega
            · omega
            · simp only [St.set_n, St.new_n]; omega
            · rw [St.set_ne _ _ (by omega), St.set_ne _ _ (by omega)]; rw [St.new_same]; rfl
        · have htl : (ts.map tkA).length ≤ 4096 := by rw [List.length_map]; omega
          have ht3' := (hk.same (id := t) ht2 (fun off h => by have := h.1; omega)).trans ht3
          have htr : t ≠ σ.n + 3 := by omega
          have htK : but (fun id _ => σ.n ≤ id) (fun id off => id = σ.n + 3 ∧ off = 2) t 0 := ⟨by omega, fun q => by omega⟩
          conv => whnf
          repeat' (first
              | (refine Bc_t ?_; conv => whnf)
              | (refine Bc_f ?_; conv => whnf)
              | (rw [g1]; conv => whnf)
              | (rw [g2]; conv => whnf)
              | (rw [g3]; conv => whnf)
              | (rw [g4]; conv => whnf)
              | (rw [g5]; conv => whnf)
              | (rw [g6]; conv => whnf)
              | (rw [hr]; conv => whnf)
              | (refine Bc_split (fun hb => ?_) (fun hb => ?_) <;> (rw [hb]; conv => whnf))
              | (refine And.intro (by first
                  | omega
                  | assumption
                  | (simp only [St.set_n, St.new_n] at *; omega)
                  | (simp; done)
                  | (simp; omega)
                  | (intro _; exact trivial)
                  | (intro _; intro _ _; exact trivial)
                  | (intro _; intro j hj; first | rfl | (have hj' : j < 1 := hj
                                                         obtain rfl : j = 0 := by omega
                                                         exact ⟨rfl, rfl⟩))
                  | (intro j hj; obtain rfl : j = 0 := by omega
                     first | exact ⟨rfl, rfl⟩ | exact .inl ⟨rfl, rfl⟩ | exact .inr (by omega) | exact ⟨by assumption, by assumption⟩ | assumption | trivial)
                  | exact .inr (by assumption)
                  | (intro j hj; exact .inr (by simp only [St.set_n, St.new_n] at *; omega))
                  | (intro e he; rcases List.mem_singleton.1 he with rfl; exact ⟨rfl, rfl⟩)
                  | (rw [St.set_ne _ _ (by first | assumption | omega | (simp only [St.set_n, St.new_n] at *; omega))]; assumption)
                  | (rw [St.set_ne _ _ (by first | assumption | omega | (simp only [St.set_n, St.new_n] at *; omega)), St.set_ne _ _ (by first | assumption | omega | (simp only [St.set_n, St.new_n] at *; omega))]; assumption)
                  | (simp only [decide_eq_true_eq, decide_eq_false_iff_not, Bool.not_eq_true, beq_iff_eq, beq_eq_false_iff_ne, ne_eq, ge_iff_le, gt_iff_lt] at *; omega)) ?_; conv => whnf)
              | (rw [St.set_same]; conv => whnf)
              | (rw [St.new_same]; conv => whnf)
              | (rw [St.set_ne _ _ (by first | assumption | omega | (simp only [St.set_n, St.new_n] at *; omega))]; conv => whnf)
              | (rw [St.new_ne _ _ (by first | assumption | omega | (simp only [St.set_n, St.new_n] at *; omega))]; conv => whnf))
          have hq : t ≠ σ.n + 3 := by omega
          have hi' : s.length - l'.length ≤ s.length := by omega
          rw [lexF_succ] at h2'
          refine ACallsW.of (gap_ok s (s.length - l'.length) (A.sl (.tok t) 4 ((ts ++ [(k, i, n, S)]).map tkA)) (σ.n + 3) _ hs hi' (by rw [St.set_same]; rw [List.map_append]; rfl)) (fun id off _ h => by have := h.1; omega) ?_
          intro e σ7 hk7 hR7
          rw [hl'] at hR7
          have hn7 := hk7.1
          simp only [St.set_n, St.new_n] at hn7
          cases hsk : skip 0 [] l' with
          | mk b l =>
          rw [hsk] at hR7 h2'
          cases b with
          | false =>
            simp only at hR7 h2'
            subst hR7
            have m1 := (hk7.same (id := σ.n) (by simp only [St.set_n, St.new_n]; omega) (fun off h => by have := h.1; omega))
            have m2 := (hk7.same (id := σ.n + 1) (by simp only [St.set_n, St.new_n]; omega) (fun off h => by have := h.1; omega))
            have m3 := (hk7.same (id := σ.n + 2) (by simp only [St.set_n, St.new_n]; omega) (fun off h => by have := h.1; omega))
            rw [St.set_ne _ _ (by omega), St.set_ne _ _ (by omega)] at m1 m2 m3
            exact hpan σ7 20 (s.length - l.length) _ _ _ (by omega) (m1.trans k1) (m2.trans k2) (m3.trans k3) h2'
          | true =>
            simp only at hR7 h2'
            obtain ⟨rfl, rfl⟩ := hR7
            have hsuf2 := (skip_suf l' 0 [] true l hsk).1 rfl
            have hl2 := suf_drop (hsuf2.trans ((hsuf.trans (List.drop_suffix i s))))
            have hle2 := hsuf2.length_le
            conv => whnf
            refine ⟨_, [(0, .str s), (5, .ptr (σ.n + 3) 0), (2, .ptr σ.n 0), (3, .ptr (σ.n + 1) 0), (4, .ptr (σ.n + 2) 0)], ?_, ⟨rfl, rfl, rfl, rfl, rfl, trivial⟩, s.length - l.length, f', ts ++ [(k, i, n, S)], _, rfl, by omega, ?_, by omega, ?_, ?_, ?_, ?_, ?_, ?_, ?_, .inr ⟨t, by simp, ?_, ?_, ?_, rfl⟩, rfl⟩
            · omega
            · rw [h2', hl2]
            · simp only [St.set_n, St.new_n]; omega
            · rw [St.set_same]
            · rw [St.set_ne _ _ (by omega), St.set_ne _ _ (by omega), St.set_ne _ _ (by omega)]; exact k1
            · rw [St.set_ne _ _ (by omega), St.set_ne _ _ (by omega), St.set_ne _ _ (by omega)]; exact k2
            · rw [St.set_ne _ _ (by omega), St.set_ne _ _ (by omega), St.set_ne _ _ (by omega)]; exact k3
            · simp only [St.set_base, St.new_base]; exact hb9
            · simp; omega
            · exact ht1
            · simp only [St.set_n, St.new_n]; omega
            · rw [St.set_ne _ _ (by omega), St.set_ne _ _ (by omega)]; rw [St.set_same, List.map_append]; rfl
    · obtain rfl : i = s.length := by omega
      have hok : lexAll s = .ok ts := by rw [h2, List.drop_length, lexT_nil]; simp [Lx.ahead]
      have g1 : decide ((s.length : Int) < s.length) = false := by simp
      have g2 := h6
      have g3 := h7
      have g4 := h8
      have q1 : σ.n ≠ σ.n + 1 := by omega
      have q2 : σ.n ≠ σ.n + 2 := by omega
      have q3 : σ.n + 1 ≠ σ.n := by omega
      have q4 : σ.n + 1 ≠ σ.n + 2 := by omega
      have q5 : σ.n + 2 ≠ σ.n := by omega
      have q6 : σ.n + 2 ≠ σ.n + 1 := by omega
      rcases hbuf with ⟨rfl, rfl⟩ | ⟨t, htne, ht1, ht2, ht3, rfl⟩
      · conv => whnf
        repeat' (first
            | (refine Bc_t ?_; conv => whnf)
            | (refine Bc_f ?_; conv => whnf)
            | (rw [g1]; conv => whnf)
            | (rw [g2]; conv => whnf)
            | (rw [g3]; conv => whnf)
            | (rw [g4]; conv => whnf)
            | (rw [g5]; conv => whnf)
            | (rw [g6]; conv => whnf)
            | (rw [hr]; conv => whnf)
            | (refine Bc_split (fun hb => ?_) (fun hb => ?_) <;> (rw [hb]; conv => whnf))
            | (refine And.intro (by first
                | omega
                | assumption
                | (simp only [St.set_n, St.new_n] at *; omega)
                | (simp; done)
                | (simp; omega)
                | (intro _; exact trivial)
                | (intro _; intro _ _; exact trivial)
                | (intro _; intro j hj; first | rfl | (have hj' : j < 1 := hj
                                                       obtain rfl : j = 0 := by omega
                                                       exact ⟨rfl, rfl⟩))
                | (intro j hj; obtain rfl : j = 0 := by omega
                   first | exact ⟨rfl, rfl⟩ | exact .inl ⟨rfl, rfl⟩ | exact .inr (by omega) | exact ⟨by assumption, by assumption⟩ | assumption | trivial)
                | exact .inr (by assumption)
                | (intro j hj; exact .inr (by simp only [St.set_n, St.new_n] at *; omega))
                | (intro e he; rcases List.mem_singleton.1 he with rfl; exact ⟨rfl, rfl⟩)
                | (rw [St.set_ne _ _ (by first | assumption | omega | (simp only [St.set_n, St.new_n] at *; omega))]; assumption)
                | (rw [St.set_ne _ _ (by first | assumption | omega | (simp only [St.set_n, St.new_n] at *; omega)), St.set_ne _ _ (by first | assumption | omega | (simp only [St.set_n, St.new_n] at *; omega))]; assumption)
                | (simp only [decide_eq_true_eq, decide_eq_false_iff_not, Bool.not_eq_true, beq_iff_eq, beq_eq_false_iff_ne, ne_eq, ge_iff_le, gt_iff_lt] at *; omega)) ?_; conv => whnf)
            | (rw [St.set_same]; conv => whnf)
            | (rw [St.new_same]; conv => whnf)
            | (rw [St.set_ne _ _ (by first | assumption | omega | (simp only [St.set_n, St.new_n] at *; omega))]; conv => whnf)
            | (rw [St.new_ne _ _ (by first | assumption | omega | (simp only [St.set_n, St.new_n] at *; omega))]; conv => whnf))
        refine ACallsW.of (clone_nil _ Non) (fun _ _ _ h => h.elim) ?_
        rintro _ σ6 _ ⟨e1, rfl⟩
        have e1' := e1.symm
        subst e1'
        conv => whnf
        repeat' (first
            | (refine Bc_t ?_; conv => whnf)
            | (refine Bc_f ?_; conv => whnf)
            | (rw [g1]; conv => whnf)
            | (rw [g2]; conv => whnf)
            | (rw [g3]; conv => whnf)
            | (rw [g4]; conv => whnf)
            | (rw [g5]; conv => whnf)
            | (rw [g6]; conv => whnf)
            | (rw [hr]; conv => whnf)
            | (refine Bc_split (fun hb => ?_) (fun hb => ?_) <;> (rw [hb]; conv => whnf))
            | (refine And.intro (by first
                | omega
                | assumption
                | (simp only [St.set_n, St.new_n] at *; omega)
                | (simp; done)
                | (simp; omega)
                | (intro _; exact trivial)
                | (intro _; intro _ _; exact trivial)
                | (intro _; intro j hj; first | rfl | (have hj' : j < 1 := hj
                                                       obtain rfl : j = 0 := by omega
                                                       exact ⟨rfl, rfl⟩))
                | (intro j hj; obtain rfl : j = 0 := by omega
                   first | exact ⟨rfl, rfl⟩ | exact .inl ⟨rfl, rfl⟩ | exact .inr (by omega) | exact ⟨by assumption, by assumption⟩ | assumption | trivial)
                | exact .inr (by assumption)
                | (intro j hj; exact .inr (by simp only [St.set_n, St.new_n] at *; omega))
                | (intro e he; rcases List.mem_singleton.1 he with rfl; exact ⟨rfl, rfl⟩)
                | (rw [St.set_ne _ _ (by first | assumption | omega | (simp only [St.set_n, St.new_n] at *; omega))]; assumption)
                | (rw [St.set_ne _ _ (by first | assumption | omega | (simp only [St.set_n, St.new_n] at *; omega)), St.set_ne _ _ (by first | assumption | omega | (simp only [St.set_n, St.new_n] at *; omega))]; assumption)
                | (simp only [decide_eq_true_eq, decide_eq_false_iff_not, Bool.not_eq_true, beq_iff_eq, beq_eq_false_iff_ne, ne_eq, ge_iff_le, gt_iff_lt] at *; omega)) ?_; conv => whnf)
            | (rw [St.set_same]; conv => whnf)
            | (rw [St.new_same]; conv => whnf)
            | (rw [St.set_ne _ _ (by first | assumption | omega | (simp only [St.set_n, St.new_n] at *; omega))]; conv => whnf)
            | (rw [St.new_ne _ _ (by first | assumption | omega | (simp only [St.set_n, St.new_n] at *; omega))]; conv => whnf))
        refine hret _ [] σ5.n [] (by omega) (by simp only [St.set_n, St.new_n]; omega) ?_ ?_ ?_ hok
        · rw [St.set_ne _ _ q2, St.set_ne _ _ q1, St.set_same]; rfl
        · rw [St.set_ne _ _ q4, St.set_same]; rfl
        · rw [St.set_same]; rfl
      · have hxs : ts.map tkA ≠ [] := by simpa using htne
        have htl : (ts.map tkA).length ≤ 4096 := by rw [List.length_map]; omega
        conv => whnf
        repeat' (first
            | (refine Bc_t ?_; conv => whnf)
            | (refine Bc_f ?_; conv => whnf)
            | (rw [g1]; conv => whnf)
            | (rw [g2]; conv => whnf)
            | (rw [g3]; conv => whnf)
            | (rw [g4]; conv => whnf)
            | (rw [g5]; conv => whnf)
            | (rw [g6]; conv => whnf)
            | (rw [hr]; conv => whnf)
            | (refine Bc_split (fun hb => ?_) (fun hb => ?_) <;> (rw [hb]; conv => whnf))
            | (refine And.intro (by first
                | omega
                | assumption
                | (simp only [St.set_n, St.new_n] at *; omega)
                | (simp; done)
                | (simp; omega)
                | (intro _; exact trivial)
                | (intro _; intro _ _; exact trivial)
                | (intro _; intro j hj; first | rfl | (have hj' : j < 1 := hj
                                                       obtain rfl : j = 0 := by omega
                                                       exact ⟨rfl, rfl⟩))
                | (intro j hj; obtain rfl : j = 0 := by omega
                   first | exact ⟨rfl, rfl⟩ | exact .inl ⟨rfl, rfl⟩ | exact .inr (by omega) | exact ⟨by assumption, by assumption⟩ | assumption | trivial)
                | exact .inr (by assumption)
                | (intro j hj; exact .inr (by simp only [St.set_n, St.new_n] at *; omega))
                | (intro e he; rcases List.mem_singleton.1 he with rfl; exact ⟨rfl, rfl⟩)
                | (rw [St.set_ne _ _ (by first | assumption | omega | (simp only [St.set_n, St.new_n] at *; omega))]; assumption)
                | (rw [St.set_ne _ _ (by first | assumption | omega | (simp only [St.set_n, St.new_n] at *; omega)), St.set_ne _ _ (by first | assumption | omega | (simp only [St.set_n, St.new_n] at *; omega))]; assumption)
                | (simp only [decide_eq_true_eq, decide_eq_false_iff_not, Bool.not_eq_true, beq_iff_eq, beq_eq_false_iff_ne, ne_eq, ge_iff_le, gt_iff_lt] at *; omega)) ?_; conv => whnf)
            | (rw [St.set_same]; conv => whnf)
            | (rw [St.new_same]; conv => whnf)
            | (rw [St.set_ne _ _ (by first | assumption | omega | (simp only [St.set_n, St.new_n] at *; omega))]; conv => whnf)
            | (rw [St.new_ne _ _ (by first | assumption | omega | (simp only [St.set_n, St.new_n] at *; omega))]; conv => whnf))
        refine ACallsW.of (clone_ok (.tok t) (ts.map tkA) hxs (by omega) (tk_all ts) _ Non) (fun _ _ _ h => h.elim) ?_
        rintro _ _ _ ⟨e1, rfl⟩
        subst e1
        conv => whnf
        repeat' (first
            | (refine Bc_t ?_; conv => whnf)
            | (refine Bc_f ?_; conv => whnf)
            | (rw [g1]; conv => whnf)
            | (rw [g2]; conv => whnf)
            | (rw [g3]; conv => whnf)
            | (rw [g4]; conv => whnf)
            | (rw [g5]; conv => whnf)
            | (rw [g6]; conv => whnf)
            | (rw [hr]; conv => whnf)
            | (refine Bc_split (fun hb => ?_) (fun hb => ?_) <;> (rw [hb]; conv => whnf))
            | (refine And.intro (by first
                | omega
                | assumption
                | (simp only [St.set_n, St.new_n] at *; omega)
                | (simp; done)
                | (simp; omega)
                | (intro _; exact trivial)
                | (intro _; intro _ _; exact trivial)
                | (intro _; intro j hj; first | rfl | (have hj' : j < 1 := hj
                                                       obtain rfl : j = 0 := by omega
                                                       exact ⟨rfl, rfl⟩))
                | (intro j hj; obtain rfl : j = 0 := by omega
                   first | exact ⟨rfl, rfl⟩ | exact .inl ⟨rfl, rfl⟩ | exact .inr (by omega) | exact ⟨by assumption, by assumption⟩ | assumption | trivial)
                | exact .inr (by assumption)
                | (intro j hj; exact .inr (by simp only [St.set_n, St.new_n] at *; omega))
                | (intro e he; rcases List.mem_singleton.1 he with rfl; exact ⟨rfl, rfl⟩)
                | (rw [St.set_ne _ _ (by first | assumption | omega | (simp only [St.set_n, St.new_n] at *; omega))]; assumption)
                | (rw [St.set_ne _ _ (by first | assumption | omega | (simp only [St.set_n, St.new_n] at *; omega)), St.set_ne _ _ (by first | assumption | omega | (simp only [St.set_n, St.new_n] at *; omega))]; assumption)
                | (simp only [decide_eq_true_eq, decide_eq_false_iff_not, Bool.not_eq_true, beq_iff_eq, beq_eq_false_iff_ne, ne_eq, ge_iff_le, gt_iff_lt] at *; omega)) ?_; conv => whnf)
            | (rw [St.set_same]; conv => whnf)
            | (rw [St.new_same]; conv => whnf)
            | (rw [St.set_ne _ _ (by first | assumption | omega | (simp only [St.set_n, St.new_n] at *; omega))]; conv => whnf)
            | (rw [St.new_ne _ _ (by first | assumption | omega | (simp only [St.set_n, St.new_n] at *; omega))]; conv => whnf))
        refine hret _ [] σ5.n ts (by omega) (by simp only [St.set_n, St.new_n]; omega) ?_ ?_ ?_ hok
        · rw [St.set_ne _ _ q2, St.set_ne _ _ q1, St.set_same]; rfl
        · rw [St.set_ne _ _ q4, St.set_same]; rfl
        · rw [St.set_same]; rfl
end

theorem str_tk (n : Nat) (t : Tk) : Str n (tkA t) (tkA t) := by
  refine .agg _ _ rfl (fun j c c' h h' => ?_)
  rw [h] at h'
  injection h' with h'
  subst h'
  match j with
  | 0 => simp at h; subst h; exact .int _ _
  | 1 => simp at h; subst h; exact .int _ _
  | 2 => simp at h; subst h; exact .int _ _
  | 3 => simp at h; subst h; exact .str _
  | j + 4 => simp at h

theorem str_tup3 {n : Nat} {a a' b c : A} (h1 : Str n a a') (h2 : Str n b b) (h3 : Str n c c) : Str n (.tup [a, b, c]) (.tup [a', b, c]) := by
  refine .tup _ _ rfl (fun j x x' h h' => ?_)
  match j with
  | 0 => simp at h h'; subst h h'; exact h1
  | 1 => simp at h h'; subst h h'; exact h2
  | 2 => simp at h h'; subst h h'; exact h3
  | j + 3 => simp at h

/-- What lex.Lex tells, plainly. -/
def lexA (s : List UInt8) : A := if 4096 < s.length then .tup [.nils, .int .i64 4, .int .i64 0] else match lexAll s with
  | .ok ts => .tup [.sl .no 4 ((ts ++ [(0, s.length, 0, [])]).map tkA), .int .i64 0, .int .i64 0]
  | .error p => .tup [.nils, .int .i64 p.1, .int .i64 p.2]

theorem lex_ok (s : List UInt8) (σ : St) (hB : B0 σ.base) (m) : ACalls Tryd.prog 14 [.str s] σ m (fun e σ' => σ' = σ ∧ e = .ret (lexA s)) := by
  refine (ACalls.gc ((lex_raw s σ hB).frame (m' := Non) fun id off hid hm => absurd hm (by omega)) fun e σ' hk hR => ?_).frame (fun _ _ _ h => h.elim)
  have hobj : ∀ id, id < σ.n → σ.obj id = σ'.obj id := fun id hid => (hk.same hid (fun _ h => h.elim)).symm
  have hcl : Closed Non σ.n σ' := fun id hid => by
    cases σ'.obj id with
    | cells cs => exact fun off c h => h.elim
    | map es => exact fun h => h.elim
    | row hw => trivial
  unfold LexR at hR
  rcases hR with ⟨h1, rfl⟩ | ⟨h1, h2⟩
  · exact ⟨σ, _, rfl, rfl, hobj, hcl, .ret _ _ (str_tup3 .nils (.int _ _) (.int _ _)), rfl, by rw [lexA, if_pos h1]⟩
  · cases hl : lexAll s with
    | ok ts =>
      rw [hl] at h2
      obtain ⟨t, ht, rfl⟩ := h2
      refine ⟨σ, _, rfl, rfl, hobj, hcl, .ret _ _ (str_tup3 (a' := .sl .no 4 ((ts ++ [(0, s.length, 0, [])]).map tkA)) ?_ (.int _ _) (.int _ _)), rfl, by rw [lexA, if_neg (by omega), hl]⟩
      have e : ts.map tkA ++ [tokA 0 s.length 0 []] = (ts ++ [(0, s.length, 0, [])]).map tkA := by rw [List.map_append]; rfl
      rw [e]
      refine .sl _ _ _ _ _ (.inl rfl) rfl (fun j c c' h h' => ?_)
      rw [h] at h'
      injection h' with h'
      subst h'
      obtain ⟨tk, _, rfl⟩ := List.mem_map.1 (List.mem_of_getElem? h)
      exact str_tk _ tk
    | error p =>
      rw [hl] at h2
      subst h2
      exact ⟨σ, _, rfl, rfl, hobj, hcl, .ret _ _ (str_tup3 .nils (.int _ _) (.int _ _)), rfl, by rw [lexA, if_neg (by omega), hl]⟩
end Go.Proofs.YtjeccchbeflddaaDoor.Ga
