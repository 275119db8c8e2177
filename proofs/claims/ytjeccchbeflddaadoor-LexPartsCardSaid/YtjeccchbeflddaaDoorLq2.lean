/- LexJoins: the walk. -/
import Derived.Test.YtjeccchbeflddaaDoorLq1
import Derived.Test.YtjeccchbeflddaaDoorLc2
set_option linter.unusedVariables false
set_option linter.unusedSimpArgs false
namespace Go.Proofs.YtjeccchbeflddaaDoor.Ga
open Lx

def c_joins : SFun := ⟨90, (.seq (.reg [⟨(some 4), (.mov (.const (.bool false))), none⟩]) (.seq (.seq (.reg [⟨(some 17), (.call 9 []), none⟩, ⟨(some 18), (.un .not (.tmp 17)), none⟩]) (.cond (.tmp 18) (.seq (.reg [⟨(some 4), (.mov (.const (.bool false))), none⟩]) .ret) .skip)) (.seq (.reg [⟨(some 20), (.mov (.tmp 0)), none⟩, ⟨(some 21), (.call 14 [(.tmp 20)]), none⟩, ⟨(some 19), (.mov (.tmp 21)), none⟩, ⟨(some 22), (.extract (.tmp 19) 0), none⟩, ⟨(some 23), (.extract (.tmp 19) 1), none⟩, ⟨(some 24), (.extract (.tmp 19) 2), none⟩, ⟨(some 5), (.mov (.tmp 22)), none⟩, ⟨(some 6), (.mov (.tmp 23)), none⟩, ⟨(some 7), (.mov (.tmp 24)), none⟩]) (.seq (.reg [⟨(some 26), (.mov (.tmp 1)), none⟩, ⟨(some 27), (.call 14 [(.tmp 26)]), none⟩, ⟨(some 25), (.mov (.tmp 27)), none⟩, ⟨(some 28), (.extract (.tmp 25) 0), none⟩, ⟨(some 29), (.extract (.tmp 25) 1), none⟩, ⟨(some 30), (.extract (.tmp 25) 2), none⟩, ⟨(some 8), (.mov (.tmp 28)), none⟩, ⟨(some 9), (.mov (.tmp 29)), none⟩, ⟨(some 10), (.mov (.tmp 30)), none⟩]) (.seq (.reg [⟨(some 32), (.mov (.tmp 0)), none⟩, ⟨(some 33), (.bin .add .none (.tmp 32) (.const (.str [9]))), none⟩, ⟨(some 34), (.mov (.tmp 1)), none⟩, ⟨(some 35), (.bin .add .none (.tmp 33) (.tmp 34)), none⟩, ⟨(some 36), (.call 14 [(.tmp 35)]), none⟩, ⟨(some 31), (.mov (.tmp 36)), none⟩, ⟨(some 37), (.extract (.tmp 31) 0), none⟩, ⟨(some 38), (.extract (.tmp 31) 1), none⟩, ⟨(some 39), (.extract (.tmp 31) 2), none⟩, ⟨(some 11), (.mov (.tmp 37)), none⟩, ⟨(some 12), (.mov (.tmp 38)), none⟩, ⟨(some 13), (.mov (.tmp 39)), none⟩]) (.seq (.seq (.reg [⟨(some 40), (.mov (.tmp 6)), none⟩, ⟨(some 41), (.bin .neq .none (.tmp 40) (.const (.int .i64 0))), none⟩, ⟨(some 42), (.mov (.tmp 41)), none⟩, ⟨(some 43), (.mov (.tmp 9)), (some (42, false))⟩, ⟨(some 44), (.bin .neq .none (.tmp 43) (.const (.int .i64 0))), (some (42, false))⟩, ⟨(some 45), (.pick (.tmp 42) (.const (.bool true)) (.tmp 44)), none⟩]) (.cond (.tmp 45) (.seq (.reg [⟨(some 4), (.mov (.const (.bool true))), none⟩]) .ret) .skip)) (.seq (.seq (.reg [⟨(some 46), (.mov (.tmp 12)), none⟩, ⟨(some 47), (.bin .neq .none (.tmp 46) (.const (.int .i64 0))), none⟩]) (.cond (.tmp 47) (.seq (.reg [⟨(some 48), (.mov (.tmp 12)), none⟩, ⟨(some 49), (.bin .eql .none (.tmp 48) (.const (.int .i64 4))), none⟩, ⟨(some 50), (.mov (.tmp 49)), none⟩, ⟨(some 51), (.mov (.tmp 0)), (some (50, true))⟩, ⟨(some 52), (.len .str (.tmp 51)), (some (50, true))⟩, ⟨(some 53), (.bin .add .none (.tmp 52) (.const (.int .i64 1))), (some (50, true))⟩, ⟨(some 54), (.mov (.tmp 1)), (some (50, true))⟩, ⟨(some 55), (.len .str (.tmp 54)), (some (50, true))⟩, ⟨(some 56), (.bin .add .none (.tmp 53) (.tmp 55)), (some (50, true))⟩, ⟨(some 57), (.bin .gtr .none (.tmp 56) (.const (.int .i64 4096))), (some (50, true))⟩, ⟨(some 58), (.pick (.tmp 50) (.tmp 57) (.const (.bool false))), none⟩, ⟨(some 4), (.mov (.tmp 58)), none⟩]) .ret) .skip)) (.seq (.reg [⟨(some 59), (.buildSl 4 (.agg [(.int .i64 0), (.int .i64 0), (.int .i64 0), (.str [])]) 0 []), none⟩, ⟨(some 60), (.mov (.tmp 5)), none⟩, ⟨(some 61), (.mov (.tmp 5)), none⟩, ⟨(some 62), (.len .sl (.tmp 61)), none⟩, ⟨(some 63), (.bin .sub .none (.tmp 62) (.const (.int .i64 1))), none⟩, ⟨(some 64), (.sliceSl 4 (.tmp 60) none (some (.tmp 63)) none), none⟩, ⟨(some 65), (.append false 4 40 (.tmp 59) (.tmp 64)), none⟩, ⟨(some 14), (.mov (.tmp 65)), none⟩]) (.seq (.seq (.reg [⟨(some 66), (.mov (.tmp 8)), none⟩, ⟨(some 67), (.len .sl (.tmp 66)), none⟩, ⟨(some 68), (.mov (.const (.int .i64 0))), none⟩]) (.block 0 (.loop (.seq (.reg [⟨(some 69), (.bin .lss .none (.tmp 68) (.tmp 67)), none⟩]) (.seq (.cond (.tmp 69) .skip (.exit 0)) (.seq (.block 1 (.seq (.reg [⟨(some 70), (.mov (.tmp 68)), none⟩, ⟨(some 15), (.mov (.tmp 70)), none⟩]) (.seq (.reg [⟨(some 71), (.mov (.tmp 8)), none⟩, ⟨(some 72), (.mov (.tmp 15)), none⟩, ⟨(some 73), (.idxAddr 4 (.tmp 71) (.tmp 72)), none⟩, ⟨(some 74), (.load true 4 (.tmp 73)), none⟩, ⟨(some 16), (.alloc [(.int .i64 0), (.int .i64 0), (.int .i64 0), (.str [])]), none⟩, ⟨none, (.store 4 (.tmp 16) (.tmp 74)), none⟩]) (.seq (.reg [⟨(some 75), (.fieldAddr 1 (.tmp 16)), none⟩, ⟨(some 76), (.load false 1 (.tmp 75)), none⟩, ⟨(some 77), (.mov (.tmp 0)), none⟩, ⟨(some 78), (.len .str (.tmp 77)), none⟩, ⟨(some 79), (.bin .add .none (.tmp 78) (.const (.int .i64 1))), none⟩, ⟨(some 80), (.bin .add .none (.tmp 76) (.tmp 79)), none⟩, ⟨(some 81), (.fieldAddr 1 (.tmp 16)), none⟩, ⟨none, (.store 1 (.tmp 81) (.tmp 80)), none⟩]) (.reg [⟨(some 82), (.mov (.tmp 14)), none⟩, ⟨(some 83), (.load true 4 (.tmp 16)), none⟩, ⟨(some 84), (.buildSl 4 (.agg [(.int .i64 0), (.int .i64 0), (.int .i64 0), (.str [])]) 1 [(0, (.tmp 83))]), none⟩, ⟨(some 85), (.append false 4 40 (.tmp 82) (.tmp 84)), none⟩, ⟨(some 14), (.mov (.tmp 85)), none⟩]))))) (.reg [⟨(some 86), (.bin .add .none (.tmp 68) (.const (.int .i64 1))), none⟩, ⟨(some 68), (.mov (.tmp 86)), none⟩]))))))) (.seq (.reg [⟨(some 87), (.mov (.tmp 11)), none⟩, ⟨(some 88), (.mov (.tmp 14)), none⟩, ⟨(some 89), (.call 15 [(.tmp 87), (.tmp 88)]), none⟩, ⟨(some 4), (.mov (.tmp 89)), none⟩]) .ret)))))))))), [(.tmp 4)]⟩
theorem c_joins_ok : cFun Tryd.prog Tryd.f7 = some c_joins := by kernel_rfl

/-- A token's number of a slice of tokens that grows. -/
def TBT (n : Nat) (σ : St) (l : List Tk) (t : Nat) : Prop := n ≤ t ∧ t < σ.n ∧ σ.obj t = .row (l.map tkA).length

theorem tapp_full {n : Nat} {σ : St} {w : List Tk} {m : Nat → Nat → Prop} {k : A → St → Prop} (hlen : w.length ≤ 10000000) (hn : n ≤ σ.n)
    (h : ∀ t σ', TBT n σ' w t → σ.n ≤ σ'.n → σ'.base = σ.base → k (.sl (.tok t) 4 (w.map tkA)) σ') : appendS m σ 4 40 .full [] (w.map tkA) k :=
  ⟨by rw [List.length_map, List.length_nil]; omega, by rw [List.length_map, List.length_nil]; omega, tk_all w, h σ.n _ ⟨hn, by rw [St.new_n]; omega, by rw [St.new_same]; rfl⟩ (by rw [St.new_n]; omega) rfl⟩
theorem tapp_tok {n t : Nat} {σ : St} {v w : List Tk} {m : Nat → Nat → Prop} {k : A → St → Prop} (hm : m t 0) (ht : TBT n σ v t) (hlen : v.length + w.length ≤ 10000000)
    (h : ∀ σ', TBT n σ' (v ++ w) t → σ'.n = σ.n → σ'.base = σ.base → k (.sl (.tok t) 4 ((v ++ w).map tkA)) σ') : appendS m σ 4 40 (.tok t) (v.map tkA) (w.map tkA) k := by
  refine ⟨by rw [List.length_map, List.length_map]; omega, by rw [List.length_map, List.length_map]; omega, tk_all w, hm, ht.2.2, ?_⟩
  rw [← List.map_append]
  exact h _ ⟨ht.1, ht.2.1, St.set_same _ _ _⟩ rfl rfl

def shift (d : Nat) (t : Tk) : Tk := (t.1, t.2.1 + d, t.2.2)

theorem lexA_shape (s : List UInt8) : ∃ x e p, lexA s = .tup [x, .int .i64 e, .int .i64 p] := by
  unfold lexA
  split
  · exact ⟨_, _, _, rfl⟩
  · split <;> exact ⟨_, _, _, rfl⟩
theorem lexA_bad {s : List UInt8} (h : ¬ ∃ ts, ¬ 4096 < s.length ∧ lexAll s = .ok ts) : ∃ e p : Int, e ≠ 0 ∧ lexA s = .tup [.nils, .int .i64 e, .int .i64 p] := by
  by_cases hb : 4096 < s.length
  · exact ⟨4, 0, by decide, lexA_big hb⟩
  · cases hl : lexAll s with
    | ok ts => exact absurd ⟨ts, hb, hl⟩ h
    | error p => exact ⟨_, _, by have := lexAll_err hl; omega, lexA_err hb hl⟩

theorem lexAll_pl {s : List UInt8} {ts : List Tk} (h : lexAll s = .ok ts) : ∀ t ∈ ts, t.2.1 ≤ s.length := by
  obtain ⟨us, h1, rfl⟩ := lexAll_rd.1 h
  intro t ht
  obtain ⟨u, _, rfl⟩ := List.mem_map.1 ht
  show s.length - u.2.1 ≤ s.length
  omega

section
attribute [local irreducible] Bc ACallsW ALoop Fin St.set St.new appendS
theorem joins_ok (a b : List UInt8) (ha : a.length ≤ 140737488355328) (hb0 : b.length ≤ 140737488355328) (σ : St) (hB : B0 σ.base) : ACalls Tryd.prog 7 [.str a, .str b] σ (fun id _ => σ.n ≤ id) (fun e σ' => e = .ret (.bool true)) := by
  refine acalls_go mixed Tryd.func7 c_joins_ok (Nat.le_of_ble_eq_true rfl) ?_
  conv => whnf
  refine ACallsW.of (awake_ok _ hB Non) (fun _ _ _ h => h.elim) ?_
  rintro _ σ1 _ ⟨e1, rfl⟩
  have e2 := e1.symm
  subst e2
  conv => whnf
  repeat' (first
      | (refine Bc_t ?_; conv => whnf)
      | (refine Bc_f ?_; conv => whnf)
      | (rw [g1]; conv => whnf)
      | (rw [g2]; conv => whnf)
      | (rw [g3]; conv => whnf)
      | (rw [g4]; conv => whnf)
      | (rw [g5]; conv => whnf)
      | (rw [g6]; conv => whnf)
      | (rw [hr]; conv => whnf)
      | (refine Bc_split (fun hb => ?_) (fun hb => ?_) <;> (rw [hb]; conv => whnf))
      | (refine And.intro (by first
          | omega
          | assumption
          | (simp only [St.set_n, St.new_n] at *; omega)
          | (simp; done)
          | (simp; omega)
          | (intro _; exact trivial)
          | (intro _; intro _ _; exact trivial)
          | (intro _; intro j hj; first | rfl | (have hj' : j < 1 := hj
                                                 obtain rfl : j = 0 := by omega
                                                 exact ⟨rfl, rfl⟩))
          | (intro j hj; obtain rfl : j = 0 := by omega
             first | exact ⟨rfl, rfl⟩ | exact .inl ⟨rfl, rfl⟩ | exact .inr (by omega) | exact ⟨by assumption, by assumption⟩ | assumption | trivial)
          | exact .inr (by assumption)
          | (intro j hj; exact .inr (by simp only [St.set_n, St.new_n] at *; omega))
          | (intro e he; rcases List.mem_singleton.1 he with rfl; exact ⟨rfl, rfl⟩)
          | (rw [St.set_ne _ _ (by first | assumption | omega | (simp only [St.set_n, St.new_n] at *; omega))]; assumption)
          | (rw [St.set_ne _ _ (by first | assumption | omega | (simp only [St.set_n, St.new_n] at *; omega)), St.set_ne _ _ (by first | assumption | omega | (simp only [St.set_n, St.new_n] at *; omega))]; assumption)
          | (simp only [decide_eq_true_eq, decide_eq_false_iff_not, Bool.not_eq_true, beq_iff_eq, beq_eq_false_iff_ne, ne_eq, ge_iff_le, gt_iff_lt] at *; omega)) ?_; conv => whnf)
      | (rw [St.set_same]; conv => whnf)
      | (rw [St.new_same]; conv => whnf)
      | (rw [St.set_ne _ _ (by first | assumption | omega | (simp only [St.set_n, St.new_n] at *; omega))]; conv => whnf)
      | (rw [St.new_ne _ _ (by first | assumption | omega | (simp only [St.set_n, St.new_n] at *; omega))]; conv => whnf))
  refine ACallsW.of (lex_ok a _ hB Non) (fun _ _ _ h => h.elim) ?_
  rintro _ σ1 _ ⟨e1, rfl⟩
  have e2 := e1.symm
  subst e2
  by_cases hA : ∃ x, ¬ 4096 < a.length ∧ lexAll a = .ok x
  rotate_left 1
  · obtain ⟨e, p, he, h1⟩ := lexA_bad hA
    rw [h1]
    conv => whnf
    refine ACallsW.of (lex_ok b _ hB Non) (fun _ _ _ h => h.elim) ?_
    rintro _ σ1 _ ⟨e1, rfl⟩
    have e2 := e1.symm
    subst e2
    obtain ⟨x2, e2, p2, h2⟩ := lexA_shape b
    rw [h2]
    conv => whnf
    repeat' (first
        | (refine Bc_t ?_; conv => whnf)
        | (refine Bc_f ?_; conv => whnf)
        | (rw [g1]; conv => whnf)
        | (rw [g2]; conv => whnf)
        | (rw [g3]; conv => whnf)
        | (rw [g4]; conv => whnf)
        | (rw [g5]; conv => whnf)
        | (rw [g6]; conv => whnf)
        | (rw [hr]; conv => whnf)
        | (refine Bc_split (fun hb => ?_) (fun hb => ?_) <;> (rw [hb]; conv => whnf))
        | (refine And.intro (by first
            | omega
            | assumption
            | (simp only [St.set_n, St.new_n] at *; omega)
            | (simp; done)
            | (simp; omega)
            | (intro _; exact trivial)
            | (intro _; intro _ _; exact trivial)
            | (intro _; intro j hj; first | rfl | (have hj' : j < 1 := hj
                                                   obtain rfl : j = 0 := by omega
                                                   exact ⟨rfl, rfl⟩))
            | (intro j hj; obtain rfl : j = 0 := by omega
               first | exact ⟨rfl, rfl⟩ | exact .inl ⟨rfl, rfl⟩ | exact .inr (by omega) | exact ⟨by assumption, by assumption⟩ | assumption | trivial)
            | exact .inr (by assumption)
            | (intro j hj; exact .inr (by simp only [St.set_n, St.new_n] at *; omega))
            | (intro e he; rcases List.mem_singleton.1 he with rfl; exact ⟨rfl, rfl⟩)
            | (rw [St.set_ne _ _ (by first | assumption | omega | (simp only [St.set_n, St.new_n] at *; omega))]; assumption)
            | (rw [St.set_ne _ _ (by first | assumption | omega | (simp only [St.set_n, St.new_n] at *; omega)), St.set_ne _ _ (by first | assumption | omega | (simp only [St.set_n, St.new_n] at *; omega))]; assumption)
            | (simp only [decide_eq_true_eq, decide_eq_false_iff_not, Bool.not_eq_true, beq_iff_eq, beq_eq_false_iff_ne, ne_eq, ge_iff_le, gt_iff_lt] at *; omega)) ?_; conv => whnf)
        | (rw [St.set_same]; conv => whnf)
        | (rw [St.new_same]; conv => whnf)
        | (rw [St.set_ne _ _ (by first | assumption | omega | (simp only [St.set_n, St.new_n] at *; omega))]; conv => whnf)
        | (rw [St.new_ne _ _ (by first | assumption | omega | (simp only [St.set_n, St.new_n] at *; omega))]; conv => whnf))
    refine ACallsW.of (lex_ok _ _ hB Non) (fun _ _ _ h => h.elim) ?_
    rintro _ σ1 _ ⟨e1, rfl⟩
    have e3 := e1.symm
    subst e3
    obtain ⟨x3, e3, p3, h3⟩ := lexA_shape (a ++ [9] ++ b)
    rw [h3]
    have g1 : (e != 0) = true := by simpa using he
    conv => whnf
    repeat' (first
        | (refine Bc_t ?_; conv => whnf)
        | (refine Bc_f ?_; conv => whnf)
        | (rw [g1]; conv => whnf)
        | (rw [g2]; conv => whnf)
        | (rw [g3]; conv => whnf)
        | (rw [g4]; conv => whnf)
        | (rw [g5]; conv => whnf)
        | (rw [g6]; conv => whnf)
        | (rw [hr]; conv => whnf)
        | (refine Bc_split (fun hb => ?_) (fun hb => ?_) <;> (rw [hb]; conv => whnf))
        | (refine And.intro (by first
            | omega
            | assumption
            | (simp only [St.set_n, St.new_n] at *; omega)
            | (simp; done)
            | (simp; omega)
            | (intro _; exact trivial)
            | (intro _; intro _ _; exact trivial)
            | (intro _; intro j hj; first | rfl | (have hj' : j < 1 := hj
                                                   obtain rfl : j = 0 := by omega
                                                   exact ⟨rfl, rfl⟩))
            | (intro j hj; obtain rfl : j = 0 := by omega
               first | exact ⟨rfl, rfl⟩ | exact .inl ⟨rfl, rfl⟩ | exact .inr (by omega) | exact ⟨by assumption, by assumption⟩ | assumption | trivial)
            | exact .inr (by assumption)
            | (intro j hj; exact .inr (by simp only [St.set_n, St.new_n] at *; omega))
            | (intro e he; rcases List.mem_singleton.1 he with rfl; exact ⟨rfl, rfl⟩)
            | (rw [St.set_ne _ _ (by first | assumption | omega | (simp only [St.set_n, St.new_n] at *; omega))]; assumption)
            | (rw [St.set_ne _ _ (by first | assumption | omega | (simp only [St.set_n, St.new_n] at *; omega)), St.set_ne _ _ (by first | assumption | omega | (simp only [St.set_n, St.new_n] at *; omega))]; assumption)
            | (simp only [decide_eq_true_eq, decide_eq_false_iff_not, Bool.not_eq_true, beq_iff_eq, beq_eq_false_iff_ne, ne_eq, ge_iff_le, gt_iff_lt] at *; omega)) ?_; conv => whnf)
        | (rw [St.set_same]; conv => whnf)
        | (rw [St.new_same]; conv => whnf)
        | (rw [St.set_ne _ _ (by first | assumption | omega | (simp only [St.set_n, St.new_n] at *; omega))]; conv => whnf)
        | (rw [St.new_ne _ _ (by first | assumption | omega | (simp only [St.set_n, St.new_n] at *; omega))]; conv => whnf))
    exact Fin.of rfl
  obtain ⟨x, hla, hx⟩ := hA
  rw [lexA_ok hla hx]
  conv => whnf
  refine ACallsW.of (lex_ok b _ hB Non) (fun _ _ _ h => h.elim) ?_
  rintro _ σ1 _ ⟨e1, rfl⟩
  have e2 := e1.symm
  subst e2
  by_cases hB2 : ∃ y, ¬ 4096 < b.length ∧ lexAll b = .ok y
  rotate_left 1
  · obtain ⟨e, p, he, h1⟩ := lexA_bad hB2
    rw [h1]
    conv => whnf
    repeat' (first
        | (refine Bc_t ?_; conv => whnf)
        | (refine Bc_f ?_; conv => whnf)
        | (rw [g1]; conv => whnf)
        | (rw [g2]; conv => whnf)
        | (rw [g3]; conv => whnf)
        | (rw [g4]; conv => whnf)
        | (rw [g5]; conv => whnf)
        | (rw [g6]; conv => whnf)
        | (rw [hr]; conv => whnf)
        | (refine Bc_split (fun hb => ?_) (fun hb => ?_) <;> (rw [hb]; conv => whnf))
        | (refine And.intro (by first
            | omega
            | assumption
            | (simp only [St.set_n, St.new_n] at *; omega)
            | (simp; done)
            | (simp; omega)
            | (intro _; exact trivial)
            | (intro _; intro _ _; exact trivial)
            | (intro _; intro j hj; first | rfl | (have hj' : j < 1 := hj
                                                   obtain rfl : j = 0 := by omega
                                                   exact ⟨rfl, rfl⟩))
            | (intro j hj; obtain rfl : j = 0 := by omega
               first | exact ⟨rfl, rfl⟩ | exact .inl ⟨rfl, rfl⟩ | exact .inr (by omega) | exact ⟨by assumption, by assumption⟩ | assumption | trivial)
            | exact .inr (by assumption)
            | (intro j hj; exact .inr (by simp only [St.set_n, St.new_n] at *; omega))
            | (intro e he; rcases List.mem_singleton.1 he with rfl; exact ⟨rfl, rfl⟩)
            | (rw [St.set_ne _ _ (by first | assumption | omega | (simp only [St.set_n, St.new_n] at *; omega))]; assumption)
            | (rw [St.set_ne _ _ (by first | assumption | omega | (simp only [St.set_n, St.new_n] at *; omega)), St.set_ne _ _ (by first | assumption | omega | (simp only [St.set_n, St.new_n] at *; omega))]; assumption)
            | (simp only [decide_eq_true_eq, decide_eq_false_iff_not, Bool.not_eq_true, beq_iff_eq, beq_eq_false_iff_ne, ne_eq, ge_iff_le, gt_iff_lt] at *; omega)) ?_; conv => whnf)
        | (rw [St.set_same]; conv => whnf)
        | (rw [St.new_same]; conv => whnf)
        | (rw [St.set_ne _ _ (by first | assumption | omega | (simp only [St.set_n, St.new_n] at *; omega))]; conv => whnf)
        | (rw [St.new_ne _ _ (by first | assumption | omega | (simp only [St.set_n, St.new_n] at *; omega))]; conv => whnf))
    refine ACallsW.of (lex_ok _ _ hB Non) (fun _ _ _ h => h.elim) ?_
    rintro _ σ1 _ ⟨e1, rfl⟩
    have e3 := e1.symm
    subst e3
    obtain ⟨x3, e3, p3, h3⟩ := lexA_shape (a ++ [9] ++ b)
    rw [h3]
    have g1 : (e != 0) = true := by simpa using he
    conv => whnf
    repeat' (first
        | (refine Bc_t ?_; conv => whnf)
        | (refine Bc_f ?_; conv => whnf)
        | (rw [g1]; conv => whnf)
        | (rw [g2]; conv => whnf)
        | (rw [g3]; conv => whnf)
        | (rw [g4]; conv => whnf)
        | (rw [g5]; conv => whnf)
        | (rw [g6]; conv => whnf)
        | (rw [hr]; conv => whnf)
        | (refine Bc_split (fun hb => ?_) (fun hb => ?_) <;> (rw [hb]; conv => whnf))
        | (refine And.intro (by first
            | omega
            | assumption
            | (simp only [St.set_n, St.new_n] at *; omega)
            | (simp; done)
            | (simp; omega)
            | (intro _; exact trivial)
            | (intro _; intro _ _; exact trivial)
            | (intro _; intro j hj; first | rfl | (have hj' : j < 1 := hj
                                                   obtain rfl : j = 0 := by omega
                                                   exact ⟨rfl, rfl⟩))
            | (intro j hj; obtain rfl : j = 0 := by omega
               first | exact ⟨rfl, rfl⟩ | exact .inl ⟨rfl, rfl⟩ | exact .inr (by omega) | exact ⟨by assumption, by assumption⟩ | assumption | trivial)
            | exact .inr (by assumption)
            | (intro j hj; exact .inr (by simp only [St.set_n, St.new_n] at *; omega))
            | (intro e he; rcases List.mem_singleton.1 he with rfl; exact ⟨rfl, rfl⟩)
            | (rw [St.set_ne _ _ (by first | assumption | omega | (simp only [St.set_n, St.new_n] at *; omega))]; assumption)
            | (rw [St.set_ne _ _ (by first | assumption | omega | (simp only [St.set_n, St.new_n] at *; omega)), St.set_ne _ _ (by first | assumption | omega | (simp only [St.set_n, St.new_n] at *; omega))]; assumption)
            | (simp only [decide_eq_true_eq, decide_eq_false_iff_not, Bool.not_eq_true, beq_iff_eq, beq_eq_false_iff_ne, ne_eq, ge_iff_le, gt_iff_lt] at *; omega)) ?_; conv => whnf)
        | (rw [St.set_same]; conv => whnf)
        | (rw [St.new_same]; conv => whnf)
        | (rw [St.set_ne _ _ (by first | assumption | omega | (simp only [St.set_n, St.new_n] at *; omega))]; conv => whnf)
        | (rw [St.new_ne _ _ (by first | assumption | omega | (simp only [St.set_n, St.new_n] at *; omega))]; conv => whnf))
    exact Fin.of rfl
  obtain ⟨y, hlb, hy⟩ := hB2
  rw [lexA_ok hlb hy]
  conv => whnf
  repeat' (first
      | (refine Bc_t ?_; conv => whnf)
      | (refine Bc_f ?_; conv => whnf)
      | (rw [g1]; conv => whnf)
      | (rw [g2]; conv => whnf)
      | (rw [g3]; conv => whnf)
      | (rw [g4]; conv => whnf)
      | (rw [g5]; conv => whnf)
      | (rw [g6]; conv => whnf)
      | (rw [hr]; conv => whnf)
      | (refine Bc_split (fun hb => ?_) (fun hb => ?_) <;> (rw [hb]; conv => whnf))
      | (refine And.intro (by first
          | omega
          | assumption
          | (simp only [St.set_n, St.new_n] at *; omega)
          | (simp; done)
          | (simp; omega)
          | (intro _; exact trivial)
          | (intro _; intro _ _; exact trivial)
          | (intro _; intro j hj; first | rfl | (have hj' : j < 1 := hj
                                                 obtain rfl : j = 0 := by omega
                                                 exact ⟨rfl, rfl⟩))
          | (intro j hj; obtain rfl : j = 0 := by omega
             first | exact ⟨rfl, rfl⟩ | exact .inl ⟨rfl, rfl⟩ | exact .inr (by omega) | exact ⟨by assumption, by assumption⟩ | assumption | trivial)
          | exact .inr (by assumption)
          | (intro j hj; exact .inr (by simp only [St.set_n, St.new_n] at *; omega))
          | (intro e he; rcases List.mem_singleton.1 he with rfl; exact ⟨rfl, rfl⟩)
          | (rw [St.set_ne _ _ (by first | assumption | omega | (simp only [St.set_n, St.new_n] at *; omega))]; assumption)
          | (rw [St.set_ne _ _ (by first | assumption | omega | (simp only [St.set_n, St.new_n] at *; omega)), St.set_ne _ _ (by first | assumption | omega | (simp only [St.set_n, St.new_n] at *; omega))]; assumption)
          | (simp only [decide_eq_true_eq, decide_eq_false_iff_not, Bool.not_eq_true, beq_iff_eq, beq_eq_false_iff_ne, ne_eq, ge_iff_le, gt_iff_lt] at *; omega)) ?_; conv => whnf)
      | (rw [St.set_same]; conv => whnf)
      | (rw [St.new_same]; conv => whnf)
      | (rw [St.set_ne _ _ (by first | assumption | omega | (simp only [St.set_n, St.new_n] at *; omega))]; conv => whnf)
      | (rw [St.new_ne _ _ (by first | assumption | omega | (simp only [St.set_n, St.new_n] at *; omega))]; conv => whnf))
  refine ACallsW.of (lex_ok _ _ hB Non) (fun _ _ _ h => h.elim) ?_
  rintro _ σ1 _ ⟨e1, rfl⟩
  have e3 := e1.symm
  subst e3
  have hlz : (a ++ [9] ++ b).length = a.length + 1 + b.length := by simp; omega
  by_cases hz : 4096 < (a ++ [9] ++ b).length
  · rw [lexA_big hz]
    have g1 : decide (IntKind.i64.wrap (IntKind.i64.wrap ((a.length : Int) + 1) + (b.length : Int)) > 4096) = true := by
      rw [w64 (n := (a.length : Int) + 1) (by omega) (by omega), w64 (by omega) (by omega)]
      exact decide_eq_true (by omega)
    conv => whnf
    repeat' (first
        | (refine Bc_t ?_; conv => whnf)
        | (refine Bc_f ?_; conv => whnf)
        | (rw [g1]; conv => whnf)
        | (rw [g2]; conv => whnf)
        | (rw [g3]; conv => whnf)
        | (rw [g4]; conv => whnf)
        | (rw [g5]; conv => whnf)
        | (rw [g6]; conv => whnf)
        | (rw [hr]; conv => whnf)
        | (refine Bc_split (fun hb => ?_) (fun hb => ?_) <;> (rw [hb]; conv => whnf))
        | (refine And.intro (by first
            | omega
            | assumption
            | (simp only [St.set_n, St.new_n] at *; omega)
            | (simp; done)
            | (simp; omega)
            | (intro _; exact trivial)
            | (intro _; intro _ _; exact trivial)
            | (intro _; intro j hj; first | rfl | (have hj' : j < 1 := hj
                                                   obtain rfl : j = 0 := by omega
                                                   exact ⟨rfl, rfl⟩))
            | (intro j hj; obtain rfl : j = 0 := by omega
               first | exact ⟨rfl, rfl⟩ | exact .inl ⟨rfl, rfl⟩ | exact .inr (by omega) | exact ⟨by assumption, by assumption⟩ | assumption | trivial)
            | exact .inr (by assumption)
            | (intro j hj; exact .inr (by simp only [St.set_n, St.new_n] at *; omega))
            | (intro e he; rcases List.mem_singleton.1 he with rfl; exact ⟨rfl, rfl⟩)
            | (rw [St.set_ne _ _ (by first | assumption | omega | (simp only [St.set_n, St.new_n] at *; omega))]; assumption)
            | (rw [St.set_ne _ _ (by first | assumption | omega | (simp only [St.set_n, St.new_n] at *; omega)), St.set_ne _ _ (by first | assumption | omega | (simp only [St.set_n, St.new_n] at *; omega))]; assumption)
            | (simp only [decide_eq_true_eq, decide_eq_false_iff_not, Bool.not_eq_true, beq_iff_eq, beq_eq_false_iff_ne, ne_eq, ge_iff_le, gt_iff_lt] at *; omega)) ?_; conv => whnf)
        | (rw [St.set_same]; conv => whnf)
        | (rw [St.new_same]; conv => whnf)
        | (rw [St.set_ne _ _ (by first | assumption | omega | (simp only [St.set_n, St.new_n] at *; omega))]; conv => whnf)
        | (rw [St.new_ne _ _ (by first | assumption | omega | (simp only [St.set_n, St.new_n] at *; omega))]; conv => whnf))
    exact Fin.of rfl
  have hzz := joins hx hy
  rw [lexA_ok hz hzz]
  have hxl := lexAll_len hx
  have hyl := lexAll_len hy
  have hr : IntKind.i64.wrap ((((x ++ [endTk a]).map tkA).length : Int) - 1) = (x.length : Int) := by
    rw [List.length_map, List.length_append, List.length_singleton, w64 (by omega) (by omega)]; omega
  have hle : x.length ≤ ((x ++ [endTk a]).map tkA).length := by rw [List.length_map, List.length_append]; omega
  have g1 : (((x ++ [endTk a]).map tkA).take (x.length : Int).toNat).drop 0 = x.map tkA := by
    show ((x ++ [endTk a]).map tkA).take x.length = _
    rw [List.map_append, List.take_left' (by rw [List.length_map])]
  conv => whnf
  repeat' (first
      | (refine Bc_t ?_; conv => whnf)
      | (refine Bc_f ?_; conv => whnf)
      | (rw [g1]; conv => whnf)
      | (rw [g2]; conv => whnf)
      | (rw [g3]; conv => whnf)
      | (rw [g4]; conv => whnf)
      | (rw [g5]; conv => whnf)
      | (rw [g6]; conv => whnf)
      | (rw [hr]; conv => whnf)
      | (refine Bc_split (fun hb => ?_) (fun hb => ?_) <;> (rw [hb]; conv => whnf))
      | (refine And.intro (by first
          | omega
          | assumption
          | (simp only [St.set_n, St.new_n] at *; omega)
          | (simp; done)
          | (simp; omega)
          | (intro _; exact trivial)
          | (intro _; intro _ _; exact trivial)
          | (intro _; intro j hj; first | rfl | (have hj' : j < 1 := hj
                                                 obtain rfl : j = 0 := by omega
                                                 exact ⟨rfl, rfl⟩))
          | (intro j hj; obtain rfl : j = 0 := by omega
             first | exact ⟨rfl, rfl⟩ | exact .inl ⟨rfl, rfl⟩ | exact .inr (by omega) | exact ⟨by assumption, by assumption⟩ | assumption | trivial)
          | exact .inr (by assumption)
          | (intro j hj; exact .inr (by simp only [St.set_n, St.new_n] at *; omega))
          | (intro e he; rcases List.mem_singleton.1 he with rfl; exact ⟨rfl, rfl⟩)
          | (rw [St.set_ne _ _ (by first | assumption | omega | (simp only [St.set_n, St.new_n] at *; omega))]; assumption)
          | (rw [St.set_ne _ _ (by first | assumption | omega | (simp only [St.set_n, St.new_n] at *; omega)), St.set_ne _ _ (by first | assumption | omega | (simp only [St.set_n, St.new_n] at *; omega))]; assumption)
          | (simp only [decide_eq_true_eq, decide_eq_false_iff_not, Bool.not_eq_true, beq_iff_eq, beq_eq_false_iff_ne, ne_eq, ge_iff_le, gt_iff_lt] at *; omega)) ?_; conv => whnf)
      | (rw [St.set_same]; conv => whnf)
      | (rw [St.new_same]; conv => whnf)
      | (rw [St.set_ne _ _ (by first | assumption | omega | (simp only [St.set_n, St.new_n] at *; omega))]; conv => whnf)
      | (rw [St.new_ne _ _ (by first | assumption | omega | (simp only [St.set_n, St.new_n] at *; omega))]; conv => whnf))
  refine tapp_full (n := σ.n) (by omega) (Nat.le_refl _) ?_
  intro t σ2 ht hn2 hb2
  conv => whnf
  repeat' (first
      | (refine Bc_t ?_; conv => whnf)
      | (refine Bc_f ?_; conv => whnf)
      | (rw [g1]; conv => whnf)
      | (rw [g2]; conv => whnf)
      | (rw [g3]; conv => whnf)
      | (rw [g4]; conv => whnf)
      | (rw [g5]; conv => whnf)
      | (rw [g6]; conv => whnf)
      | (rw [hr]; conv => whnf)
      | (refine Bc_split (fun hb => ?_) (fun hb => ?_) <;> (rw [hb]; conv => whnf))
      | (refine And.intro (by first
          | omega
          | assumption
          | (simp only [St.set_n, St.new_n] at *; omega)
          | (simp; done)
          | (simp; omega)
          | (intro _; exact trivial)
          | (intro _; intro _ _; exact trivial)
          | (intro _; intro j hj; first | rfl | (have hj' : j < 1 := hj
                                                 obtain rfl : j = 0 := by omega
                                                 exact ⟨rfl, rfl⟩))
          | (intro j hj; obtain rfl : j = 0 := by omega
             first | exact ⟨rfl, rfl⟩ | exact .inl ⟨rfl, rfl⟩ | exact .inr (by omega) | exact ⟨by assumption, by assumption⟩ | assumption | trivial)
          | exact .inr (by assumption)
          | (intro j hj; exact .inr (by simp only [St.set_n, St.new_n] at *; omega))
          | (intro e he; rcases List.mem_singleton.1 he with rfl; exact ⟨rfl, rfl⟩)
          | (rw [St.set_ne _ _ (by first | assumption | omega | (simp only [St.set_n, St.new_n] at *; omega))]; assumption)
          | (rw [St.set_ne _ _ (by first | assumption | omega | (simp only [St.set_n, St.new_n] at *; omega)), St.set_ne _ _ (by first | assumption | omega | (simp only [St.set_n, St.new_n] at *; omega))]; assumption)
          | (simp only [decide_eq_true_eq, decide_eq_false_iff_not, Bool.not_eq_true, beq_iff_eq, beq_eq_false_iff_ne, ne_eq, ge_iff_le, gt_iff_lt] at *; omega)) ?_; conv => whnf)
      | (rw [St.set_same]; conv => whnf)
      | (rw [St.new_same]; conv => whnf)
      | (rw [St.set_ne _ _ (by first | assumption | omega | (simp only [St.set_n, St.new_n] at *; omega))]; conv => whnf)
      | (rw [St.new_ne _ _ (by first | assumption | omega | (simp only [St.set_n, St.new_n] at *; omega))]; conv => whnf))
  clear hr hle g1
  have hyL : (y ++ [endTk b]).length = y.length + 1 := by simp
  have hrw : IntKind.i64.wrap ((a.length : Int) + 1) = ((a.length + 1 : Nat) : Int) := by rw [w64 (by omega) (by omega)]; omega
  generalize hLz : (x ++ List.map (fun t => (t.fst, t.snd.fst + (a.length + 1), t.snd.snd)) y ++ [endTk (a ++ [9] ++ b)]) = zL
  have hfin : x ++ (y ++ [endTk b]).map (shift (a.length + 1)) = zL := by
    rw [← hLz, List.map_append, List.append_assoc]
    congr 2
    show [(0, b.length + (a.length + 1), 0, [])] = [endTk (a ++ [9] ++ b)]
    unfold endTk
    rw [hlz, show b.length + (a.length + 1) = a.length + 1 + b.length by omega]
  have hzl : zL.length ≤ 9000 := by rw [← hfin, List.length_append, List.length_map, hyL]; omega
  have hpl : ∀ u ∈ y ++ [endTk b], u.2.1 ≤ b.length := fun u hu => by
    rcases List.mem_append.1 hu with q | q
    · exact (lexAll_pl hy u q)
    · rw [List.mem_singleton.1 q]; exact Nat.le_refl _
  generalize hLy : y ++ [endTk b] = yL at hyL hfin hpl ⊢
  clear hLz hLy hzz
  unfold ALoop
  refine ⟨fun k env σ1 => ∃ i : Nat, k = yL.length - i ∧ i ≤ yL.length ∧ σ.n ≤ σ1.n ∧ TBT σ.n σ1 (x ++ (yL.take i).map (shift (a.length + 1))) t ∧
      env = [(0, .str a), (8, .sl .no 4 (yL.map tkA)), (11, .sl .no 4 (zL.map tkA)), (67, .int .i64 yL.length), (68, .int .i64 i), (14, .sl (.tok t) 4 ((x ++ (yL.take i).map (shift (a.length + 1))).map tkA))], _,
    [(0, .str a), (8, .sl .no 4 (yL.map tkA)), (11, .sl .no 4 (zL.map tkA)), (67, .int .i64 yL.length), (68, .int .i64 0), (14, .sl (.tok t) 4 ((x ++ (yL.take 0).map (shift (a.length + 1))).map tkA))],
    ⟨rfl, rfl, rfl, int_eq (by simp), rfl, (by rw [List.take_zero, List.map_nil, List.append_nil]; rfl), trivial⟩, ⟨0, rfl, by omega, hn2, by rw [List.take_zero, List.map_nil, List.append_nil]; exact ht, rfl⟩, ?_⟩
  rintro k env σ1 ⟨i, rfl, hi, hn1, hT, rfl⟩
  by_cases hlt : i < yL.length
  · obtain ⟨u, hu⟩ : ∃ u, yL[i]? = some u := ⟨_, List.getElem?_eq_getElem hlt⟩
    have g1 : (yL.map tkA)[(i : Int).toNat]? = some (tkA u) := by show (yL.map tkA)[i]? = _; rw [List.getElem?_map, hu]; rfl
    have g2 : decide ((i : Int) < yL.length) = true := by simp; omega
    have ht0 : t < σ1.n := hT.2.1
    conv => whnf
    repeat' (first
        | (refine Bc_t ?_; conv => whnf)
        | (refine Bc_f ?_; conv => whnf)
        | (rw [g1]; conv => whnf)
        | (rw [g2]; conv => whnf)
        | (rw [g3]; conv => whnf)
        | (rw [g4]; conv => whnf)
        | (rw [g5]; conv => whnf)
        | (rw [g6]; conv => whnf)
        | (rw [hr]; conv => whnf)
        | (refine Bc_split (fun hb => ?_) (fun hb => ?_) <;> (rw [hb]; conv => whnf))
        | (refine And.intro (by first
            | omega
            | assumption
            | (simp only [St.set_n, St.new_n] at *; omega)
            | (simp; done)
            | (simp; omega)
            | (intro _; exact trivial)
            | (intro _; intro _ _; exact trivial)
            | (intro _; intro j hj; first | rfl | (have hj' : j < 1 := hj
                                                   obtain rfl : j = 0 := by omega
                                                   exact ⟨rfl, rfl⟩))
            | (intro j hj; obtain rfl : j = 0 := by omega
               first | exact ⟨rfl, rfl⟩ | exact .inl ⟨rfl, rfl⟩ | exact .inr (by omega) | exact ⟨by assumption, by assumption⟩ | assumption | trivial)
            | exact .inr (by assumption)
            | (intro j hj; exact .inr (by simp only [St.set_n, St.new_n] at *; omega))
            | (intro e he; rcases List.mem_singleton.1 he with rfl; exact ⟨rfl, rfl⟩)
            | (rw [St.set_ne _ _ (by first | assumption | omega | (simp only [St.set_n, St.new_n] at *; omega))]; assumption)
            | (rw [St.set_ne _ _ (by first | assumption | omega | (simp only [St.set_n, St.new_n] at *; omega)), St.set_ne _ _ (by first | assumption | omega | (simp only [St.set_n, St.new_n] at *; omega))]; assumption)
            | (simp only [decide_eq_true_eq, decide_eq_false_iff_not, Bool.not_eq_true, beq_iff_eq, beq_eq_false_iff_ne, ne_eq, ge_iff_le, gt_iff_lt] at *; omega)) ?_; conv => whnf)
        | (rw [St.set_same]; conv => whnf)
        | (rw [St.new_same]; conv => whnf)
        | (rw [St.set_ne _ _ (by first | assumption | omega | (simp only [St.set_n, St.new_n] at *; omega))]; conv => whnf)
        | (rw [St.new_ne _ _ (by first | assumption | omega | (simp only [St.set_n, St.new_n] at *; omega))]; conv => whnf))
    have hub := hpl u (List.mem_of_getElem? hu)
    have hw : IntKind.i64.wrap ((u.2.1 : Int) + IntKind.i64.wrap ((a.length : Int) + 1)) = ((u.2.1 + (a.length + 1) : Nat) : Int) := by rw [hrw, w64 (by omega) (by omega)]; omega
    rw [hw]
    have hne : t ≠ σ1.n := by omega
    have hvl : (x ++ (yL.take i).map (shift (a.length + 1))).length + 1 ≤ 10000000 := by rw [List.length_append, List.length_map, List.length_take]; omega
    refine tapp_tok (n := σ.n) (w := [shift (a.length + 1) u]) hT.1 ⟨hT.1, by simp only [St.set_n, St.new_n]; omega, by rw [St.set_ne _ _ hne, St.set_ne _ _ hne, St.new_ne _ _ hne]; exact hT.2.2⟩ hvl ?_
    intro σ3 hT3 hn3 _
    simp only [St.set_n, St.new_n] at hn3
    have hstep : (x ++ (yL.take i).map (shift (a.length + 1))) ++ [shift (a.length + 1) u] = x ++ (yL.take (i + 1)).map (shift (a.length + 1)) := by
      rw [List.take_add_one, hu, List.append_assoc, List.map_append]; rfl
    rw [hstep] at hT3 ⊢
    conv => whnf
    repeat' (first
        | (refine Bc_t ?_; conv => whnf)
        | (refine Bc_f ?_; conv => whnf)
        | (rw [g1]; conv => whnf)
        | (rw [g2]; conv => whnf)
        | (rw [g3]; conv => whnf)
        | (rw [g4]; conv => whnf)
        | (rw [g5]; conv => whnf)
        | (rw [g6]; conv => whnf)
        | (rw [hr]; conv => whnf)
        | (refine Bc_split (fun hb => ?_) (fun hb => ?_) <;> (rw [hb]; conv => whnf))
        | (refine And.intro (by first
            | omega
            | assumption
            | (simp only [St.set_n, St.new_n] at *; omega)
            | (simp; done)
            | (simp; omega)
            | (intro _; exact trivial)
            | (intro _; intro _ _; exact trivial)
            | (intro _; intro j hj; first | rfl | (have hj' : j < 1 := hj
                                                   obtain rfl : j = 0 := by omega
                                                   exact ⟨rfl, rfl⟩))
            | (intro j hj; obtain rfl : j = 0 := by omega
               first | exact ⟨rfl, rfl⟩ | exact .inl ⟨rfl, rfl⟩ | exact .inr (by omega) | exact ⟨by assumption, by assumption⟩ | assumption | trivial)
            | exact .inr (by assumption)
            | (intro j hj; exact .inr (by simp only [St.set_n, St.new_n] at *; omega))
            | (intro e he; rcases List.mem_singleton.1 he with rfl; exact ⟨rfl, rfl⟩)
            | (rw [St.set_ne _ _ (by first | assumption | omega | (simp only [St.set_n, St.new_n] at *; omega))]; assumption)
            | (rw [St.set_ne _ _ (by first | assumption | omega | (simp only [St.set_n, St.new_n] at *; omega)), St.set_ne _ _ (by first | assumption | omega | (simp only [St.set_n, St.new_n] at *; omega))]; assumption)
            | (simp only [decide_eq_true_eq, decide_eq_false_iff_not, Bool.not_eq_true, beq_iff_eq, beq_eq_false_iff_ne, ne_eq, ge_iff_le, gt_iff_lt] at *; omega)) ?_; conv => whnf)
        | (rw [St.set_same]; conv => whnf)
        | (rw [St.new_same]; conv => whnf)
        | (rw [St.set_ne _ _ (by first | assumption | omega | (simp only [St.set_n, St.new_n] at *; omega))]; conv => whnf)
        | (rw [St.new_ne _ _ (by first | assumption | omega | (simp only [St.set_n, St.new_n] at *; omega))]; conv => whnf))
    refine ⟨_, [(0, .str a), (8, .sl .no 4 (yL.map tkA)), (11, .sl .no 4 (zL.map tkA)), (67, .int .i64 yL.length), (68, .int .i64 (i + 1 : Nat)), (14, .sl (.tok t) 4 ((x ++ (yL.take (i + 1)).map (shift (a.length + 1))).map tkA))], ?_,
      ⟨rfl, rfl, rfl, rfl, int_eq (by rw [w64 (by omega) (by omega)]; omega), rfl, trivial⟩, i + 1, rfl, by omega, by omega, hT3, rfl⟩
    omega
  · obtain rfl : i = yL.length := by omega
    have g1 : decide ((yL.length : Int) < yL.length) = false := by simp
    rw [List.take_length, hfin]
    conv => whnf
    repeat' (first
        | (refine Bc_t ?_; conv => whnf)
        | (refine Bc_f ?_; conv => whnf)
        | (rw [g1]; conv => whnf)
        | (rw [g2]; conv => whnf)
        | (rw [g3]; conv => whnf)
        | (rw [g4]; conv => whnf)
        | (rw [g5]; conv => whnf)
        | (rw [g6]; conv => whnf)
        | (rw [hr]; conv => whnf)
        | (refine Bc_split (fun hb => ?_) (fun hb => ?_) <;> (rw [hb]; conv => whnf))
        | (refine And.intro (by first
            | omega
            | assumption
            | (simp only [St.set_n, St.new_n] at *; omega)
            | (simp; done)
            | (simp; omega)
            | (intro _; exact trivial)
            | (intro _; intro _ _; exact trivial)
            | (intro _; intro j hj; first | rfl | (have hj' : j < 1 := hj
                                                   obtain rfl : j = 0 := by omega
                                                   exact ⟨rfl, rfl⟩))
            | (intro j hj; obtain rfl : j = 0 := by omega
               first | exact ⟨rfl, rfl⟩ | exact .inl ⟨rfl, rfl⟩ | exact .inr (by omega) | exact ⟨by assumption, by assumption⟩ | assumption | trivial)
            | exact .inr (by assumption)
            | (intro j hj; exact .inr (by simp only [St.set_n, St.new_n] at *; omega))
            | (intro e he; rcases List.mem_singleton.1 he with rfl; exact ⟨rfl, rfl⟩)
            | (rw [St.set_ne _ _ (by first | assumption | omega | (simp only [St.set_n, St.new_n] at *; omega))]; assumption)
            | (rw [St.set_ne _ _ (by first | assumption | omega | (simp only [St.set_n, St.new_n] at *; omega)), St.set_ne _ _ (by first | assumption | omega | (simp only [St.set_n, St.new_n] at *; omega))]; assumption)
            | (simp only [decide_eq_true_eq, decide_eq_false_iff_not, Bool.not_eq_true, beq_iff_eq, beq_eq_false_iff_ne, ne_eq, ge_iff_le, gt_iff_lt] at *; omega)) ?_; conv => whnf)
        | (rw [St.set_same]; conv => whnf)
        | (rw [St.new_same]; conv => whnf)
        | (rw [St.set_ne _ _ (by first | assumption | omega | (simp only [St.set_n, St.new_n] at *; omega))]; conv => whnf)
        | (rw [St.new_ne _ _ (by first | assumption | omega | (simp only [St.set_n, St.new_n] at *; omega))]; conv => whnf))
    refine ACallsW.of (same_ok (l := zL) (l' := zL) (.inr ⟨.no, rfl⟩) (.inr ⟨.tok t, rfl⟩) (by omega) _ Non) (fun _ _ _ h => h.elim) ?_
    rintro _ σ3 _ ⟨e1, rfl⟩
    have e2 := e1.symm
    subst e2
    conv => whnf
    repeat' (first
        | (refine Bc_t ?_; conv => whnf)
        | (refine Bc_f ?_; conv => whnf)
        | (rw [g1]; conv => whnf)
        | (rw [g2]; conv => whnf)
        | (rw [g3]; conv => whnf)
        | (rw [g4]; conv => whnf)
        | (rw [g5]; conv => whnf)
        | (rw [g6]; conv => whnf)
        | (rw [hr]; conv => whnf)
        | (refine Bc_split (fun hb => ?_) (fun hb => ?_) <;> (rw [hb]; conv => whnf))
        | (refine And.intro (by first
            | omega
            | assumption
            | (simp only [St.set_n, St.new_n] at *; omega)
            | (simp; done)
            | (simp; omega)
            | (intro _; exact trivial)
            | (intro _; intro _ _; exact trivial)
            | (intro _; intro j hj; first | rfl | (have hj' : j < 1 := hj
                                                   obtain rfl : j = 0 := by omega
                                                   exact ⟨rfl, rfl⟩))
            | (intro j hj; obtain rfl : j = 0 := by omega
               first | exact ⟨rfl, rfl⟩ | exact .inl ⟨rfl, rfl⟩ | exact .inr (by omega) | exact ⟨by assumption, by assumption⟩ | assumption | trivial)
            | exact .inr (by assumption)
            | (intro j hj; exact .inr (by simp only [St.set_n, St.new_n] at *; omega))
            | (intro e he; rcases List.mem_singleton.1 he with rfl; exact ⟨rfl, rfl⟩)
            | (rw [St.set_ne _ _ (by first | assumption | omega | (simp only [St.set_n, St.new_n] at *; omega))]; assumption)
            | (rw [St.set_ne _ _ (by first | assumption | omega | (simp only [St.set_n, St.new_n] at *; omega)), St.set_ne _ _ (by first | assumption | omega | (simp only [St.set_n, St.new_n] at *; omega))]; assumption)
            | (simp only [decide_eq_true_eq, decide_eq_false_iff_not, Bool.not_eq_true, beq_iff_eq, beq_eq_false_iff_ne, ne_eq, ge_iff_le, gt_iff_lt] at *; omega)) ?_; conv => whnf)
        | (rw [St.set_same]; conv => whnf)
        | (rw [St.new_same]; conv => whnf)
        | (rw [St.set_ne _ _ (by first | assumption | omega | (simp only [St.set_n, St.new_n] at *; omega))]; conv => whnf)
        | (rw [St.new_ne _ _ (by first | assumption | omega | (simp only [St.set_n, St.new_n] at *; omega))]; conv => whnf))
    exact Fin.of (congrArg (fun z => AEnd.ret (A.bool z)) (decide_eq_true rfl))
end
end Go.Proofs.YtjeccchbeflddaaDoor.Ga
