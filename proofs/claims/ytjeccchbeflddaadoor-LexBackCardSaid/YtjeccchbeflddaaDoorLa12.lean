/- awake. -/
import Derived.Test.YtjeccchbeflddaaDoorLa11
set_option linter.unusedVariables false
set_option linter.unusedSimpArgs false
namespace Go.Proofs.YtjeccchbeflddaaDoor.Ga
open Lx

def c_awake : SFun := ⟨65, (.seq (.reg [⟨(some 0), (.mov (.const (.bool false))), none⟩]) (.seq (.reg [⟨(some 8), (.call 14 [(.const (.str [108, 101, 116, 32, 120, 39, 32, 61, 32, 49, 40, 42, 32, 97, 32, 40, 42, 32, 98, 32, 42, 41, 32, 42, 41]))]), none⟩, ⟨(some 7), (.mov (.tmp 8)), none⟩, ⟨(some 9), (.extract (.tmp 7) 0), none⟩, ⟨(some 10), (.extract (.tmp 7) 1), none⟩, ⟨(some 11), (.extract (.tmp 7) 2), none⟩, ⟨(some 1), (.mov (.tmp 9)), none⟩, ⟨(some 2), (.mov (.tmp 10)), none⟩, ⟨(some 3), (.mov (.tmp 11)), none⟩]) (.seq (.reg [⟨(some 13), (.call 14 [(.const (.str [97, 32, 40, 42, 32, 40, 42, 32, 42, 41]))]), none⟩, ⟨(some 12), (.mov (.tmp 13)), none⟩, ⟨(some 14), (.extract (.tmp 12) 0), none⟩, ⟨(some 15), (.extract (.tmp 12) 1), none⟩, ⟨(some 16), (.extract (.tmp 12) 2), none⟩, ⟨(some 4), (.mov (.tmp 14)), none⟩, ⟨(some 5), (.mov (.tmp 15)), none⟩, ⟨(some 6), (.mov (.tmp 16)), none⟩]) (.seq (.reg [⟨(some 17), (.mov (.tmp 2)), none⟩, ⟨(some 18), (.bin .eql .none (.tmp 17) (.const (.int .i64 0))), none⟩, ⟨(some 19), (.mov (.tmp 18)), none⟩, ⟨(some 20), (.mov (.tmp 1)), (some (19, true))⟩, ⟨(some 21), (.len .sl (.tmp 20)), (some (19, true))⟩, ⟨(some 22), (.bin .eql .none (.tmp 21) (.const (.int .i64 5))), (some (19, true))⟩, ⟨(some 23), (.pick (.tmp 19) (.tmp 22) (.const (.bool false))), none⟩, ⟨(some 24), (.mov (.tmp 23)), none⟩, ⟨(some 25), (.mov (.tmp 1)), (some (24, true))⟩, ⟨(some 26), (.idxAddr 4 (.tmp 25) (.const (.int .i64 1))), (some (24, true))⟩, ⟨(some 27), (.fieldAddr 3 (.tmp 26)), (some (24, true))⟩, ⟨(some 28), (.load false 1 (.tmp 27)), (some (24, true))⟩, ⟨(some 29), (.bin .eql .none (.tmp 28) (.const (.str [120, 39]))), (some (24, true))⟩, ⟨(some 30), (.pick (.tmp 24) (.tmp 29) (.const (.bool false))), none⟩, ⟨(some 31), (.mov (.tmp 30)), none⟩, ⟨(some 32), (.mov (.tmp 1)), (some (31, true))⟩, ⟨(some 33), (.idxAddr 4 (.tmp 32) (.const (.int .i64 3))), (some (31, true))⟩, ⟨(some 34), (.fieldAddr 2 (.tmp 33)), (some (31, true))⟩, ⟨(some 35), (.load false 1 (.tmp 34)), (some (31, true))⟩, ⟨(some 36), (.bin .eql .none (.tmp 35) (.const (.int .i64 1))), (some (31, true))⟩, ⟨(some 37), (.pick (.tmp 31) (.tmp 36) (.const (.bool false))), none⟩, ⟨(some 38), (.mov (.tmp 37)), none⟩, ⟨(some 39), (.mov (.tmp 1)), (some (38, true))⟩, ⟨(some 40), (.idxAddr 4 (.tmp 39) (.const (.int .i64 4))), (some (38, true))⟩, ⟨(some 41), (.fieldAddr 1 (.tmp 40)), (some (38, true))⟩, ⟨(some 42), (.load false 1 (.tmp 41)), (some (38, true))⟩, ⟨(some 43), (.bin .eql .none (.tmp 42) (.const (.int .i64 25))), (some (38, true))⟩, ⟨(some 44), (.pick (.tmp 38) (.tmp 43) (.const (.bool false))), none⟩, ⟨(some 45), (.mov (.tmp 44)), none⟩, ⟨(some 46), (.mov (.tmp 5)), (some (45, true))⟩, ⟨(some 47), (.bin .eql .none (.tmp 46) (.const (.int .i64 20))), (some (45, true))⟩, ⟨(some 48), (.pick (.tmp 45) (.tmp 47) (.const (.bool false))), none⟩, ⟨(some 49), (.mov (.tmp 48)), none⟩, ⟨(some 50), (.mov (.tmp 6)), (some (49, true))⟩, ⟨(some 51), (.bin .eql .none (.tmp 50) (.const (.int .i64 2))), (some (49, true))⟩, ⟨(some 52), (.pick (.tmp 49) (.tmp 51) (.const (.bool false))), none⟩, ⟨(some 53), (.mov (.tmp 52)), none⟩, ⟨(some 54), (.call 10 [(.const (.str [108, 101, 116]))]), (some (53, true))⟩, ⟨(some 55), (.pick (.tmp 53) (.tmp 54) (.const (.bool false))), none⟩, ⟨(some 56), (.mov (.tmp 55)), none⟩, ⟨(some 57), (.call 10 [(.const (.str [108, 101, 116, 115]))]), (some (56, true))⟩, ⟨(some 58), (.un .not (.tmp 57)), (some (56, true))⟩, ⟨(some 59), (.pick (.tmp 56) (.tmp 58) (.const (.bool false))), none⟩, ⟨(some 60), (.mov (.tmp 59)), none⟩, ⟨(some 61), (.build [(.int .i64 0), (.int .i64 0), (.int .i64 0), (.str [])] [(0, (1, (.const (.int .i64 2)))), (3, (1, (.const (.str [97, 10]))))]), (some (60, true))⟩, ⟨(some 62), (.call 12 [(.tmp 61)]), (some (60, true))⟩, ⟨(some 63), (.bin .eql .none (.tmp 62) (.const (.str [34, 97, 92, 110, 34]))), (some (60, true))⟩, ⟨(some 64), (.pick (.tmp 60) (.tmp 63) (.const (.bool false))), none⟩, ⟨(some 0), (.mov (.tmp 64)), none⟩]) .ret)))), [(.tmp 0)]⟩
theorem c_awake_ok : cFun Tryd.prog Tryd.f9 = some c_awake := by kernel_rfl

def src1 : List UInt8 := [108, 101, 116, 32, 120, 39, 32, 61, 32, 49, 40, 42, 32, 97, 32, 40, 42, 32, 98, 32, 42, 41, 32, 42, 41]
def src2 : List UInt8 := [97, 32, 40, 42, 32, 40, 42, 32, 42, 41]
theorem lex1 : lexAll src1 = .ok [(5, 0, 0, [108, 101, 116]), (3, 4, 0, [120, 39]), (5, 7, 0, [61]), (1, 9, 1, [])] := by kernel_rfl
theorem lex2 : lexAll src2 = .error (20, 2) := by kernel_rfl
theorem word1 : isWord [108, 101, 116] = true := by kernel_rfl
theorem word2 : isWord [108, 101, 116, 115] = false := by kernel_rfl
theorem quote1 : quote [97, 10] = [34, 97, 92, 110, 34] := by kernel_rfl
theorem lexA1 : lexA src1 = .tup [.sl .no 4 ([((5, 0, 0, [108, 101, 116]) : Tk), (3, 4, 0, [120, 39]), (5, 7, 0, [61]), (1, 9, 1, []), (0, 25, 0, [])].map tkA), .int .i64 0, .int .i64 0] := by
  rw [lexA, if_neg (by decide), lex1]; rfl
theorem lexA2 : lexA src2 = .tup [.nils, .int .i64 20, .int .i64 2] := by
  rw [lexA, if_neg (by decide), lex2]; rfl

theorem lex_at1 (σ : St) (hB : B0 σ.base) (m) : ACalls Tryd.prog 14 [.str [108, 101, 116, 32, 120, 39, 32, 61, 32, 49, 40, 42, 32, 97, 32, 40, 42, 32, 98, 32, 42, 41, 32, 42, 41]] σ m (fun e σ' => σ' = σ ∧
    e = .ret (.tup [.sl .no 4 [tokA 5 0 0 [108, 101, 116], tokA 3 4 0 [120, 39], tokA 5 7 0 [61], tokA 1 9 1 [], tokA 0 25 0 []], .int .i64 0, .int .i64 0])) :=
  (lex_ok src1 σ hB m).mono fun e σ' h => ⟨h.1, by rw [h.2, lexA1]; rfl⟩
theorem lex_at2 (σ : St) (hB : B0 σ.base) (m) : ACalls Tryd.prog 14 [.str [97, 32, 40, 42, 32, 40, 42, 32, 42, 41]] σ m (fun e σ' => σ' = σ ∧ e = .ret (.tup [.nils, .int .i64 20, .int .i64 2])) :=
  (lex_ok src2 σ hB m).mono fun e σ' h => ⟨h.1, by rw [h.2, lexA2]⟩
theorem word_at1 (σ : St) (hB : B0 σ.base) (m) : ACalls Tryd.prog 10 [.str [108, 101, 116]] σ m (fun e σ' => σ' = σ ∧ e = .ret (.bool true)) :=
  (isWord_ok _ (by decide) σ hB m).mono fun e σ' h => ⟨h.1, by rw [h.2, word1]⟩
theorem word_at2 (σ : St) (hB : B0 σ.base) (m) : ACalls Tryd.prog 10 [.str [108, 101, 116, 115]] σ m (fun e σ' => σ' = σ ∧ e = .ret (.bool false)) :=
  (isWord_ok _ (by decide) σ hB m).mono fun e σ' h => ⟨h.1, by rw [h.2, word2]⟩
theorem textOf1 : textOf (2, 0, 0, [97, 10]) = [34, 97, 92, 110, 34] := by rw [textOf, if_neg (by decide), if_pos (by decide)]; exact quote1
theorem text_at1 (σ : St) (hB : B0 σ.base) (m) : ACalls Tryd.prog 12 [.agg [.int .i64 2, .int .i64 0, .int .i64 0, .str [97, 10]]] σ m (fun e σ' => σ' = σ ∧ e = .ret (.str [34, 97, 92, 110, 34])) :=
  (lextext_ok (2, 0, 0, [97, 10]) (by decide) (by decide) σ hB m).mono fun e σ' h => ⟨h.1, by rw [h.2, textOf1]⟩

section
attribute [local irreducible] Bc ACallsW ALoop Fin St.set St.new
theorem awake_ok (σ : St) (hB : B0 σ.base) (m) : ACalls Tryd.prog 9 [] σ m (fun e σ' => σ' = σ ∧ e = .ret (.bool true)) := by
  refine acalls_go mixed Tryd.func9 c_awake_ok (Nat.le_of_ble_eq_true rfl) ?_
  conv => whnf
  refine ACallsW.of (lex_at1 _ hB Non) (fun _ _ _ h => h.elim) ?_
  rintro _ σ1 _ ⟨e1, rfl⟩
  have e2 := e1.symm
  subst e2
  conv => whnf
  refine ACallsW.of (lex_at2 _ hB Non) (fun _ _ _ h => h.elim) ?_
  rintro _ σ1 _ ⟨e1, rfl⟩
  have e2 := e1.symm
  subst e2
  conv => whnf
  repeat' (first
      | (refine Bc_t ?_; conv => whnf)
      | (refine Bc_f ?_; conv => whnf)
      | (rw [g1]; conv => whnf)
      | (rw [g2]; conv => whnf)
      | (rw [g3]; conv => whnf)
      | (rw [g4]; conv => whnf)
      | (rw [g5]; conv => whnf)
      | (rw [g6]; conv => whnf)
      | (rw [hr]; conv => whnf)
      | (refine Bc_split (fun hb => ?_) (fun hb => ?_) <;> (rw [hb]; conv => whnf))
      | (refine And.intro (by first
          | omega
          | assumption
          | (simp only [St.set_n, St.new_n] at *; omega)
          | (simp; done)
          | (simp; omega)
          | (intro _; exact trivial)
          | (intro _; intro _ _; exact trivial)
          | (intro _; intro j hj; first | rfl | (have hj' : j < 1 := hj
                                                 obtain rfl : j = 0 := by omega
                                                 exact ⟨rfl, rfl⟩))
          | (intro j hj; obtain rfl : j = 0 := by omega
             first | exact ⟨rfl, rfl⟩ | exact .inl ⟨rfl, rfl⟩ | exact .inr (by omega) | exact ⟨by assumption, by assumption⟩ | assumption | trivial)
          | exact .inr (by assumption)
          | (intro j hj; exact .inr (by simp only [St.set_n, St.new_n] at *; omega))
          | (intro e he; rcases List.mem_singleton.1 he with rfl; exact ⟨rfl, rfl⟩)
          | (rw [St.set_ne _ _ (by first | assumption | omega | (simp only [St.set_n, St.new_n] at *; omega))]; assumption)
          | (rw [St.set_ne _ _ (by first | assumption | omega | (simp only [St.set_n, St.new_n] at *; omega)), St.set_ne _ _ (by first | assumption | omega | (simp only [St.set_n, St.new_n] at *; omega))]; assumption)
          | (simp only [decide_eq_true_eq, decide_eq_false_iff_not, Bool.not_eq_true, beq_iff_eq, beq_eq_false_iff_ne, ne_eq, ge_iff_le, gt_iff_lt] at *; omega)) ?_; conv => whnf)
      | (rw [St.set_same]; conv => whnf)
      | (rw [St.new_same]; conv => whnf)
      | (rw [St.set_ne _ _ (by first | assumption | omega | (simp only [St.set_n, St.new_n] at *; omega))]; conv => whnf)
      | (rw [St.new_ne _ _ (by first | assumption | omega | (simp only [St.set_n, St.new_n] at *; omega))]; conv => whnf))
  refine ACallsW.of (word_at1 _ hB Non) (fun _ _ _ h => h.elim) ?_
  rintro _ σ1 _ ⟨e1, rfl⟩
  have e2 := e1.symm
  subst e2
  conv => whnf
  repeat' (first
      | (refine Bc_t ?_; conv => whnf)
      | (refine Bc_f ?_; conv => whnf)
      | (rw [g1]; conv => whnf)
      | (rw [g2]; conv => whnf)
      | (rw [g3]; conv => whnf)
      | (rw [g4]; conv => whnf)
      | (rw [g5]; conv => whnf)
      | (rw [g6]; conv => whnf)
      | (rw [hr]; conv => whnf)
      | (refine Bc_split (fun hb => ?_) (fun hb => ?_) <;> (rw [hb]; conv => whnf))
      | (refine And.intro (by first
          | omega
          | assumption
          | (simp only [St.set_n, St.new_n] at *; omega)
          | (simp; done)
          | (simp; omega)
          | (intro _; exact trivial)
          | (intro _; intro _ _; exact trivial)
          | (intro _; intro j hj; first | rfl | (have hj' : j < 1 := hj
                                                 obtain rfl : j = 0 := by omega
                                                 exact ⟨rfl, rfl⟩))
          | (intro j hj; obtain rfl : j = 0 := by omega
             first | exact ⟨rfl, rfl⟩ | exact .inl ⟨rfl, rfl⟩ | exact .inr (by omega) | exact ⟨by assumption, by assumption⟩ | assumption | trivial)
          | exact .inr (by assumption)
          | (intro j hj; exact .inr (by simp only [St.set_n, St.new_n] at *; omega))
          | (intro e he; rcases List.mem_singleton.1 he with rfl; exact ⟨rfl, rfl⟩)
          | (rw [St.set_ne _ _ (by first | assumption | omega | (simp only [St.set_n, St.new_n] at *; omega))]; assumption)
          | (rw [St.set_ne _ _ (by first | assumption | omega | (simp only [St.set_n, St.new_n] at *; omega)), St.set_ne _ _ (by first | assumption | omega | (simp only [St.set_n, St.new_n] at *; omega))]; assumption)
          | (simp only [decide_eq_true_eq, decide_eq_false_iff_not, Bool.not_eq_true, beq_iff_eq, beq_eq_false_iff_ne, ne_eq, ge_iff_le, gt_iff_lt] at *; omega)) ?_; conv => whnf)
      | (rw [St.set_same]; conv => whnf)
      | (rw [St.new_same]; conv => whnf)
      | (rw [St.set_ne _ _ (by first | assumption | omega | (simp only [St.set_n, St.new_n] at *; omega))]; conv => whnf)
      | (rw [St.new_ne _ _ (by first | assumption | omega | (simp only [St.set_n, St.new_n] at *; omega))]; conv => whnf))
  refine ACallsW.of (word_at2 _ hB Non) (fun _ _ _ h => h.elim) ?_
  rintro _ σ1 _ ⟨e1, rfl⟩
  have e2 := e1.symm
  subst e2
  conv => whnf
  repeat' (first
      | (refine Bc_t ?_; conv => whnf)
      | (refine Bc_f ?_; conv => whnf)
      | (rw [g1]; conv => whnf)
      | (rw [g2]; conv => whnf)
      | (rw [g3]; conv => whnf)
      | (rw [g4]; conv => whnf)
      | (rw [g5]; conv => whnf)
      | (rw [g6]; conv => whnf)
      | (rw [hr]; conv => whnf)
      | (refine Bc_split (fun hb => ?_) (fun hb => ?_) <;> (rw [hb]; conv => whnf))
      | (refine And.intro (by first
          | omega
          | assumption
          | (simp only [St.set_n, St.new_n] at *; omega)
          | (simp; done)
          | (simp; omega)
          | (intro _; exact trivial)
          | (intro _; intro _ _; exact trivial)
          | (intro _; intro j hj; first | rfl | (have hj' : j < 1 := hj
                                                 obtain rfl : j = 0 := by omega
                                                 exact ⟨rfl, rfl⟩))
          | (intro j hj; obtain rfl : j = 0 := by omega
             first | exact ⟨rfl, rfl⟩ | exact .inl ⟨rfl, rfl⟩ | exact .inr (by omega) | exact ⟨by assumption, by assumption⟩ | assumption | trivial)
          | exact .inr (by assumption)
          | (intro j hj; exact .inr (by simp only [St.set_n, St.new_n] at *; omega))
          | (intro e he; rcases List.mem_singleton.1 he with rfl; exact ⟨rfl, rfl⟩)
          | (rw [St.set_ne _ _ (by first | assumption | omega | (simp only [St.set_n, St.new_n] at *; omega))]; assumption)
          | (rw [St.set_ne _ _ (by first | assumption | omega | (simp only [St.set_n, St.new_n] at *; omega)), St.set_ne _ _ (by first | assumption | omega | (simp only [St.set_n, St.new_n] at *; omega))]; assumption)
          | (simp only [decide_eq_true_eq, decide_eq_false_iff_not, Bool.not_eq_true, beq_iff_eq, beq_eq_false_iff_ne, ne_eq, ge_iff_le, gt_iff_lt] at *; omega)) ?_; conv => whnf)
      | (rw [St.set_same]; conv => whnf)
      | (rw [St.new_same]; conv => whnf)
      | (rw [St.set_ne _ _ (by first | assumption | omega | (simp only [St.set_n, St.new_n] at *; omega))]; conv => whnf)
      | (rw [St.new_ne _ _ (by first | assumption | omega | (simp only [St.set_n, St.new_n] at *; omega))]; conv => whnf))
  refine ACallsW.of (text_at1 _ hB Non) (fun _ _ _ h => h.elim) ?_
  rintro _ σ1 _ ⟨e1, rfl⟩
  have e2 := e1.symm
  subst e2
  conv => whnf
  repeat' (first
      | (refine Bc_t ?_; conv => whnf)
      | (refine Bc_f ?_; conv => whnf)
      | (rw [g1]; conv => whnf)
      | (rw [g2]; conv => whnf)
      | (rw [g3]; conv => whnf)
      | (rw [g4]; conv => whnf)
      | (rw [g5]; conv => whnf)
      | (rw [g6]; conv => whnf)
      | (rw [hr]; conv => whnf)
      | (refine Bc_split (fun hb => ?_) (fun hb => ?_) <;> (rw [hb]; conv => whnf))
      | (refine And.intro (by first
          | omega
          | assumption
          | (simp only [St.set_n, St.new_n] at *; omega)
          | (simp; done)
          | (simp; omega)
          | (intro _; exact trivial)
          | (intro _; intro _ _; exact trivial)
          | (intro _; intro j hj; first | rfl | (have hj' : j < 1 := hj
                                                 obtain rfl : j = 0 := by omega
                                                 exact ⟨rfl, rfl⟩))
          | (intro j hj; obtain rfl : j = 0 := by omega
             first | exact ⟨rfl, rfl⟩ | exact .inl ⟨rfl, rfl⟩ | exact .inr (by omega) | exact ⟨by assumption, by assumption⟩ | assumption | trivial)
          | exact .inr (by assumption)
          | (intro j hj; exact .inr (by simp only [St.set_n, St.new_n] at *; omega))
          | (intro e he; rcases List.mem_singleton.1 he with rfl; exact ⟨rfl, rfl⟩)
          | (rw [St.set_ne _ _ (by first | assumption | omega | (simp only [St.set_n, St.new_n] at *; omega))]; assumption)
          | (rw [St.set_ne _ _ (by first | assumption | omega | (simp only [St.set_n, St.new_n] at *; omega)), St.set_ne _ _ (by first | assumption | omega | (simp only [St.set_n, St.new_n] at *; omega))]; assumption)
          | (simp only [decide_eq_true_eq, decide_eq_false_iff_not, Bool.not_eq_true, beq_iff_eq, beq_eq_false_iff_ne, ne_eq, ge_iff_le, gt_iff_lt] at *; omega)) ?_; conv => whnf)
      | (rw [St.set_same]; conv => whnf)
      | (rw [St.new_same]; conv => whnf)
      | (rw [St.set_ne _ _ (by first | assumption | omega | (simp only [St.set_n, St.new_n] at *; omega))]; conv => whnf)
      | (rw [St.new_ne _ _ (by first | assumption | omega | (simp only [St.set_n, St.new_n] at *; omega))]; conv => whnf))
  exact Fin.of ⟨rfl, rfl⟩
end
end Go.Proofs.YtjeccchbeflddaaDoor.Ga
