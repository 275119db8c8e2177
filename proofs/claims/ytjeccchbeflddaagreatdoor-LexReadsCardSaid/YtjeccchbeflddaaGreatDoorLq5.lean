/- LexReads: the walk. -/
import Derived.Test.YtjeccchbeflddaaGreatDoorLa12
import Derived.Test.YtjeccchbeflddaaGreatDoorLa13
import Derived.Test.YtjeccchbeflddaaGreatDoorRz6
set_option linter.unusedVariables false
set_option linter.unusedSimpArgs false
namespace Go.Proofs.YtjeccchbeflddaaGreatDoor.Ga
open Lx

def c_reads : SFun := ⟨36, (.seq (.reg [⟨(some 2), (.mov (.const (.bool false))), none⟩]) (.seq (.seq (.reg [⟨(some 9), (.call 4 []), none⟩, ⟨(some 10), (.un .not (.tmp 9)), none⟩]) (.cond (.tmp 10) (.seq (.reg [⟨(some 2), (.mov (.const (.bool false))), none⟩]) .ret) .skip)) (.seq (.reg [⟨(some 12), (.mov (.tmp 0)), none⟩, ⟨(some 13), (.call 5 [(.tmp 12)]), none⟩, ⟨(some 11), (.mov (.tmp 13)), none⟩, ⟨(some 14), (.extract (.tmp 11) 0), none⟩, ⟨(some 15), (.extract (.tmp 11) 1), none⟩, ⟨(some 16), (.extract (.tmp 11) 2), none⟩, ⟨(some 3), (.mov (.tmp 14)), none⟩, ⟨(some 4), (.mov (.tmp 15)), none⟩, ⟨(some 5), (.mov (.tmp 16)), none⟩]) (.seq (.reg [⟨(some 18), (.mov (.tmp 0)), none⟩, ⟨(some 19), (.call 6 [(.tmp 18)]), none⟩, ⟨(some 17), (.mov (.tmp 19)), none⟩, ⟨(some 20), (.extract (.tmp 17) 0), none⟩, ⟨(some 21), (.extract (.tmp 17) 1), none⟩, ⟨(some 22), (.extract (.tmp 17) 2), none⟩, ⟨(some 6), (.mov (.tmp 20)), none⟩, ⟨(some 7), (.mov (.tmp 21)), none⟩, ⟨(some 8), (.mov (.tmp 22)), none⟩]) (.seq (.reg [⟨(some 23), (.mov (.tmp 3)), none⟩, ⟨(some 24), (.mov (.tmp 6)), none⟩, ⟨(some 25), (.call 7 [(.tmp 23), (.tmp 24)]), none⟩, ⟨(some 26), (.mov (.tmp 25)), none⟩, ⟨(some 27), (.mov (.tmp 4)), (some (26, true))⟩, ⟨(some 28), (.mov (.tmp 7)), (some (26, true))⟩, ⟨(some 29), (.bin .eql .none (.tmp 27) (.tmp 28)), (some (26, true))⟩, ⟨(some 30), (.pick (.tmp 26) (.tmp 29) (.const (.bool false))), none⟩, ⟨(some 31), (.mov (.tmp 30)), none⟩, ⟨(some 32), (.mov (.tmp 5)), (some (31, true))⟩, ⟨(some 33), (.mov (.tmp 8)), (some (31, true))⟩, ⟨(some 34), (.bin .eql .none (.tmp 32) (.tmp 33)), (some (31, true))⟩, ⟨(some 35), (.pick (.tmp 31) (.tmp 34) (.const (.bool false))), none⟩, ⟨(some 2), (.mov (.tmp 35)), none⟩]) .ret))))), [(.tmp 2)]⟩
theorem c_reads_ok : cFun Tryz.prog Tryz.f3 = some c_reads := by kernel_rfl

theorem lexA_tk (s : List UInt8) : ∃ x l e p, lexA s = .tup [x, .int .i64 e, .int .i64 p] ∧ IsTk x l ∧ l.length < 4611686018427387904 := by
  unfold lexA
  split
  · exact ⟨.nils, [], _, _, rfl, .inl ⟨rfl, rfl⟩, by decide⟩
  · rename_i hs
    cases hl : lexAll s with
    | error p => exact ⟨.nils, [], _, _, rfl, .inl ⟨rfl, rfl⟩, by decide⟩
    | ok ts =>
      refine ⟨_, _, _, _, rfl, .inr ⟨.no, rfl⟩, ?_⟩
      have : ts.length ≤ s.length := by
        obtain ⟨us, h1, rfl⟩ := lexAll_rd.1 hl
        rw [List.length_map]
        clear hl
        induction h1 with
        | fin h => simp
        | tok h1 h2 _ ih =>
          have q1 := ((skip_suf _ _ _ _ _ h1).1 rfl).length_le
          have q2 := (tok_suf h2).2
          simp only [List.length_cons]
          exact Nat.le_trans (Nat.succ_le_succ (ih (by omega))) (by omega)
      rw [List.length_append, List.length_singleton]
      omega

section
attribute [local irreducible] Bc ACallsW ALoop Fin St.set St.new
theorem reads_ok (s : List UInt8) (hs : s.length ≤ 140737488355328) (σ : St) (hB : B0 σ.base) : ACalls Tryz.prog 3 [.str s] σ Non (fun e σ' => e = .ret (.bool true)) := by
  refine acalls_go mixed Tryz.func3 c_reads_ok (Nat.le_of_ble_eq_true rfl) ?_
  conv => whnf
  refine ACallsW.of (awake_ok _ hB Non) (fun _ _ _ h => h.elim) ?_
  rintro _ σ1 _ ⟨e1, rfl⟩
  have e2 := e1.symm
  subst e2
  conv => whnf
  repeat' (first
      | (refine Bc_t ?_; conv => whnf)
      | (refine Bc_f ?_; conv => whnf)
      | (rw [g1]; conv => whnf)
      | (rw [g2]; conv => whnf)
      | (rw [g3]; conv => whnf)
      | (rw [g4]; conv => whnf)
      | (rw [g5]; conv => whnf)
      | (rw [g6]; conv => whnf)
      | (rw [g7]; conv => whnf)
      | (rw [g8]; conv => whnf)
      | (rw [g9]; conv => whnf)
      | (rw [hr]; conv => whnf)
      | (refine Bc_split (fun hb => ?_) (fun hb => ?_) <;> (rw [hb]; conv => whnf))
      | (refine And.intro (by first
          | omega
          | assumption
          | (simp only [St.set_n, St.new_n] at *; omega)
          | (simp; done)
          | (simp; omega)
          | (intro _ _; first | assumption | (simp only [St.set_n, St.new_n] at *; omega))
          | (intro _; exact trivial)
          | (intro _; intro _ _; exact trivial)
          | (intro _; intro j hj; first | rfl | (have hj' : j < 1 := hj
                                                 obtain rfl : j = 0 := by omega
                                                 exact ⟨rfl, rfl⟩))
          | (intro j hj; obtain rfl : j = 0 := by omega
             first | exact ⟨rfl, rfl⟩ | exact .inl ⟨rfl, rfl⟩ | exact .inr (by omega) | exact ⟨by assumption, by assumption⟩ | assumption | trivial)
          | exact .inr (by assumption)
          | (intro j hj; exact .inr (by simp only [St.set_n, St.new_n] at *; omega))
          | (intro e he; rcases List.mem_singleton.1 he with rfl; exact ⟨rfl, rfl⟩)
          | (rw [St.set_ne _ _ (by first | assumption | omega | (simp only [St.set_n, St.new_n] at *; omega))]; assumption)
          | (rw [St.set_ne _ _ (by first | assumption | omega | (simp only [St.set_n, St.new_n] at *; omega)), St.set_ne _ _ (by first | assumption | omega | (simp only [St.set_n, St.new_n] at *; omega))]; assumption)
          | (simp only [decide_eq_true_eq, decide_eq_false_iff_not, Bool.not_eq_true, beq_iff_eq, beq_eq_false_iff_ne, ne_eq, ge_iff_le, gt_iff_lt] at *; omega)) ?_; conv => whnf)
      | (rw [St.set_same]; conv => whnf)
      | (rw [St.new_same]; conv => whnf)
      | (rw [St.set_ne _ _ (by first | assumption | omega | (simp only [St.set_n, St.new_n] at *; omega))]; conv => whnf)
      | (rw [St.new_ne _ _ (by first | assumption | omega | (simp only [St.set_n, St.new_n] at *; omega))]; conv => whnf))
  refine ACallsW.of (lex_ok s _ hB Non) (fun _ _ _ h => h.elim) ?_
  rintro _ σ1 _ ⟨e1, rfl⟩
  have e2 := e1.symm
  subst e2
  obtain ⟨x, l, e, p, h1, h2, h3⟩ := lexA_tk s
  rw [h1]
  conv => whnf
  repeat' (first
      | (refine Bc_t ?_; conv => whnf)
      | (refine Bc_f ?_; conv => whnf)
      | (rw [g1]; conv => whnf)
      | (rw [g2]; conv => whnf)
      | (rw [g3]; conv => whnf)
      | (rw [g4]; conv => whnf)
      | (rw [g5]; conv => whnf)
      | (rw [g6]; conv => whnf)
      | (rw [g7]; conv => whnf)
      | (rw [g8]; conv => whnf)
      | (rw [g9]; conv => whnf)
      | (rw [hr]; conv => whnf)
      | (refine Bc_split (fun hb => ?_) (fun hb => ?_) <;> (rw [hb]; conv => whnf))
      | (refine And.intro (by first
          | omega
          | assumption
          | (simp only [St.set_n, St.new_n] at *; omega)
          | (simp; done)
          | (simp; omega)
          | (intro _ _; first | assumption | (simp only [St.set_n, St.new_n] at *; omega))
          | (intro _; exact trivial)
          | (intro _; intro _ _; exact trivial)
          | (intro _; intro j hj; first | rfl | (have hj' : j < 1 := hj
                                                 obtain rfl : j = 0 := by omega
                                                 exact ⟨rfl, rfl⟩))
          | (intro j hj; obtain rfl : j = 0 := by omega
             first | exact ⟨rfl, rfl⟩ | exact .inl ⟨rfl, rfl⟩ | exact .inr (by omega) | exact ⟨by assumption, by assumption⟩ | assumption | trivial)
          | exact .inr (by assumption)
          | (intro j hj; exact .inr (by simp only [St.set_n, St.new_n] at *; omega))
          | (intro e he; rcases List.mem_singleton.1 he with rfl; exact ⟨rfl, rfl⟩)
          | (rw [St.set_ne _ _ (by first | assumption | omega | (simp only [St.set_n, St.new_n] at *; omega))]; assumption)
          | (rw [St.set_ne _ _ (by first | assumption | omega | (simp only [St.set_n, St.new_n] at *; omega)), St.set_ne _ _ (by first | assumption | omega | (simp only [St.set_n, St.new_n] at *; omega))]; assumption)
          | (simp only [decide_eq_true_eq, decide_eq_false_iff_not, Bool.not_eq_true, beq_iff_eq, beq_eq_false_iff_ne, ne_eq, ge_iff_le, gt_iff_lt] at *; omega)) ?_; conv => whnf)
      | (rw [St.set_same]; conv => whnf)
      | (rw [St.new_same]; conv => whnf)
      | (rw [St.set_ne _ _ (by first | assumption | omega | (simp only [St.set_n, St.new_n] at *; omega))]; conv => whnf)
      | (rw [St.new_ne _ _ (by first | assumption | omega | (simp only [St.set_n, St.new_n] at *; omega))]; conv => whnf))
  refine ACallsW.of (zlex_ok s _ Non) (fun _ _ _ h => h.elim) ?_
  rintro _ σ1 _ ⟨e1, rfl⟩
  have e2 := e1.symm
  subst e2
  rw [h1]
  conv => whnf
  repeat' (first
      | (refine Bc_t ?_; conv => whnf)
      | (refine Bc_f ?_; conv => whnf)
      | (rw [g1]; conv => whnf)
      | (rw [g2]; conv => whnf)
      | (rw [g3]; conv => whnf)
      | (rw [g4]; conv => whnf)
      | (rw [g5]; conv => whnf)
      | (rw [g6]; conv => whnf)
      | (rw [g7]; conv => whnf)
      | (rw [g8]; conv => whnf)
      | (rw [g9]; conv => whnf)
      | (rw [hr]; conv => whnf)
      | (refine Bc_split (fun hb => ?_) (fun hb => ?_) <;> (rw [hb]; conv => whnf))
      | (refine And.intro (by first
          | omega
          | assumption
          | (simp only [St.set_n, St.new_n] at *; omega)
          | (simp; done)
          | (simp; omega)
          | (intro _ _; first | assumption | (simp only [St.set_n, St.new_n] at *; omega))
          | (intro _; exact trivial)
          | (intro _; intro _ _; exact trivial)
          | (intro _; intro j hj; first | rfl | (have hj' : j < 1 := hj
                                                 obtain rfl : j = 0 := by omega
                                                 exact ⟨rfl, rfl⟩))
          | (intro j hj; obtain rfl : j = 0 := by omega
             first | exact ⟨rfl, rfl⟩ | exact .inl ⟨rfl, rfl⟩ | exact .inr (by omega) | exact ⟨by assumption, by assumption⟩ | assumption | trivial)
          | exact .inr (by assumption)
          | (intro j hj; exact .inr (by simp only [St.set_n, St.new_n] at *; omega))
          | (intro e he; rcases List.mem_singleton.1 he with rfl; exact ⟨rfl, rfl⟩)
          | (rw [St.set_ne _ _ (by first | assumption | omega | (simp only [St.set_n, St.new_n] at *; omega))]; assumption)
          | (rw [St.set_ne _ _ (by first | assumption | omega | (simp only [St.set_n, St.new_n] at *; omega)), St.set_ne _ _ (by first | assumption | omega | (simp only [St.set_n, St.new_n] at *; omega))]; assumption)
          | (simp only [decide_eq_true_eq, decide_eq_false_iff_not, Bool.not_eq_true, beq_iff_eq, beq_eq_false_iff_ne, ne_eq, ge_iff_le, gt_iff_lt] at *; omega)) ?_; conv => whnf)
      | (rw [St.set_same]; conv => whnf)
      | (rw [St.new_same]; conv => whnf)
      | (rw [St.set_ne _ _ (by first | assumption | omega | (simp only [St.set_n, St.new_n] at *; omega))]; conv => whnf)
      | (rw [St.new_ne _ _ (by first | assumption | omega | (simp only [St.set_n, St.new_n] at *; omega))]; conv => whnf))
  refine ACallsW.of (same_ok h2 h2 h3 _ Non) (fun _ _ _ h => h.elim) ?_
  rintro _ σ1 _ ⟨e1, rfl⟩
  have e2 := e1.symm
  subst e2
  have g1 : decide (l = l) = true := decide_eq_true rfl
  have g2 : (e == e) = true := beq_iff_eq.2 rfl
  have g3 : (p == p) = true := beq_iff_eq.2 rfl
  rw [g1]
  conv => whnf
  repeat' (first
      | (refine Bc_t ?_; conv => whnf)
      | (refine Bc_f ?_; conv => whnf)
      | (rw [g1]; conv => whnf)
      | (rw [g2]; conv => whnf)
      | (rw [g3]; conv => whnf)
      | (rw [g4]; conv => whnf)
      | (rw [g5]; conv => whnf)
      | (rw [g6]; conv => whnf)
      | (rw [g7]; conv => whnf)
      | (rw [g8]; conv => whnf)
      | (rw [g9]; conv => whnf)
      | (rw [hr]; conv => whnf)
      | (refine Bc_split (fun hb => ?_) (fun hb => ?_) <;> (rw [hb]; conv => whnf))
      | (refine And.intro (by first
          | omega
          | assumption
          | (simp only [St.set_n, St.new_n] at *; omega)
          | (simp; done)
          | (simp; omega)
          | (intro _ _; first | assumption | (simp only [St.set_n, St.new_n] at *; omega))
          | (intro _; exact trivial)
          | (intro _; intro _ _; exact trivial)
          | (intro _; intro j hj; first | rfl | (have hj' : j < 1 := hj
                                                 obtain rfl : j = 0 := by omega
                                                 exact ⟨rfl, rfl⟩))
          | (intro j hj; obtain rfl : j = 0 := by omega
             first | exact ⟨rfl, rfl⟩ | exact .inl ⟨rfl, rfl⟩ | exact .inr (by omega) | exact ⟨by assumption, by assumption⟩ | assumption | trivial)
          | exact .inr (by assumption)
          | (intro j hj; exact .inr (by simp only [St.set_n, St.new_n] at *; omega))
          | (intro e he; rcases List.mem_singleton.1 he with rfl; exact ⟨rfl, rfl⟩)
          | (rw [St.set_ne _ _ (by first | assumption | omega | (simp only [St.set_n, St.new_n] at *; omega))]; assumption)
          | (rw [St.set_ne _ _ (by first | assumption | omega | (simp only [St.set_n, St.new_n] at *; omega)), St.set_ne _ _ (by first | assumption | omega | (simp only [St.set_n, St.new_n] at *; omega))]; assumption)
          | (simp only [decide_eq_true_eq, decide_eq_false_iff_not, Bool.not_eq_true, beq_iff_eq, beq_eq_false_iff_ne, ne_eq, ge_iff_le, gt_iff_lt] at *; omega)) ?_; conv => whnf)
      | (rw [St.set_same]; conv => whnf)
      | (rw [St.new_same]; conv => whnf)
      | (rw [St.set_ne _ _ (by first | assumption | omega | (simp only [St.set_n, St.new_n] at *; omega))]; conv => whnf)
      | (rw [St.new_ne _ _ (by first | assumption | omega | (simp only [St.set_n, St.new_n] at *; omega))]; conv => whnf))
  exact Fin.of (by first | rfl | (rw [g3]; rfl))
end
end Go.Proofs.YtjeccchbeflddaaGreatDoor.Ga
