/- The reference's lexer: numbers. -/
import Derived.Test.YtjeccchbeflddaaGreatDoorRz2
set_option linter.unusedVariables false
set_option linter.unusedSimpArgs false
namespace Go.Proofs.YtjeccchbeflddaaGreatDoor.Ga
open Lx

theorem int_eqz {k : IntKind} {n m : Int} (h : n = m) : some (A.int k n) = some (A.int k m) := by rw [h]
theorem dv_cons (acc : Nat) (c : UInt8) (r : List UInt8) : decVal acc (c :: r) = decVal (acc * 10 + (c.toNat - 48)) r := by
  show decVal acc (c :: r) = _
  exact Eq.refl _
theorem dv_nil (acc : Nat) : decVal acc [] = acc := Eq.refl _
theorem dv_app (r q : List UInt8) : ∀ acc, decVal acc (r ++ q) = decVal (decVal acc r) q := by
  induction r with
  | nil => intro acc; rw [List.nil_append, dv_nil]
  | cons d r ih => intro acc; rw [List.cons_append, dv_cons, dv_cons]; exact ih _
theorem dv_step {t : List UInt8} {i : Nat} (h : i < t.length) : decVal 0 (t.take (i + 1)) = decVal 0 (t.take i) * 10 + ((t.getD i 0).toNat - 48) := by
  rw [List.take_add_one]
  have : t[i]? = some (t.getD i 0) := by simp [h]
  rw [this, dv_app]
  show decVal _ [t.getD i 0] = _
  rw [dv_cons, dv_nil]
theorem dv_le (t : List UInt8) (i : Nat) : decVal 0 (t.take i) ≤ decVal 0 t := by
  conv => rhs; rw [← List.take_append_drop i t]
  rw [dv_app]
  exact decVal_le _ _

section
attribute [local irreducible] Bc ACallsW ALoop Fin St.set St.new
set_option maxHeartbeats 4000000 in
theorem zparse_ok (t : List UInt8) (hl : t.length ≤ 10000) (h0 : t ≠ []) (hd : isDigit (t.getD 0 0) = true) (σ : St) (m) : ACalls Tryz.prog 35 [.str t] σ m (fun e σ' => σ' = σ ∧ e = .ret (parseA t)) := by
  have hpos : 0 < t.length := List.length_pos_iff.2 h0
  refine acalls_go mixed Tryz.func35 c_zparse_ok (Nat.le_of_ble_eq_true rfl) ?_
  have hd' := hd
  simp only [isDigit, Bool.and_eq_true, decide_eq_true_eq] at hd'
  have g1 : decide ((t.length : Int) > 0) = true := decide_eq_true (by omega)
  have g2 : (((t.getD (0 : Int).toNat 0).toNat : Int) == 45) = false := by
    show (((t.getD 0 0).toNat : Int) == 45) = false
    exact beq_eq_false_iff_ne.2 (by omega)
  have g3 : ((t.length : Int) == 0) = false := beq_eq_false_iff_ne.2 (by omega)
  have hhead : t.head? = some (t.getD 0 0) := by
    cases t with
    | nil => exact absurd rfl h0
    | cons c r => rfl
  by_cases h48 : (t.getD 0 0).toNat = 48 ∧ 1 < t.length
  · have g4 : (((t.getD (0 : Int).toNat 0).toNat : Int) == 48) = true := by
      show (((t.getD 0 0).toNat : Int) == 48) = true
      exact beq_iff_eq.2 (by omega)
    have g5 : decide ((t.length : Int) > IntKind.i64.wrap (0 + 1)) = true := by rw [w64 (by omega) (by omega)]; exact decide_eq_true (by omega)
    have hres : parseA t = .tup [.int .u64 0, .int .i64 5] := by
      unfold parseA numOf
      rw [hhead, if_neg]
      · rfl
      · simp only [Bool.and_eq_true, Bool.not_eq_true', Bool.and_eq_false_iff, not_and]
        intro _ q
        rcases q with q | q
        · have : (t.getD 0 0) = 48 := UInt8.toNat_inj.1 h48.1
          rw [this] at q
          simp at q
        · exact absurd h48.2 (of_decide_eq_false q)
    conv => whnf
    repeat' (first
        | (refine Bc_t ?_; conv => whnf)
        | (refine Bc_f ?_; conv => whnf)
        | (rw [g1]; conv => whnf)
        | (rw [g2]; conv => whnf)
        | (rw [g3]; conv => whnf)
        | (rw [g4]; conv => whnf)
        | (rw [g5]; conv => whnf)
        | (rw [g6]; conv => whnf)
        | (rw [g7]; conv => whnf)
        | (rw [g8]; conv => whnf)
        | (rw [g9]; conv => whnf)
        | (rw [hr]; conv => whnf)
        | (refine Bc_split (fun hb => ?_) (fun hb => ?_) <;> (rw [hb]; conv => whnf))
        | (refine And.intro (by first
            | omega
            | assumption
            | (simp only [St.set_n, St.new_n] at *; omega)
            | (simp; done)
            | (simp; omega)
            | (intro _ _; first | assumption | (simp only [St.set_n, St.new_n] at *; omega))
            | (intro _; exact trivial)
            | (intro _; intro _ _; exact trivial)
            | (intro _; intro j hj; first | rfl | (have hj' : j < 1 := hj
                                                   obtain rfl : j = 0 := by omega
                                                   exact ⟨rfl, rfl⟩))
            | (intro j hj; obtain rfl : j = 0 := by omega
               first | exact ⟨rfl, rfl⟩ | exact .inl ⟨rfl, rfl⟩ | exact .inr (by omega) | exact ⟨by assumption, by assumption⟩ | assumption | trivial)
            | exact .inr (by assumption)
            | (intro j hj; exact .inr (by simp only [St.set_n, St.new_n] at *; omega))
            | (intro e he; rcases List.mem_singleton.1 he with rfl; exact ⟨rfl, rfl⟩)
            | (rw [St.set_ne _ _ (by first | assumption | omega | (simp only [St.set_n, St.new_n] at *; omega))]; assumption)
            | (rw [St.set_ne _ _ (by first | assumption | omega | (simp only [St.set_n, St.new_n] at *; omega)), St.set_ne _ _ (by first | assumption | omega | (simp only [St.set_n, St.new_n] at *; omega))]; assumption)
            | (simp only [decide_eq_true_eq, decide_eq_false_iff_not, Bool.not_eq_true, beq_iff_eq, beq_eq_false_iff_ne, ne_eq, ge_iff_le, gt_iff_lt] at *; omega)) ?_; conv => whnf)
        | (rw [St.set_same]; conv => whnf)
        | (rw [St.new_same]; conv => whnf)
        | (rw [St.set_ne _ _ (by first | assumption | omega | (simp only [St.set_n, St.new_n] at *; omega))]; conv => whnf)
        | (rw [St.new_ne _ _ (by first | assumption | omega | (simp only [St.set_n, St.new_n] at *; omega))]; conv => whnf))
    exact Fin.of ⟨rfl, by rw [hres]; rfl⟩
  have hnz : (!(t.head? == some 48 && decide (1 < t.length))) = true := by
    rw [hhead]
    simp only [Bool.not_eq_true', Bool.and_eq_false_iff, beq_eq_false_iff_ne, decide_eq_false_iff_not]
    by_cases q : (t.getD 0 0).toNat = 48
    · exact .inr (fun w => h48 ⟨q, w⟩)
    · exact .inl (fun w => q (by rw [Option.some.inj w]; rfl))
  have hloop : ∀ (Q : Prop), True → True := fun _ h => h
  have g4 : ((((t.getD (0 : Int).toNat 0).toNat : Int) == 48) = false) ∨ ((((t.getD (0 : Int).toNat 0).toNat : Int) == 48) = true ∧ decide ((t.length : Int) > IntKind.i64.wrap (0 + 1)) = false) := by
    by_cases q : (t.getD 0 0).toNat = 48
    · right
      refine ⟨beq_iff_eq.2 (by show ((t.getD 0 0).toNat : Int) = 48; omega), ?_⟩
      rw [w64 (by omega) (by omega)]
      exact decide_eq_false (fun w => h48 ⟨q, by omega⟩)
    · exact .inl (beq_eq_false_iff_ne.2 (by show ((t.getD 0 0).toNat : Int) ≠ 48; omega))
  have numOf_all : t.all isDigit = true → numOf t = if decVal 0 t < 4611686018427387904 then .ok (decVal 0 t) else .error 2 := fun h => by
    unfold numOf; rw [h, hnz]; rfl
  have numOf_not : t.all isDigit = false → numOf t = .error 5 := fun h => by
    unfold numOf; rw [h]; rfl
  rcases g4 with g4 | ⟨g4, g5⟩
  all_goals conv => whnf
  all_goals
    repeat' (first
        | (refine Bc_t ?_; conv => whnf)
        | (refine Bc_f ?_; conv => whnf)
        | (rw [g1]; conv => whnf)
        | (rw [g2]; conv => whnf)
        | (rw [g3]; conv => whnf)
        | (rw [g4]; conv => whnf)
        | (rw [g5]; conv => whnf)
        | (rw [g6]; conv => whnf)
        | (rw [g7]; conv => whnf)
        | (rw [g8]; conv => whnf)
        | (rw [g9]; conv => whnf)
        | (rw [hr]; conv => whnf)
        | (refine Bc_split (fun hb => ?_) (fun hb => ?_) <;> (rw [hb]; conv => whnf))
        | (refine And.intro (by first
            | omega
            | assumption
            | (simp only [St.set_n, St.new_n] at *; omega)
            | (simp; done)
            | (simp; omega)
            | (intro _ _; first | assumption | (simp only [St.set_n, St.new_n] at *; omega))
            | (intro _; exact trivial)
            | (intro _; intro _ _; exact trivial)
            | (intro _; intro j hj; first | rfl | (have hj' : j < 1 := hj
                                                   obtain rfl : j = 0 := by omega
                                                   exact ⟨rfl, rfl⟩))
            | (intro j hj; obtain rfl : j = 0 := by omega
               first | exact ⟨rfl, rfl⟩ | exact .inl ⟨rfl, rfl⟩ | exact .inr (by omega) | exact ⟨by assumption, by assumption⟩ | assumption | trivial)
            | exact .inr (by assumption)
            | (intro j hj; exact .inr (by simp only [St.set_n, St.new_n] at *; omega))
            | (intro e he; rcases List.mem_singleton.1 he with rfl; exact ⟨rfl, rfl⟩)
            | (rw [St.set_ne _ _ (by first | assumption | omega | (simp only [St.set_n, St.new_n] at *; omega))]; assumption)
            | (rw [St.set_ne _ _ (by first | assumption | omega | (simp only [St.set_n, St.new_n] at *; omega)), St.set_ne _ _ (by first | assumption | omega | (simp only [St.set_n, St.new_n] at *; omega))]; assumption)
            | (simp only [decide_eq_true_eq, decide_eq_false_iff_not, Bool.not_eq_true, beq_iff_eq, beq_eq_false_iff_ne, ne_eq, ge_iff_le, gt_iff_lt] at *; omega)) ?_; conv => whnf)
        | (rw [St.set_same]; conv => whnf)
        | (rw [St.new_same]; conv => whnf)
        | (rw [St.set_ne _ _ (by first | assumption | omega | (simp only [St.set_n, St.new_n] at *; omega))]; conv => whnf)
        | (rw [St.new_ne _ _ (by first | assumption | omega | (simp only [St.set_n, St.new_n] at *; omega))]; conv => whnf))
  all_goals
    clear g1 g2 g3 g4
    unfold ALoop
    refine ⟨fun k env σ1 => ∃ i : Nat, k = t.length - i ∧ i ≤ t.length ∧ (t.take i).all isDigit = true ∧ σ1 = σ ∧ env = [(0, .str t), (4, .int .i64 0), (5, .bool false), (6, .int .i64 i)], _,
      [(0, .str t), (4, .int .i64 0), (5, .bool false), (6, .int .i64 0)], ⟨rfl, rfl, rfl, rfl, trivial⟩, ⟨0, rfl, by omega, by simp, rfl, rfl⟩, ?_⟩
    rintro k env σ1 ⟨i, rfl, hi, hall, rfl, rfl⟩
    by_cases hlt : i < t.length
    · have g1 : decide ((i : Int) < t.length) = true := decide_eq_true (by omega)
      have hstep : (t.take (i + 1)).all isDigit = ((t.take i).all isDigit && isDigit (t.getD i 0)) := by
        rw [List.take_add_one]
        have : t[i]? = some (t.getD i 0) := by simp [hlt]
        rw [this, List.all_append]
        simp
      have hgd : t.getD (i : Int).toNat 0 = t.getD i 0 := rfl
      by_cases hdg : isDigit (t.getD i 0) = true
      · have hdg' := hdg
        simp only [isDigit, Bool.and_eq_true, decide_eq_true_eq] at hdg'
        have g2 : decide (((t.getD (i : Int).toNat 0).toNat : Int) < 48) = false := by rw [hgd]; exact decide_eq_false (by omega)
        have g3 : decide (((t.getD (i : Int).toNat 0).toNat : Int) > 57) = false := by rw [hgd]; exact decide_eq_false (by omega)
        conv => whnf
        repeat' (first
            | (refine Bc_t ?_; conv => whnf)
            | (refine Bc_f ?_; conv => whnf)
            | (rw [g1]; conv => whnf)
            | (rw [g2]; conv => whnf)
            | (rw [g3]; conv => whnf)
            | (rw [g4]; conv => whnf)
            | (rw [g5]; conv => whnf)
            | (rw [g6]; conv => whnf)
            | (rw [g7]; conv => whnf)
            | (rw [g8]; conv => whnf)
            | (rw [g9]; conv => whnf)
            | (rw [hr]; conv => whnf)
            | (refine Bc_split (fun hb => ?_) (fun hb => ?_) <;> (rw [hb]; conv => whnf))
            | (refine And.intro (by first
                | omega
                | assumption
                | (simp only [St.set_n, St.new_n] at *; omega)
                | (simp; done)
                | (simp; omega)
                | (intro _ _; first | assumption | (simp only [St.set_n, St.new_n] at *; omega))
                | (intro _; exact trivial)
                | (intro _; intro _ _; exact trivial)
                | (intro _; intro j hj; first | rfl | (have hj' : j < 1 := hj
                                                       obtain rfl : j = 0 := by omega
                                                       exact ⟨rfl, rfl⟩))
                | (intro j hj; obtain rfl : j = 0 := by omega
                   first | exact ⟨rfl, rfl⟩ | exact .inl ⟨rfl, rfl⟩ | exact .inr (by omega) | exact ⟨by assumption, by assumption⟩ | assumption | trivial)
                | exact .inr (by assumption)
                | (intro j hj; exact .inr (by simp only [St.set_n, St.new_n] at *; omega))
                | (intro e he; rcases List.mem_singleton.1 he with rfl; exact ⟨rfl, rfl⟩)
                | (rw [St.set_ne _ _ (by first | assumption | omega | (simp only [St.set_n, St.new_n] at *; omega))]; assumption)
                | (rw [St.set_ne _ _ (by first | assumption | omega | (simp only [St.set_n, St.new_n] at *; omega)), St.set_ne _ _ (by first | assumption | omega | (simp only [St.set_n, St.new_n] at *; omega))]; assumption)
                | (simp only [decide_eq_true_eq, decide_eq_false_iff_not, Bool.not_eq_true, beq_iff_eq, beq_eq_false_iff_ne, ne_eq, ge_iff_le, gt_iff_lt] at *; omega)) ?_; conv => whnf)
            | (rw [St.set_same]; conv => whnf)
            | (rw [St.new_same]; conv => whnf)
            | (rw [St.set_ne _ _ (by first | assumption | omega | (simp only [St.set_n, St.new_n] at *; omega))]; conv => whnf)
            | (rw [St.new_ne _ _ (by first | assumption | omega | (simp only [St.set_n, St.new_n] at *; omega))]; conv => whnf))
        refine ⟨_, [(0, .str t), (4, .int .i64 0), (5, .bool false), (6, .int .i64 (i + 1 : Nat))], ?_, ⟨rfl, rfl, rfl, int_eq (by rw [w64 (by omega) (by omega)]; omega), trivial⟩, i + 1, rfl, by omega, by rw [hstep, hall, hdg]; rfl, rfl, rfl⟩
        omega
      · have hres : parseA t = .tup [.int .u64 0, .int .i64 5] := by
          unfold parseA
          rw [numOf_not]
          · rfl
          · refine Bool.eq_false_iff.2 fun q => hdg ?_
            have := List.all_eq_true.1 q (t.getD i 0) (List.mem_of_getElem? (show t[i]? = some (t.getD i 0) by simp [hlt]))
            exact this
        have hnd : (t.getD i 0).toNat < 48 ∨ 57 < (t.getD i 0).toNat := by
          rcases Nat.lt_or_ge (t.getD i 0).toNat 48 with q | q
          · exact .inl q
          · rcases Nat.lt_or_ge 57 (t.getD i 0).toNat with w | w
            · exact .inr w
            · exact absurd (by simp only [isDigit, Bool.and_eq_true, decide_eq_true_eq]; exact ⟨q, w⟩) hdg
        rcases hnd with q | q
        · have g2 : decide (((t.getD (i : Int).toNat 0).toNat : Int) < 48) = true := by rw [hgd]; exact decide_eq_true (by omega)
          conv => whnf
          repeat' (first
              | (refine Bc_t ?_; conv => whnf)
              | (refine Bc_f ?_; conv => whnf)
              | (rw [g1]; conv => whnf)
              | (rw [g2]; conv => whnf)
              | (rw [g3]; conv => whnf)
              | (rw [g4]; conv => whnf)
              | (rw [g5]; conv => whnf)
              | (rw [g6]; conv => whnf)
              | (rw [g7]; conv => whnf)
              | (rw [g8]; conv => whnf)
              | (rw [g9]; conv => whnf)
              | (rw [hr]; conv => whnf)
              | (refine Bc_split (fun hb => ?_) (fun hb => ?_) <;> (rw [hb]; conv => whnf))
              | (refine And.intro (by first
                  | omega
                  | assumption
                  | (simp only [St.set_n, St.new_n] at *; omega)
                  | (simp; done)
                  | (simp; omega)
                  | (intro _ _; first | assumption | (simp only [St.set_n, St.new_n] at *; omega))
                  | (intro _; exact trivial)
                  | (intro _; intro _ _; exact trivial)
                  | (intro _; intro j hj; first | rfl | (have hj' : j < 1 := hj
                                                         obtain rfl : j = 0 := by omega
                                                         exact ⟨rfl, rfl⟩))
                  | (intro j hj; obtain rfl : j = 0 := by omega
                     first | exact ⟨rfl, rfl⟩ | exact .inl ⟨rfl, rfl⟩ | exact .inr (by omega) | exact ⟨by assumption, by assumption⟩ | assumption | trivial)
                  | exact .inr (by assumption)
                  | (intro j hj; exact .inr (by simp only [St.set_n, St.new_n] at *; omega))
                  | (intro e he; rcases List.mem_singleton.1 he with rfl; exact ⟨rfl, rfl⟩)
                  | (rw [St.set_ne _ _ (by first | assumption | omega | (simp only [St.set_n, St.new_n] at *; omega))]; assumption)
                  | (rw [St.set_ne _ _ (by first | assumption | omega | (simp only [St.set_n, St.new_n] at *; omega)), St.set_ne _ _ (by first | assumption | omega | (simp only [St.set_n, St.new_n] at *; omega))]; assumption)
                  | (simp only [decide_eq_true_eq, decide_eq_false_iff_not, Bool.not_eq_true, beq_iff_eq, beq_eq_false_iff_ne, ne_eq, ge_iff_le, gt_iff_lt] at *; omega)) ?_; conv => whnf)
              | (rw [St.set_same]; conv => whnf)
              | (rw [St.new_same]; conv => whnf)
              | (rw [St.set_ne _ _ (by first | assumption | omega | (simp only [St.set_n, St.new_n] at *; omega))]; conv => whnf)
              | (rw [St.new_ne _ _ (by first | assumption | omega | (simp only [St.set_n, St.new_n] at *; omega))]; conv => whnf))
          exact Fin.of ⟨rfl, by rw [hres]; rfl⟩
        · have g2 : decide (((t.getD (i : Int).toNat 0).toNat : Int) < 48) = false := by rw [hgd]; exact decide_eq_false (by omega)
          have g3 : decide (((t.getD (i : Int).toNat 0).toNat : Int) > 57) = true := by rw [hgd]; exact decide_eq_true (by omega)
          conv => whnf
          repeat' (first
              | (refine Bc_t ?_; conv => whnf)
              | (refine Bc_f ?_; conv => whnf)
              | (rw [g1]; conv => whnf)
              | (rw [g2]; conv => whnf)
              | (rw [g3]; conv => whnf)
              | (rw [g4]; conv => whnf)
              | (rw [g5]; conv => whnf)
              | (rw [g6]; conv => whnf)
              | (rw [g7]; conv => whnf)
              | (rw [g8]; conv => whnf)
              | (rw [g9]; conv => whnf)
              | (rw [hr]; conv => whnf)
              | (refine Bc_split (fun hb => ?_) (fun hb => ?_) <;> (rw [hb]; conv => whnf))
              | (refine And.intro (by first
                  | omega
                  | assumption
                  | (simp only [St.set_n, St.new_n] at *; omega)
                  | (simp; done)
                  | (simp; omega)
                  | (intro _ _; first | assumption | (simp only [St.set_n, St.new_n] at *; omega))
                  | (intro _; exact trivial)
                  | (intro _; intro _ _; exact trivial)
                  | (intro _; intro j hj; first | rfl | (have hj' : j < 1 := hj
                                                         obtain rfl : j = 0 := by omega
                                                         exact ⟨rfl, rfl⟩))
                  | (intro j hj; obtain rfl : j = 0 := by omega
                     first | exact ⟨rfl, rfl⟩ | exact .inl ⟨rfl, rfl⟩ | exact .inr (by omega) | exact ⟨by assumption, by assumption⟩ | assumption | trivial)
                  | exact .inr (by assumption)
                  | (intro j hj; exact .inr (by simp only [St.set_n, St.new_n] at *; omega))
                  | (intro e he; rcases List.mem_singleton.1 he with rfl; exact ⟨rfl, rfl⟩)
                  | (rw [St.set_ne _ _ (by first | assumption | omega | (simp only [St.set_n, St.new_n] at *; omega))]; assumption)
                  | (rw [St.set_ne _ _ (by first | assumption | omega | (simp only [St.set_n, St.new_n] at *; omega)), St.set_ne _ _ (by first | assumption | omega | (simp only [St.set_n, St.new_n] at *; omega))]; assumption)
                  | (simp only [decide_eq_true_eq, decide_eq_false_iff_not, Bool.not_eq_true, beq_iff_eq, beq_eq_false_iff_ne, ne_eq, ge_iff_le, gt_iff_lt] at *; omega)) ?_; conv => whnf)
              | (rw [St.set_same]; conv => whnf)
              | (rw [St.new_same]; conv => whnf)
              | (rw [St.set_ne _ _ (by first | assumption | omega | (simp only [St.set_n, St.new_n] at *; omega))]; conv => whnf)
              | (rw [St.new_ne _ _ (by first | assumption | omega | (simp only [St.set_n, St.new_n] at *; omega))]; conv => whnf))
          exact Fin.of ⟨rfl, by rw [hres]; rfl⟩
    obtain rfl : i = t.length := by omega
    have g1 : decide ((t.length : Int) < t.length) = false := by simp
    rw [List.take_length] at hall
    have hnum := numOf_all hall
    conv => whnf
    repeat' (first
        | (refine Bc_t ?_; conv => whnf)
        | (refine Bc_f ?_; conv => whnf)
        | (rw [g1]; conv => whnf)
        | (rw [g2]; conv => whnf)
        | (rw [g3]; conv => whnf)
        | (rw [g4]; conv => whnf)
        | (rw [g5]; conv => whnf)
        | (rw [g6]; conv => whnf)
        | (rw [g7]; conv => whnf)
        | (rw [g8]; conv => whnf)
        | (rw [g9]; conv => whnf)
        | (rw [hr]; conv => whnf)
        | (refine Bc_split (fun hb => ?_) (fun hb => ?_) <;> (rw [hb]; conv => whnf))
        | (refine And.intro (by first
            | omega
            | assumption
            | (simp only [St.set_n, St.new_n] at *; omega)
            | (simp; done)
            | (simp; omega)
            | (intro _ _; first | assumption | (simp only [St.set_n, St.new_n] at *; omega))
            | (intro _; exact trivial)
            | (intro _; intro _ _; exact trivial)
            | (intro _; intro j hj; first | rfl | (have hj' : j < 1 := hj
                                                   obtain rfl : j = 0 := by omega
                                                   exact ⟨rfl, rfl⟩))
            | (intro j hj; obtain rfl : j = 0 := by omega
               first | exact ⟨rfl, rfl⟩ | exact .inl ⟨rfl, rfl⟩ | exact .inr (by omega) | exact ⟨by assumption, by assumption⟩ | assumption | trivial)
            | exact .inr (by assumption)
            | (intro j hj; exact .inr (by simp only [St.set_n, St.new_n] at *; omega))
            | (intro e he; rcases List.mem_singleton.1 he with rfl; exact ⟨rfl, rfl⟩)
            | (rw [St.set_ne _ _ (by first | assumption | omega | (simp only [St.set_n, St.new_n] at *; omega))]; assumption)
            | (rw [St.set_ne _ _ (by first | assumption | omega | (simp only [St.set_n, St.new_n] at *; omega)), St.set_ne _ _ (by first | assumption | omega | (simp only [St.set_n, St.new_n] at *; omega))]; assumption)
            | (simp only [decide_eq_true_eq, decide_eq_false_iff_not, Bool.not_eq_true, beq_iff_eq, beq_eq_false_iff_ne, ne_eq, ge_iff_le, gt_iff_lt] at *; omega)) ?_; conv => whnf)
        | (rw [St.set_same]; conv => whnf)
        | (rw [St.new_same]; conv => whnf)
        | (rw [St.set_ne _ _ (by first | assumption | omega | (simp only [St.set_n, St.new_n] at *; omega))]; conv => whnf)
        | (rw [St.new_ne _ _ (by first | assumption | omega | (simp only [St.set_n, St.new_n] at *; omega))]; conv => whnf))
    clear g1
    refine ⟨fun k env σ2 => ∃ i : Nat, k = t.length - i ∧ i ≤ t.length ∧ decVal 0 (t.take i) ≤ 4611686018427387904 ∧ σ2 = σ1 ∧ env = [(0, .str t), (5, .bool false), (7, .int .i64 (-(decVal 0 (t.take i) : Int))), (8, .int .i64 i)], _,
      [(0, .str t), (5, .bool false), (7, .int .i64 0), (8, .int .i64 0)], ⟨rfl, rfl, rfl, rfl, trivial⟩, ⟨0, rfl, by omega, by rw [List.take_zero, dv_nil]; omega, rfl, by rw [List.take_zero, dv_nil]; rfl⟩, ?_⟩
    rintro k env σ2 ⟨i, rfl, hi, hacc, rfl, rfl⟩
    by_cases hlt : i < t.length
    · have g1 : decide ((i : Int) < t.length) = true := decide_eq_true (by omega)
      have hgd : t.getD (i : Int).toNat 0 = t.getD i 0 := rfl
      have hdg := List.all_eq_true.1 hall (t.getD i 0) (List.mem_of_getElem? (show t[i]? = some (t.getD i 0) by simp [hlt]))
      simp only [isDigit, Bool.and_eq_true, decide_eq_true_eq] at hdg
      have hs := dv_step hlt
      have hle := dv_le t (i + 1)
      generalize decVal 0 (t.take i) = acc at hs hacc ⊢
      generalize hcd : (t.getD i 0).toNat - 48 = d at hs
      have g2 : IntKind.i64.wrap (IntKind.u8.wrap (((t.getD (i : Int).toNat 0).toNat : Int) - 48)) = (d : Int) := by
        rw [hgd, wu8 (by omega) (by omega), w64 (by omega) (by omega)]; omega
      have g3 : IntKind.i64.wrap ((IntKind.i64.wrap (-4611686018427387904 + (d : Int))).tdiv 10) = -(((4611686018427387904 - d) / 10 : Nat) : Int) := by
        have e1 : IntKind.i64.wrap (-4611686018427387904 + (d : Int)) = -((4611686018427387904 - d : Nat) : Int) := by rw [w64 (by omega) (by omega)]; omega
        have e2 : (-((4611686018427387904 - d : Nat) : Int)).tdiv 10 = -(((4611686018427387904 - d) / 10 : Nat) : Int) := by rw [Int.neg_tdiv]; rfl
        rw [e1, e2, w64 (by omega) (by omega)]
      by_cases hbig : 4611686018427387904 < acc * 10 + d
      · have hres : parseA t = .tup [.int .u64 0, .int .i64 2] := by
          unfold parseA
          rw [hnum, if_neg (by omega)]
          rfl
        have g4 : decide (-(acc : Int) < -(((4611686018427387904 - d) / 10 : Nat) : Int)) = true := decide_eq_true (by omega)
        conv => whnf
        repeat' (first
            | (refine Bc_t ?_; conv => whnf)
            | (refine Bc_f ?_; conv => whnf)
            | (rw [g1]; conv => whnf)
            | (rw [g2]; conv => whnf)
            | (rw [g3]; conv => whnf)
            | (rw [g4]; conv => whnf)
            | (rw [g5]; conv => whnf)
            | (rw [g6]; conv => whnf)
            | (rw [g7]; conv => whnf)
            | (rw [g8]; conv => whnf)
            | (rw [g9]; conv => whnf)
            | (rw [hr]; conv => whnf)
            | (refine Bc_split (fun hb => ?_) (fun hb => ?_) <;> (rw [hb]; conv => whnf))
            | (refine And.intro (by first
                | omega
                | assumption
                | (simp only [St.set_n, St.new_n] at *; omega)
                | (simp; done)
                | (simp; omega)
                | (intro _ _; first | assumption | (simp only [St.set_n, St.new_n] at *; omega))
                | (intro _; exact trivial)
                | (intro _; intro _ _; exact trivial)
                | (intro _; intro j hj; first | rfl | (have hj' : j < 1 := hj
                                                       obtain rfl : j = 0 := by omega
                                                       exact ⟨rfl, rfl⟩))
                | (intro j hj; obtain rfl : j = 0 := by omega
                   first | exact ⟨rfl, rfl⟩ | exact .inl ⟨rfl, rfl⟩ | exact .inr (by omega) | exact ⟨by assumption, by assumption⟩ | assumption | trivial)
                | exact .inr (by assumption)
                | (intro j hj; exact .inr (by simp only [St.set_n, St.new_n] at *; omega))
                | (intro e he; rcases List.mem_singleton.1 he with rfl; exact ⟨rfl, rfl⟩)
                | (rw [St.set_ne _ _ (by first | assumption | omega | (simp only [St.set_n, St.new_n] at *; omega))]; assumption)
                | (rw [St.set_ne _ _ (by first | assumption | omega | (simp only [St.set_n, St.new_n] at *; omega)), St.set_ne _ _ (by first | assumption | omega | (simp only [St.set_n, St.new_n] at *; omega))]; assumption)
                | (simp only [decide_eq_true_eq, decide_eq_false_iff_not, Bool.not_eq_true, beq_iff_eq, beq_eq_false_iff_ne, ne_eq, ge_iff_le, gt_iff_lt] at *; omega)) ?_; conv => whnf)
            | (rw [St.set_same]; conv => whnf)
            | (rw [St.new_same]; conv => whnf)
            | (rw [St.set_ne _ _ (by first | assumption | omega | (simp only [St.set_n, St.new_n] at *; omega))]; conv => whnf)
            | (rw [St.new_ne _ _ (by first | assumption | omega | (simp only [St.set_n, St.new_n] at *; omega))]; conv => whnf))
        exact Fin.of ⟨rfl, by rw [hres]; rfl⟩
      · have g4 : decide (-(acc : Int) < -(((4611686018427387904 - d) / 10 : Nat) : Int)) = false := decide_eq_false (by omega)
        conv => whnf
        repeat' (first
            | (refine Bc_t ?_; conv => whnf)
            | (refine Bc_f ?_; conv => whnf)
            | (rw [g1]; conv => whnf)
            | (rw [g2]; conv => whnf)
            | (rw [g3]; conv => whnf)
            | (rw [g4]; conv => whnf)
            | (rw [g5]; conv => whnf)
            | (rw [g6]; conv => whnf)
            | (rw [g7]; conv => whnf)
            | (rw [g8]; conv => whnf)
            | (rw [g9]; conv => whnf)
            | (rw [hr]; conv => whnf)
            | (refine Bc_split (fun hb => ?_) (fun hb => ?_) <;> (rw [hb]; conv => whnf))
            | (refine And.intro (by first
                | omega
                | assumption
                | (simp only [St.set_n, St.new_n] at *; omega)
                | (simp; done)
                | (simp; omega)
                | (intro _ _; first | assumption | (simp only [St.set_n, St.new_n] at *; omega))
                | (intro _; exact trivial)
                | (intro _; intro _ _; exact trivial)
                | (intro _; intro j hj; first | rfl | (have hj' : j < 1 := hj
                                                       obtain rfl : j = 0 := by omega
                                                       exact ⟨rfl, rfl⟩))
                | (intro j hj; obtain rfl : j = 0 := by omega
                   first | exact ⟨rfl, rfl⟩ | exact .inl ⟨rfl, rfl⟩ | exact .inr (by omega) | exact ⟨by assumption, by assumption⟩ | assumption | trivial)
                | exact .inr (by assumption)
                | (intro j hj; exact .inr (by simp only [St.set_n, St.new_n] at *; omega))
                | (intro e he; rcases List.mem_singleton.1 he with rfl; exact ⟨rfl, rfl⟩)
                | (rw [St.set_ne _ _ (by first | assumption | omega | (simp only [St.set_n, St.new_n] at *; omega))]; assumption)
                | (rw [St.set_ne _ _ (by first | assumption | omega | (simp only [St.set_n, St.new_n] at *; omega)), St.set_ne _ _ (by first | assumption | omega | (simp only [St.set_n, St.new_n] at *; omega))]; assumption)
                | (simp only [decide_eq_true_eq, decide_eq_false_iff_not, Bool.not_eq_true, beq_iff_eq, beq_eq_false_iff_ne, ne_eq, ge_iff_le, gt_iff_lt] at *; omega)) ?_; conv => whnf)
            | (rw [St.set_same]; conv => whnf)
            | (rw [St.new_same]; conv => whnf)
            | (rw [St.set_ne _ _ (by first | assumption | omega | (simp only [St.set_n, St.new_n] at *; omega))]; conv => whnf)
            | (rw [St.new_ne _ _ (by first | assumption | omega | (simp only [St.set_n, St.new_n] at *; omega))]; conv => whnf))
        refine ⟨_, [(0, .str t), (5, .bool false), (7, .int .i64 (-(decVal 0 (t.take (i + 1)) : Int))), (8, .int .i64 (i + 1 : Nat))], ?_, ⟨rfl, rfl, int_eqz ?_, int_eq (by rw [w64 (by omega) (by omega)]; omega), trivial⟩, i + 1, rfl, by omega, by omega, rfl, rfl⟩
        · omega
        · rw [w64 (n := -(acc : Int) * 10) (by omega) (by omega), w64 (by omega) (by omega), hs]; omega
    obtain rfl : i = t.length := by omega
    have g1 : decide ((t.length : Int) < t.length) = false := by simp
    rw [List.take_length] at hacc ⊢
    generalize decVal 0 t = acc at hacc hnum ⊢
    by_cases he : acc = 4611686018427387904
    · have g2 : (-(acc : Int) == -4611686018427387904) = true := beq_iff_eq.2 (by omega)
      have hres : parseA t = .tup [.int .u64 0, .int .i64 2] := by
        unfold parseA
        rw [hnum, if_neg (by omega)]
        rfl
      conv => whnf
      repeat' (first
          | (refine Bc_t ?_; conv => whnf)
          | (refine Bc_f ?_; conv => whnf)
          | (rw [g1]; conv => whnf)
          | (rw [g2]; conv => whnf)
          | (rw [g3]; conv => whnf)
          | (rw [g4]; conv => whnf)
          | (rw [g5]; conv => whnf)
          | (rw [g6]; conv => whnf)
          | (rw [g7]; conv => whnf)
          | (rw [g8]; conv => whnf)
          | (rw [g9]; conv => whnf)
          | (rw [hr]; conv => whnf)
          | (refine Bc_split (fun hb => ?_) (fun hb => ?_) <;> (rw [hb]; conv => whnf))
          | (refine And.intro (by first
              | omega
              | assumption
              | (simp only [St.set_n, St.new_n] at *; omega)
              | (simp; done)
              | (simp; omega)
              | (intro _ _; first | assumption | (simp only [St.set_n, St.new_n] at *; omega))
              | (intro _; exact trivial)
              | (intro _; intro _ _; exact trivial)
              | (intro _; intro j hj; first | rfl | (have hj' : j < 1 := hj
                                                     obtain rfl : j = 0 := by omega
                                                     exact ⟨rfl, rfl⟩))
              | (intro j hj; obtain rfl : j = 0 := by omega
                 first | exact ⟨rfl, rfl⟩ | exact .inl ⟨rfl, rfl⟩ | exact .inr (by omega) | exact ⟨by assumption, by assumption⟩ | assumption | trivial)
              | exact .inr (by assumption)
              | (intro j hj; exact .inr (by simp only [St.set_n, St.new_n] at *; omega))
              | (intro e he; rcases List.mem_singleton.1 he with rfl; exact ⟨rfl, rfl⟩)
              | (rw [St.set_ne _ _ (by first | assumption | omega | (simp only [St.set_n, St.new_n] at *; omega))]; assumption)
              | (rw [St.set_ne _ _ (by first | assumption | omega | (simp only [St.set_n, St.new_n] at *; omega)), St.set_ne _ _ (by first | assumption | omega | (simp only [St.set_n, St.new_n] at *; omega))]; assumption)
              | (simp only [decide_eq_true_eq, decide_eq_false_iff_not, Bool.not_eq_true, beq_iff_eq, beq_eq_false_iff_ne, ne_eq, ge_iff_le, gt_iff_lt] at *; omega)) ?_; conv => whnf)
          | (rw [St.set_same]; conv => whnf)
          | (rw [St.new_same]; conv => whnf)
          | (rw [St.set_ne _ _ (by first | assumption | omega | (simp only [St.set_n, St.new_n] at *; omega))]; conv => whnf)
          | (rw [St.new_ne _ _ (by first | assumption | omega | (simp only [St.set_n, St.new_n] at *; omega))]; conv => whnf))
      exact Fin.of ⟨rfl, by rw [hres]; rfl⟩
    · have g2 : (-(acc : Int) == -4611686018427387904) = false := beq_eq_false_iff_ne.2 (by omega)
      have g3 : IntKind.i64.wrap (0 - -(acc : Int)) = (acc : Int) := by rw [w64 (by omega) (by omega)]; omega
      have hres : parseA t = .tup [.int .u64 (2 * (acc : Int) + 1), .int .i64 0] := by
        unfold parseA
        rw [hnum, if_pos (by omega)]
      conv => whnf
      repeat' (first
          | (refine Bc_t ?_; conv => whnf)
          | (refine Bc_f ?_; conv => whnf)
          | (rw [g1]; conv => whnf)
          | (rw [g2]; conv => whnf)
          | (rw [g3]; conv => whnf)
          | (rw [g4]; conv => whnf)
          | (rw [g5]; conv => whnf)
          | (rw [g6]; conv => whnf)
          | (rw [g7]; conv => whnf)
          | (rw [g8]; conv => whnf)
          | (rw [g9]; conv => whnf)
          | (rw [hr]; conv => whnf)
          | (refine Bc_split (fun hb => ?_) (fun hb => ?_) <;> (rw [hb]; conv => whnf))
          | (refine And.intro (by first
              | omega
              | assumption
              | (simp only [St.set_n, St.new_n] at *; omega)
              | (simp; done)
              | (simp; omega)
              | (intro _ _; first | assumption | (simp only [St.set_n, St.new_n] at *; omega))
              | (intro _; exact trivial)
              | (intro _; intro _ _; exact trivial)
              | (intro _; intro j hj; first | rfl | (have hj' : j < 1 := hj
                                                     obtain rfl : j = 0 := by omega
                                                     exact ⟨rfl, rfl⟩))
              | (intro j hj; obtain rfl : j = 0 := by omega
                 first | exact ⟨rfl, rfl⟩ | exact .inl ⟨rfl, rfl⟩ | exact .inr (by omega) | exact ⟨by assumption, by assumption⟩ | assumption | trivial)
              | exact .inr (by assumption)
              | (intro j hj; exact .inr (by simp only [St.set_n, St.new_n] at *; omega))
              | (intro e he; rcases List.mem_singleton.1 he with rfl; exact ⟨rfl, rfl⟩)
              | (rw [St.set_ne _ _ (by first | assumption | omega | (simp only [St.set_n, St.new_n] at *; omega))]; assumption)
              | (rw [St.set_ne _ _ (by first | assumption | omega | (simp only [St.set_n, St.new_n] at *; omega)), St.set_ne _ _ (by first | assumption | omega | (simp only [St.set_n, St.new_n] at *; omega))]; assumption)
              | (simp only [decide_eq_true_eq, decide_eq_false_iff_not, Bool.not_eq_true, beq_iff_eq, beq_eq_false_iff_ne, ne_eq, ge_iff_le, gt_iff_lt] at *; omega)) ?_; conv => whnf)
          | (rw [St.set_same]; conv => whnf)
          | (rw [St.new_same]; conv => whnf)
          | (rw [St.set_ne _ _ (by first | assumption | omega | (simp only [St.set_n, St.new_n] at *; omega))]; conv => whnf)
          | (rw [St.new_ne _ _ (by first | assumption | omega | (simp only [St.set_n, St.new_n] at *; omega))]; conv => whnf))
      refine ACallsW.of (rint_ok acc (by omega) (by omega) _ Non) (fun _ _ _ h => h.elim) ?_
      rintro _ σ3 _ ⟨e1, rfl⟩
      have e2 := e1.symm
      subst e2
      have hc63 : c63 (acc : Int) = acc := by unfold c63; omega
      rw [hc63]
      conv => whnf
      repeat' (first
          | (refine Bc_t ?_; conv => whnf)
          | (refine Bc_f ?_; conv => whnf)
          | (rw [g1]; conv => whnf)
          | (rw [g2]; conv => whnf)
          | (rw [g3]; conv => whnf)
          | (rw [g4]; conv => whnf)
          | (rw [g5]; conv => whnf)
          | (rw [g6]; conv => whnf)
          | (rw [g7]; conv => whnf)
          | (rw [g8]; conv => whnf)
          | (rw [g9]; conv => whnf)
          | (rw [hr]; conv => whnf)
          | (refine Bc_split (fun hb => ?_) (fun hb => ?_) <;> (rw [hb]; conv => whnf))
          | (refine And.intro (by first
              | omega
              | assumption
              | (simp only [St.set_n, St.new_n] at *; omega)
              | (simp; done)
              | (simp; omega)
              | (intro _ _; first | assumption | (simp only [St.set_n, St.new_n] at *; omega))
              | (intro _; exact trivial)
              | (intro _; intro _ _; exact trivial)
              | (intro _; intro j hj; first | rfl | (have hj' : j < 1 := hj
                                                     obtain rfl : j = 0 := by omega
                                                     exact ⟨rfl, rfl⟩))
              | (intro j hj; obtain rfl : j = 0 := by omega
                 first | exact ⟨rfl, rfl⟩ | exact .inl ⟨rfl, rfl⟩ | exact .inr (by omega) | exact ⟨by assumption, by assumption⟩ | assumption | trivial)
              | exact .inr (by assumption)
              | (intro j hj; exact .inr (by simp only [St.set_n, St.new_n] at *; omega))
              | (intro e he; rcases List.mem_singleton.1 he with rfl; exact ⟨rfl, rfl⟩)
              | (rw [St.set_ne _ _ (by first | assumption | omega | (simp only [St.set_n, St.new_n] at *; omega))]; assumption)
              | (rw [St.set_ne _ _ (by first | assumption | omega | (simp only [St.set_n, St.new_n] at *; omega)), St.set_ne _ _ (by first | assumption | omega | (simp only [St.set_n, St.new_n] at *; omega))]; assumption)
              | (simp only [decide_eq_true_eq, decide_eq_false_iff_not, Bool.not_eq_true, beq_iff_eq, beq_eq_false_iff_ne, ne_eq, ge_iff_le, gt_iff_lt] at *; omega)) ?_; conv => whnf)
          | (rw [St.set_same]; conv => whnf)
          | (rw [St.new_same]; conv => whnf)
          | (rw [St.set_ne _ _ (by first | assumption | omega | (simp only [St.set_n, St.new_n] at *; omega))]; conv => whnf)
          | (rw [St.new_ne _ _ (by first | assumption | omega | (simp only [St.set_n, St.new_n] at *; omega))]; conv => whnf))
      exact Fin.of ⟨rfl, by rw [hres]; rfl⟩
end
end Go.Proofs.YtjeccchbeflddaaGreatDoor.Ga
