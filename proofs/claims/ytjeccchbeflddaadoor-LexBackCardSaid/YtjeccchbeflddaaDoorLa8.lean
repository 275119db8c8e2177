/- The lexer's reader: one token. -/
import Derived.Test.YtjeccchbeflddaaDoorLa7
set_option linter.unusedVariables false
set_option linter.unusedSimpArgs false
namespace Go.Proofs.YtjeccchbeflddaaDoor.Ga
open Lx

def c_one : SFun := ⟨63, (.seq (.reg [⟨(some 2), (.alloc [(.int .i64 0), (.int .i64 0), (.int .i64 0), (.str [])]), none⟩]) (.seq (.reg [⟨(some 5), (.mov (.tmp 0)), none⟩, ⟨(some 6), (.nilCheck (.tmp 5)), none⟩, ⟨(some 7), (.fieldAddr 1 (.tmp 6)), none⟩, ⟨(some 8), (.load false 1 (.tmp 7)), none⟩, ⟨(some 9), (.build [(.int .i64 0), (.int .i64 0), (.int .i64 0), (.str [])] [(1, (1, (.tmp 8)))]), none⟩, ⟨(some 3), (.alloc [(.int .i64 0), (.int .i64 0), (.int .i64 0), (.str [])]), none⟩, ⟨none, (.store 4 (.tmp 3) (.tmp 9)), none⟩]) (.seq (.seq (.dreg [(0, ⟨(some 10), (.mov (.tmp 0)), none⟩), (0, ⟨(some 11), (.nilCheck (.tmp 10)), none⟩), (0, ⟨(some 12), (.fieldAddr 0 (.tmp 11)), none⟩), (0, ⟨(some 13), (.load false 1 (.tmp 12)), none⟩), (0, ⟨(some 14), (.mov (.tmp 0)), none⟩), (0, ⟨(some 15), (.nilCheck (.tmp 14)), none⟩), (0, ⟨(some 16), (.fieldAddr 1 (.tmp 15)), none⟩), (0, ⟨(some 17), (.load false 1 (.tmp 16)), none⟩), (0, ⟨(some 18), (.idxStr (.tmp 13) (.tmp 17)), none⟩), (2, ⟨(some 4), (.mov (.tmp 18)), none⟩)]) (.block 0 (.seq (.reg [⟨(some 24), (.mov (.tmp 4)), none⟩, ⟨(some 25), (.call 36 [(.tmp 24)]), none⟩, ⟨(some 26), (.mov (.tmp 25)), none⟩, ⟨(some 27), (.mov (.tmp 4)), (some (26, false))⟩, ⟨(some 28), (.call 37 [(.tmp 27)]), (some (26, false))⟩, ⟨(some 29), (.pick (.tmp 26) (.const (.bool true)) (.tmp 28)), none⟩, ⟨(some 23), (.mov (.tmp 29)), none⟩]) (.cond (.tmp 23) (.seq (.reg [⟨(some 30), (.mov (.tmp 0)), none⟩, ⟨(some 31), (.call 38 [(.tmp 30)]), none⟩, ⟨(some 32), (.fieldAddr 3 (.tmp 3)), none⟩, ⟨none, (.store 1 (.tmp 32) (.tmp 31)), none⟩]) (.block 1 (.seq (.reg [⟨(some 35), (.mov (.tmp 4)), none⟩, ⟨(some 36), (.call 37 [(.tmp 35)]), none⟩, ⟨(some 34), (.mov (.tmp 36)), none⟩]) (.cond (.tmp 34) (.reg [⟨(some 37), (.fieldAddr 0 (.tmp 3)), none⟩, ⟨none, (.store 1 (.tmp 37) (.const (.int .i64 4))), none⟩]) (.seq (.reg [⟨(some 39), (.fieldAddr 3 (.tmp 3)), none⟩, ⟨(some 40), (.load false 1 (.tmp 39)), none⟩, ⟨(some 41), (.bin .eql .none (.tmp 40) (.const (.str [95]))), none⟩, ⟨(some 42), (.mov (.tmp 41)), none⟩, ⟨(some 43), (.fieldAddr 3 (.tmp 3)), (some (42, false))⟩, ⟨(some 44), (.load false 1 (.tmp 43)), (some (42, false))⟩, ⟨(some 45), (.call 10 [(.tmp 44)]), (some (42, false))⟩, ⟨(some 46), (.pick (.tmp 42) (.const (.bool true)) (.tmp 45)), none⟩, ⟨(some 38), (.mov (.tmp 46)), none⟩]) (.cond (.tmp 38) (.reg [⟨(some 47), (.fieldAddr 0 (.tmp 3)), none⟩, ⟨none, (.store 1 (.tmp 47) (.const (.int .i64 5))), none⟩]) (.reg [⟨(some 33), (.fieldAddr 0 (.tmp 3)), none⟩, ⟨none, (.store 1 (.tmp 33) (.const (.int .i64 3))), none⟩]))))))) (.seq (.reg [⟨(some 49), (.mov (.tmp 4)), none⟩, ⟨(some 50), (.call 39 [(.tmp 49)]), none⟩, ⟨(some 48), (.mov (.tmp 50)), none⟩]) (.cond (.tmp 48) (.reg [⟨(some 51), (.mov (.tmp 0)), none⟩, ⟨(some 52), (.call 40 [(.tmp 51)]), none⟩, ⟨(some 53), (.fieldAddr 0 (.tmp 3)), none⟩, ⟨none, (.store 1 (.tmp 53) (.const (.int .i64 1))), none⟩, ⟨(some 54), (.fieldAddr 2 (.tmp 3)), none⟩, ⟨none, (.store 1 (.tmp 54) (.tmp 52)), none⟩]) (.seq (.reg [⟨(some 56), (.mov (.tmp 4)), none⟩, ⟨(some 57), (.bin .eql .none (.tmp 56) (.const (.int .u8 34))), none⟩, ⟨(some 55), (.mov (.tmp 57)), none⟩]) (.cond (.tmp 55) (.reg [⟨(some 58), (.mov (.tmp 0)), none⟩, ⟨(some 59), (.call 41 [(.tmp 58)]), none⟩, ⟨(some 60), (.fieldAddr 0 (.tmp 3)), none⟩, ⟨none, (.store 1 (.tmp 60) (.const (.int .i64 2))), none⟩, ⟨(some 61), (.fieldAddr 3 (.tmp 3)), none⟩, ⟨none, (.store 1 (.tmp 61) (.tmp 59)), none⟩]) (.reg [⟨(some 19), (.mov (.tmp 0)), none⟩, ⟨(some 20), (.call 42 [(.tmp 19)]), none⟩, ⟨(some 21), (.fieldAddr 0 (.tmp 3)), none⟩, ⟨none, (.store 1 (.tmp 21) (.const (.int .i64 5))), none⟩, ⟨(some 22), (.fieldAddr 3 (.tmp 3)), none⟩, ⟨none, (.store 1 (.tmp 22) (.tmp 20)), none⟩]))))))))) (.seq (.reg [⟨(some 62), (.load true 4 (.tmp 3)), none⟩, ⟨none, (.store 4 (.tmp 2) (.tmp 62)), none⟩]) .ret)))), [(.cell 2 true 4)]⟩
theorem c_one_ok : cFun Tryd.prog Tryd.f25 = some c_one := by kernel_rfl

def tokA (k at_ n : Nat) (S : List UInt8) : A := .agg [.int .i64 k, .int .i64 at_, .int .i64 n, .str S]

section
attribute [local irreducible] Bc ACallsW ALoop Fin St.set St.new
theorem one_raw (s : List UInt8) (at_ : Nat) (out : A) (r : Nat) (σ : St) (hB : B0 σ.base) (hs : s.length ≤ 4096) (hat : at_ < s.length) (hrn : r < σ.n) (hr : σ.obj r = rd s at_ out) :
    ACalls Tryd.prog 25 [.ptr r 0] σ (AtNew r σ.n) (fun e σ' => match tok (s.drop at_) with
      | .ok (k, n, S, l) => σ'.obj r = rd s (s.length - l.length) out ∧ e = .ret (tokA k at_ n S)
      | .error k => e = .pan (bad k at_)) := by
  have hone := one_drop hat
  have hle : nameLen (s.drop at_) ≤ s.length - at_ := by
    rw [← List.length_drop]; exact (List.takeWhile_sublist _).length_le
  have hrn1 : r ≠ σ.n := by omega
  have hrn2 : r ≠ σ.n + 1 := by omega
  refine acalls_go mixed Tryd.func25 c_one_ok (Nat.le_of_ble_eq_true rfl) ?_
  unfold rd at hr
  conv => whnf
  repeat' (first
      | (refine Bc_t ?_; conv => whnf)
      | (refine Bc_f ?_; conv => whnf)
      | (rw [g1]; conv => whnf)
      | (rw [g2]; conv => whnf)
      | (rw [g3]; conv => whnf)
      | (rw [g4]; conv => whnf)
      | (rw [g5]; conv => whnf)
      | (rw [g6]; conv => whnf)
      | (rw [hr]; conv => whnf)
      | (refine Bc_split (fun hb => ?_) (fun hb => ?_) <;> (rw [hb]; conv => whnf))
      | (refine And.intro (by first
          | omega
          | assumption
          | (simp only [St.set_n, St.new_n] at *; omega)
          | (simp; done)
          | (simp; omega)
          | (intro _; exact trivial)
          | (intro _; intro _ _; exact trivial)
          | (intro _; intro j hj; first | rfl | (have hj' : j < 1 := hj
                                                 obtain rfl : j = 0 := by omega
                                                 exact ⟨rfl, rfl⟩))
          | (intro j hj; obtain rfl : j = 0 := by omega
             first | exact ⟨rfl, rfl⟩ | exact .inl ⟨rfl, rfl⟩ | exact .inr (by omega) | exact ⟨by assumption, by assumption⟩ | assumption | trivial)
          | exact .inr (by assumption)
          | (intro j hj; exact .inr (by simp only [St.set_n, St.new_n] at *; omega))
          | (intro e he; rcases List.mem_singleton.1 he with rfl; exact ⟨rfl, rfl⟩)
          | (rw [St.set_ne _ _ (by first | assumption | omega | (simp only [St.set_n, St.new_n] at *; omega))]; assumption)
          | (rw [St.set_ne _ _ (by first | assumption | omega | (simp only [St.set_n, St.new_n] at *; omega)), St.set_ne _ _ (by first | assumption | omega | (simp only [St.set_n, St.new_n] at *; omega))]; assumption)
          | (simp only [decide_eq_true_eq, decide_eq_false_iff_not, Bool.not_eq_true, beq_iff_eq, beq_eq_false_iff_ne, ne_eq, ge_iff_le, gt_iff_lt] at *; omega)) ?_; conv => whnf)
      | (rw [St.set_same]; conv => whnf)
      | (rw [St.new_same]; conv => whnf)
      | (rw [St.set_ne _ _ (by first | assumption | omega | (simp only [St.set_n, St.new_n] at *; omega))]; conv => whnf)
      | (rw [St.new_ne _ _ (by first | assumption | omega | (simp only [St.set_n, St.new_n] at *; omega))]; conv => whnf))
  have hq0 : (σ.new (AO.cells [A.int .i64 0, A.int .i64 0, A.int .i64 0, A.str []])).n = σ.n + 1 := St.new_n ..
  generalize hσ1 : ((σ.new (AO.cells [A.int .i64 0, A.int .i64 0, A.int .i64 0, A.str []])).new (AO.cells [A.int .i64 0, A.int .i64 0, A.int .i64 0, A.str []])).set
      (σ.new (AO.cells [A.int .i64 0, A.int .i64 0, A.int .i64 0, A.str []])).n (AO.cells (setL [A.int .i64 0, A.int .i64 0, A.int .i64 0, A.str []] 0 (A.agg (setL [A.int .i64 0, A.int .i64 0, A.int .i64 0, A.str []] 1 (A.int .i64 at_).cells)).cells)) = σ1
  generalize hq : (σ.new (AO.cells [A.int .i64 0, A.int .i64 0, A.int .i64 0, A.str []])).n = q at hσ1 hq0 ⊢
  have hqr : q ≠ r := by omega
  have hqn : σ.n ≠ q := by omega
  have hqn' : q ≠ σ.n := by omega
  have f1 : σ1.obj r = AO.cells [A.str s, A.int .i64 at_, out] := by rw [← hσ1, St.set_ne _ _ (Ne.symm hqr), St.new_ne _ _ (by rw [hq]; exact Ne.symm hqr), St.new_ne _ _ hrn1]; exact hr
  have f2 : σ1.obj σ.n = AO.cells [A.int .i64 0, A.int .i64 0, A.int .i64 0, A.str []] := by rw [← hσ1, St.set_ne _ _ hqn, St.new_ne _ _ (by rw [hq]; exact hqn), St.new_same]
  have f3 : σ1.obj q = AO.cells [A.int .i64 0, A.int .i64 at_, A.int .i64 0, A.str []] := by rw [← hσ1, St.set_same]; rfl
  have f4 : σ1.n = σ.n + 2 := by rw [← hσ1, St.set_n, St.new_n, St.new_n]
  have f5 : σ1.base = σ.base := by rw [← hσ1, St.set_base, St.new_base, St.new_base]
  clear hσ1
  have hr0 := hr
  clear hr
  have hr := f1
  have g1 := f2
  have g2 := f3
  have htok := tok_eq _ _ _ hone
  have hdr : List.drop (nameLen (s.drop at_)) (s.drop at_) = s.drop (at_ + nameLen (s.drop at_)) := List.drop_drop
  have hN : s.length - ((s.drop at_).drop (nameLen (s.drop at_))).length = at_ + nameLen (s.drop at_) := by rw [List.length_drop, List.length_drop]; omega
  refine ACallsW.of (small_ok (s.getD at_ 0) _ Non) (fun _ _ _ h => h.elim) ?_
  rintro _ _ _ ⟨e1, rfl⟩
  subst e1
  cases hsm : isSmall (s.getD at_ 0) with
  | true =>
    conv => whnf
    repeat' (first
        | (refine Bc_t ?_; conv => whnf)
        | (refine Bc_f ?_; conv => whnf)
        | (rw [g1]; conv => whnf)
        | (rw [g2]; conv => whnf)
        | (rw [g3]; conv => whnf)
        | (rw [g4]; conv => whnf)
        | (rw [g5]; conv => whnf)
        | (rw [g6]; conv => whnf)
        | (rw [hr]; conv => whnf)
        | (refine Bc_split (fun hb => ?_) (fun hb => ?_) <;> (rw [hb]; conv => whnf))
        | (refine And.intro (by first
            | omega
            | assumption
            | (simp only [St.set_n, St.new_n] at *; omega)
            | (simp; done)
            | (simp; omega)
            | (intro _; exact trivial)
            | (intro _; intro _ _; exact trivial)
            | (intro _; intro j hj; first | rfl | (have hj' : j < 1 := hj
                                                   obtain rfl : j = 0 := by omega
                                                   exact ⟨rfl, rfl⟩))
            | (intro j hj; obtain rfl : j = 0 := by omega
               first | exact ⟨rfl, rfl⟩ | exact .inl ⟨rfl, rfl⟩ | exact .inr (by omega) | exact ⟨by assumption, by assumption⟩ | assumption | trivial)
            | exact .inr (by assumption)
            | (intro j hj; exact .inr (by simp only [St.set_n, St.new_n] at *; omega))
            | (intro e he; rcases List.mem_singleton.1 he with rfl; exact ⟨rfl, rfl⟩)
            | (rw [St.set_ne _ _ (by first | assumption | omega | (simp only [St.set_n, St.new_n] at *; omega))]; assumption)
            | (rw [St.set_ne _ _ (by first | assumption | omega | (simp only [St.set_n, St.new_n] at *; omega)), St.set_ne _ _ (by first | assumption | omega | (simp only [St.set_n, St.new_n] at *; omega))]; assumption)
            | (simp only [decide_eq_true_eq, decide_eq_false_iff_not, Bool.not_eq_true, beq_iff_eq, beq_eq_false_iff_ne, ne_eq, ge_iff_le, gt_iff_lt] at *; omega)) ?_; conv => whnf)
        | (rw [St.set_same]; conv => whnf)
        | (rw [St.new_same]; conv => whnf)
        | (rw [St.set_ne _ _ (by first | assumption | omega | (simp only [St.set_n, St.new_n] at *; omega))]; conv => whnf)
        | (rw [St.new_ne _ _ (by first | assumption | omega | (simp only [St.set_n, St.new_n] at *; omega))]; conv => whnf))
    refine ACallsW.of (run_ok s at_ out r _ hs (by omega) hr) (fun _ _ _ h => .inl h) ?_
    rintro _ _ _ ⟨e1, rfl⟩
    subst e1
    conv => whnf
    repeat' (first
        | (refine Bc_t ?_; conv => whnf)
        | (refine Bc_f ?_; conv => whnf)
        | (rw [g1]; conv => whnf)
        | (rw [g2]; conv => whnf)
        | (rw [g3]; conv => whnf)
        | (rw [g4]; conv => whnf)
        | (rw [g5]; conv => whnf)
        | (rw [g6]; conv => whnf)
        | (rw [hr]; conv => whnf)
        | (refine Bc_split (fun hb => ?_) (fun hb => ?_) <;> (rw [hb]; conv => whnf))
        | (refine And.intro (by first
            | omega
            | assumption
            | (simp only [St.set_n, St.new_n] at *; omega)
            | (simp; done)
            | (simp; omega)
            | (intro _; exact trivial)
            | (intro _; intro _ _; exact trivial)
            | (intro _; intro j hj; first | rfl | (have hj' : j < 1 := hj
                                                   obtain rfl : j = 0 := by omega
                                                   exact ⟨rfl, rfl⟩))
            | (intro j hj; obtain rfl : j = 0 := by omega
               first | exact ⟨rfl, rfl⟩ | exact .inl ⟨rfl, rfl⟩ | exact .inr (by omega) | exact ⟨by assumption, by assumption⟩ | assumption | trivial)
            | exact .inr (by assumption)
            | (intro j hj; exact .inr (by simp only [St.set_n, St.new_n] at *; omega))
            | (intro e he; rcases List.mem_singleton.1 he with rfl; exact ⟨rfl, rfl⟩)
            | (rw [St.set_ne _ _ (by first | assumption | omega | (simp only [St.set_n, St.new_n] at *; omega))]; assumption)
            | (rw [St.set_ne _ _ (by first | assumption | omega | (simp only [St.set_n, St.new_n] at *; omega)), St.set_ne _ _ (by first | assumption | omega | (simp only [St.set_n, St.new_n] at *; omega))]; assumption)
            | (simp only [decide_eq_true_eq, decide_eq_false_iff_not, Bool.not_eq_true, beq_iff_eq, beq_eq_false_iff_ne, ne_eq, ge_iff_le, gt_iff_lt] at *; omega)) ?_; conv => whnf)
        | (rw [St.set_same]; conv => whnf)
        | (rw [St.new_same]; conv => whnf)
        | (rw [St.set_ne _ _ (by first | assumption | omega | (simp only [St.set_n, St.new_n] at *; omega))]; conv => whnf)
        | (rw [St.new_ne _ _ (by first | assumption | omega | (simp only [St.set_n, St.new_n] at *; omega))]; conv => whnf))
    refine ACallsW.of (great_ok (s.getD at_ 0) _ Non) (fun _ _ _ h => h.elim) ?_
    rintro _ _ _ ⟨e1, rfl⟩
    subst e1
    cases hgr : isGreat (s.getD at_ 0) with
    | true =>
      have ht : tok (s.drop at_) = .ok (4, 0, (s.drop at_).take (nameLen (s.drop at_)), (s.drop at_).drop (nameLen (s.drop at_))) := by rw [htok, hsm, hgr]; rfl
      conv => whnf
      repeat' (first
          | (refine Bc_t ?_; conv => whnf)
          | (refine Bc_f ?_; conv => whnf)
          | (rw [g1]; conv => whnf)
          | (rw [g2]; conv => whnf)
          | (rw [g3]; conv => whnf)
          | (rw [g4]; conv => whnf)
          | (rw [g5]; conv => whnf)
          | (rw [g6]; conv => whnf)
          | (rw [hr]; conv => whnf)
          | (refine Bc_split (fun hb => ?_) (fun hb => ?_) <;> (rw [hb]; conv => whnf))
          | (refine And.intro (by first
              | omega
              | assumption
              | (simp only [St.set_n, St.new_n] at *; omega)
              | (simp; done)
              | (simp; omega)
              | (intro _; exact trivial)
              | (intro _; intro _ _; exact trivial)
              | (intro _; intro j hj; first | rfl | (have hj' : j < 1 := hj
                                                     obtain rfl : j = 0 := by omega
                                                     exact ⟨rfl, rfl⟩))
              | (intro j hj; obtain rfl : j = 0 := by omega
                 first | exact ⟨rfl, rfl⟩ | exact .inl ⟨rfl, rfl⟩ | exact .inr (by omega) | exact ⟨by assumption, by assumption⟩ | assumption | trivial)
              | exact .inr (by assumption)
              | (intro j hj; exact .inr (by simp only [St.set_n, St.new_n] at *; omega))
              | (intro e he; rcases List.mem_singleton.1 he with rfl; exact ⟨rfl, rfl⟩)
              | (rw [St.set_ne _ _ (by first | assumption | omega | (simp only [St.set_n, St.new_n] at *; omega))]; assumption)
              | (rw [St.set_ne _ _ (by first | assumption | omega | (simp only [St.set_n, St.new_n] at *; omega)), St.set_ne _ _ (by first | assumption | omega | (simp only [St.set_n, St.new_n] at *; omega))]; assumption)
              | (simp only [decide_eq_true_eq, decide_eq_false_iff_not, Bool.not_eq_true, beq_iff_eq, beq_eq_false_iff_ne, ne_eq, ge_iff_le, gt_iff_lt] at *; omega)) ?_; conv => whnf)
          | (rw [St.set_same]; conv => whnf)
          | (rw [St.new_same]; conv => whnf)
          | (rw [St.set_ne _ _ (by first | assumption | omega | (simp only [St.set_n, St.new_n] at *; omega))]; conv => whnf)
          | (rw [St.new_ne _ _ (by first | assumption | omega | (simp only [St.set_n, St.new_n] at *; omega))]; conv => whnf))
      rw [ht]
      exact Fin.of ⟨by rw [hN], rfl⟩
    | false =>
      cases h95 : (s.drop at_).take (nameLen (s.drop at_)) == [95] with
      | true =>
        have ht : tok (s.drop at_) = .ok (5, 0, (s.drop at_).take (nameLen (s.drop at_)), (s.drop at_).drop (nameLen (s.drop at_))) := by rw [htok, hsm, hgr, h95]; rfl
        have g3 := h95
        conv => whnf
        repeat' (first
            | (refine Bc_t ?_; conv => whnf)
            | (refine Bc_f ?_; conv => whnf)
            | (rw [g1]; conv => whnf)
            | (rw [g2]; conv => whnf)
            | (rw [g3]; conv => whnf)
            | (rw [g4]; conv => whnf)
            | (rw [g5]; conv => whnf)
            | (rw [g6]; conv => whnf)
            | (rw [hr]; conv => whnf)
            | (refine Bc_split (fun hb => ?_) (fun hb => ?_) <;> (rw [hb]; conv => whnf))
            | (refine And.intro (by first
                | omega
                | assumption
                | (simp only [St.set_n, St.new_n] at *; omega)
                | (simp; done)
                | (simp; omega)
                | (intro _; exact trivial)
                | (intro _; intro _ _; exact trivial)
                | (intro _; intro j hj; first | rfl | (have hj' : j < 1 := hj
                                                       obtain rfl : j = 0 := by omega
                                                       exact ⟨rfl, rfl⟩))
                | (intro j hj; obtain rfl : j = 0 := by omega
                   first | exact ⟨rfl, rfl⟩ | exact .inl ⟨rfl, rfl⟩ | exact .inr (by omega) | exact ⟨by assumption, by assumption⟩ | assumption | trivial)
                | exact .inr (by assumption)
                | (intro j hj; exact .inr (by simp only [St.set_n, St.new_n] at *; omega))
                | (intro e he; rcases List.mem_singleton.1 he with rfl; exact ⟨rfl, rfl⟩)
                | (rw [St.set_ne _ _ (by first | assumption | omega | (simp only [St.set_n, St.new_n] at *; omega))]; assumption)
                | (rw [St.set_ne _ _ (by first | assumption | omega | (simp only [St.set_n, St.new_n] at *; omega)), St.set_ne _ _ (by first | assumption | omega | (simp only [St.set_n, St.new_n] at *; omega))]; assumption)
                | (simp only [decide_eq_true_eq, decide_eq_false_iff_not, Bool.not_eq_true, beq_iff_eq, beq_eq_false_iff_ne, ne_eq, ge_iff_le, gt_iff_lt] at *; omega)) ?_; conv => whnf)
            | (rw [St.set_same]; conv => whnf)
            | (rw [St.new_same]; conv => whnf)
            | (rw [St.set_ne _ _ (by first | assumption | omega | (simp only [St.set_n, St.new_n] at *; omega))]; conv => whnf)
            | (rw [St.new_ne _ _ (by first | assumption | omega | (simp only [St.set_n, St.new_n] at *; omega))]; conv => whnf))
        rw [ht]
        exact Fin.of ⟨by rw [hN], rfl⟩
      | false =>
        have g3 := h95
        conv => whnf
        repeat' (first
            | (refine Bc_t ?_; conv => whnf)
            | (refine Bc_f ?_; conv => whnf)
            | (rw [g1]; conv => whnf)
            | (rw [g2]; conv => whnf)
            | (rw [g3]; conv => whnf)
            | (rw [g4]; conv => whnf)
            | (rw [g5]; conv => whnf)
            | (rw [g6]; conv => whnf)
            | (rw [hr]; conv => whnf)
            | (refine Bc_split (fun hb => ?_) (fun hb => ?_) <;> (rw [hb]; conv => whnf))
            | (refine And.intro (by first
                | omega
                | assumption
                | (simp only [St.set_n, St.new_n] at *; omega)
                | (simp; done)
                | (simp; omega)
                | (intro _; exact trivial)
                | (intro _; intro _ _; exact trivial)
                | (intro _; intro j hj; first | rfl | (have hj' : j < 1 := hj
                                                       obtain rfl : j = 0 := by omega
                                                       exact ⟨rfl, rfl⟩))
                | (intro j hj; obtain rfl : j = 0 := by omega
                   first | exact ⟨rfl, rfl⟩ | exact .inl ⟨rfl, rfl⟩ | exact .inr (by omega) | exact ⟨by assumption, by assumption⟩ | assumption | trivial)
                | exact .inr (by assumption)
                | (intro j hj; exact .inr (by simp only [St.set_n, St.new_n] at *; omega))
                | (intro e he; rcases List.mem_singleton.1 he with rfl; exact ⟨rfl, rfl⟩)
                | (rw [St.set_ne _ _ (by first | assumption | omega | (simp only [St.set_n, St.new_n] at *; omega))]; assumption)
                | (rw [St.set_ne _ _ (by first | assumption | omega | (simp only [St.set_n, St.new_n] at *; omega)), St.set_ne _ _ (by first | assumption | omega | (simp only [St.set_n, St.new_n] at *; omega))]; assumption)
                | (simp only [decide_eq_true_eq, decide_eq_false_iff_not, Bool.not_eq_true, beq_iff_eq, beq_eq_false_iff_ne, ne_eq, ge_iff_le, gt_iff_lt] at *; omega)) ?_; conv => whnf)
            | (rw [St.set_same]; conv => whnf)
            | (rw [St.new_same]; conv => whnf)
            | (rw [St.set_ne _ _ (by first | assumption | omega | (simp only [St.set_n, St.new_n] at *; omega))]; conv => whnf)
            | (rw [St.new_ne _ _ (by first | assumption | omega | (simp only [St.set_n, St.new_n] at *; omega))]; conv => whnf))
        refine ACallsW.of (isWord_ok _ (by rw [List.length_take, List.length_drop]; omega) _ (by rw [St.set_base, St.set_base, f5]; exact hB) Non) (fun _ _ _ h => h.elim) ?_
        rintro _ _ _ ⟨e1, rfl⟩
        subst e1
        cases hw : isWord ((s.drop at_).take (nameLen (s.drop at_))) with
        | true =>
          have ht : tok (s.drop at_) = .ok (5, 0, (s.drop at_).take (nameLen (s.drop at_)), (s.drop at_).drop (nameLen (s.drop at_))) := by rw [htok, hsm, hgr, h95, hw]; rfl
          conv => whnf
          repeat' (first
              | (refine Bc_t ?_; conv => whnf)
              | (refine Bc_f ?_; conv => whnf)
              | (rw [g1]; conv => whnf)
              | (rw [g2]; conv => whnf)
              | (rw [g3]; conv => whnf)
              | (rw [g4]; conv => whnf)
              | (rw [g5]; conv => whnf)
              | (rw [g6]; conv => whnf)
              | (rw [hr]; conv => whnf)
              | (refine Bc_split (fun hb => ?_) (fun hb => ?_) <;> (rw [hb]; conv => whnf))
              | (refine And.intro (by first
                  | omega
                  | assumption
                  | (simp only [St.set_n, St.new_n] at *; omega)
                  | (simp; done)
                  | (simp; omega)
                  | (intro _; exact trivial)
                  | (intro _; intro _ _; exact trivial)
                  | (intro _; intro j hj; first | rfl | (have hj' : j < 1 := hj
                                                         obtain rfl : j = 0 := by omega
                                                         exact ⟨rfl, rfl⟩))
                  | (intro j hj; obtain rfl : j = 0 := by omega
                     first | exact ⟨rfl, rfl⟩ | exact .inl ⟨rfl, rfl⟩ | exact .inr (by omega) | exact ⟨by assumption, by assumption⟩ | assumption | trivial)
                  | exact .inr (by assumption)
                  | (intro j hj; exact .inr (by simp only [St.set_n, St.new_n] at *; omega))
                  | (intro e he; rcases List.mem_singleton.1 he with rfl; exact ⟨rfl, rfl⟩)
                  | (rw [St.set_ne _ _ (by first | assumption | omega | (simp only [St.set_n, St.new_n] at *; omega))]; assumption)
                  | (rw [St.set_ne _ _ (by first | assumption | omega | (simp only [St.set_n, St.new_n] at *; omega)), St.set_ne _ _ (by first | assumption | omega | (simp only [St.set_n, St.new_n] at *; omega))]; assumption)
                  | (simp only [decide_eq_true_eq, decide_eq_false_iff_not, Bool.not_eq_true, beq_iff_eq, beq_eq_false_iff_ne, ne_eq, ge_iff_le, gt_iff_lt] at *; omega)) ?_; conv => whnf)
              | (rw [St.set_same]; conv => whnf)
              | (rw [St.new_same]; conv => whnf)
              | (rw [St.set_ne _ _ (by first | assumption | omega | (simp only [St.set_n, St.new_n] at *; omega))]; conv => whnf)
              | (rw [St.new_ne _ _ (by first | assumption | omega | (simp only [St.set_n, St.new_n] at *; omega))]; conv => whnf))
          rw [ht]
          exact Fin.of ⟨by rw [hN], rfl⟩
        | false =>
          have ht : tok (s.drop at_) = .ok (3, 0, (s.drop at_).take (nameLen (s.drop at_)), (s.drop at_).drop (nameLen (s.drop at_))) := by rw [htok, hsm, hgr, h95, hw]; rfl
          conv => whnf
          repeat' (first
              | (refine Bc_t ?_; conv => whnf)
              | (refine Bc_f ?_; conv => whnf)
              | (rw [g1]; conv => whnf)
              | (rw [g2]; conv => whnf)
              | (rw [g3]; conv => whnf)
              | (rw [g4]; conv => whnf)
              | (rw [g5]; conv => whnf)
              | (rw [g6]; conv => whnf)
              | (rw [hr]; conv => whnf)
              | (refine Bc_split (fun hb => ?_) (fun hb => ?_) <;> (rw [hb]; conv => whnf))
              | (refine And.intro (by first
                  | omega
                  | assumption
                  | (simp only [St.set_n, St.new_n] at *; omega)
                  | (simp; done)
                  | (simp; omega)
                  | (intro _; exact trivial)
                  | (intro _; intro _ _; exact trivial)
                  | (intro _; intro j hj; first | rfl | (have hj' : j < 1 := hj
                                                         obtain rfl : j = 0 := by omega
                                                         exact ⟨rfl, rfl⟩))
                  | (intro j hj; obtain rfl : j = 0 := by omega
                     first | exact ⟨rfl, rfl⟩ | exact .inl ⟨rfl, rfl⟩ | exact .inr (by omega) | exact ⟨by assumption, by assumption⟩ | assumption | trivial)
                  | exact .inr (by assumption)
                  | (intro j hj; exact .inr (by simp only [St.set_n, St.new_n] at *; omega))
                  | (intro e he; rcases List.mem_singleton.1 he with rfl; exact ⟨rfl, rfl⟩)
                  | (rw [St.set_ne _ _ (by first | assumption | omega | (simp only [St.set_n, St.new_n] at *; omega))]; assumption)
                  | (rw [St.set_ne _ _ (by first | assumption | omega | (simp only [St.set_n, St.new_n] at *; omega)), St.set_ne _ _ (by first | assumption | omega | (simp only [St.set_n, St.new_n] at *; omega))]; assumption)
                  | (simp only [decide_eq_true_eq, decide_eq_false_iff_not, Bool.not_eq_true, beq_iff_eq, beq_eq_false_iff_ne, ne_eq, ge_iff_le, gt_iff_lt] at *; omega)) ?_; conv => whnf)
              | (rw [St.set_same]; conv => whnf)
              | (rw [St.new_same]; conv => whnf)
              | (rw [St.set_ne _ _ (by first | assumption | omega | (simp only [St.set_n, St.new_n] at *; omega))]; conv => whnf)
              | (rw [St.new_ne _ _ (by first | assumption | omega | (simp only [St.set_n, St.new_n] at *; omega))]; conv => whnf))
          rw [ht]
          exact Fin.of ⟨by rw [hN], rfl⟩
  | false =>
    conv => whnf
    repeat' (first
        | (refine Bc_t ?_; conv => whnf)
        | (refine Bc_f ?_; conv => whnf)
        | (rw [g1]; conv => whnf)
        | (rw [g2]; conv => whnf)
        | (rw [g3]; conv => whnf)
        | (rw [g4]; conv => whnf)
        | (rw [g5]; conv => whnf)
        | (rw [g6]; conv => whnf)
        | (rw [hr]; conv => whnf)
        | (refine Bc_split (fun hb => ?_) (fun hb => ?_) <;> (rw [hb]; conv => whnf))
        | (refine And.intro (by first
            | omega
            | assumption
            | (simp only [St.set_n, St.new_n] at *; omega)
            | (simp; done)
            | (simp; omega)
            | (intro _; exact trivial)
            | (intro _; intro _ _; exact trivial)
            | (intro _; intro j hj; first | rfl | (have hj' : j < 1 := hj
                                                   obtain rfl : j = 0 := by omega
                                                   exact ⟨rfl, rfl⟩))
            | (intro j hj; obtain rfl : j = 0 := by omega
               first | exact ⟨rfl, rfl⟩ | exact .inl ⟨rfl, rfl⟩ | exact .inr (by omega) | exact ⟨by assumption, by assumption⟩ | assumption | trivial)
            | exact .inr (by assumption)
            | (intro j hj; exact .inr (by simp only [St.set_n, St.new_n] at *; omega))
            | (intro e he; rcases List.mem_singleton.1 he with rfl; exact ⟨rfl, rfl⟩)
            | (rw [St.set_ne _ _ (by first | assumption | omega | (simp only [St.set_n, St.new_n] at *; omega))]; assumption)
            | (rw [St.set_ne _ _ (by first | assumption | omega | (simp only [St.set_n, St.new_n] at *; omega)), St.set_ne _ _ (by first | assumption | omega | (simp only [St.set_n, St.new_n] at *; omega))]; assumption)
            | (simp only [decide_eq_true_eq, decide_eq_false_iff_not, Bool.not_eq_true, beq_iff_eq, beq_eq_false_iff_ne, ne_eq, ge_iff_le, gt_iff_lt] at *; omega)) ?_; conv => whnf)
        | (rw [St.set_same]; conv => whnf)
        | (rw [St.new_same]; conv => whnf)
        | (rw [St.set_ne _ _ (by first | assumption | omega | (simp only [St.set_n, St.new_n] at *; omega))]; conv => whnf)
        | (rw [St.new_ne _ _ (by first | assumption | omega | (simp only [St.set_n, St.new_n] at *; omega))]; conv => whnf))
    refine ACallsW.of (great_ok (s.getD at_ 0) _ Non) (fun _ _ _ h => h.elim) ?_
    rintro _ _ _ ⟨e1, rfl⟩
    subst e1
    cases hgr : isGreat (s.getD at_ 0) with
    | true =>
      have ht : tok (s.drop at_) = .ok (4, 0, (s.drop at_).take (nameLen (s.drop at_)), (s.drop at_).drop (nameLen (s.drop at_))) := by rw [htok, hsm, hgr]; rfl
      conv => whnf
      repeat' (first
          | (refine Bc_t ?_; conv => whnf)
          | (refine Bc_f ?_; conv => whnf)
          | (rw [g1]; conv => whnf)
          | (rw [g2]; conv => whnf)
          | (rw [g3]; conv => whnf)
          | (rw [g4]; conv => whnf)
          | (rw [g5]; conv => whnf)
          | (rw [g6]; conv => whnf)
          | (rw [hr]; conv => whnf)
          | (refine Bc_split (fun hb => ?_) (fun hb => ?_) <;> (rw [hb]; conv => whnf))
          | (refine And.intro (by first
              | omega
              | assumption
              | (simp only [St.set_n, St.new_n] at *; omega)
              | (simp; done)
              | (simp; omega)
              | (intro _; exact trivial)
              | (intro _; intro _ _; exact trivial)
              | (intro _; intro j hj; first | rfl | (have hj' : j < 1 := hj
                                                     obtain rfl : j = 0 := by omega
                                                     exact ⟨rfl, rfl⟩))
              | (intro j hj; obtain rfl : j = 0 := by omega
                 first | exact ⟨rfl, rfl⟩ | exact .inl ⟨rfl, rfl⟩ | exact .inr (by omega) | exact ⟨by assumption, by assumption⟩ | assumption | trivial)
              | exact .inr (by assumption)
              | (intro j hj; exact .inr (by simp only [St.set_n, St.new_n] at *; omega))
              | (intro e he; rcases List.mem_singleton.1 he with rfl; exact ⟨rfl, rfl⟩)
              | (rw [St.set_ne _ _ (by first | assumption | omega | (simp only [St.set_n, St.new_n] at *; omega))]; assumption)
              | (rw [St.set_ne _ _ (by first | assumption | omega | (simp only [St.set_n, St.new_n] at *; omega)), St.set_ne _ _ (by first | assumption | omega | (simp only [St.set_n, St.new_n] at *; omega))]; assumption)
              | (simp only [decide_eq_true_eq, decide_eq_false_iff_not, Bool.not_eq_true, beq_iff_eq, beq_eq_false_iff_ne, ne_eq, ge_iff_le, gt_iff_lt] at *; omega)) ?_; conv => whnf)
          | (rw [St.set_same]; conv => whnf)
          | (rw [St.new_same]; conv => whnf)
          | (rw [St.set_ne _ _ (by first | assumption | omega | (simp only [St.set_n, St.new_n] at *; omega))]; conv => whnf)
          | (rw [St.new_ne _ _ (by first | assumption | omega | (simp only [St.set_n, St.new_n] at *; omega))]; conv => whnf))
      refine ACallsW.of (run_ok s at_ out r _ hs (by omega) hr) (fun _ _ _ h => .inl h) ?_
      rintro _ _ _ ⟨e1, rfl⟩
      subst e1
      conv => whnf
      repeat' (first
          | (refine Bc_t ?_; conv => whnf)
          | (refine Bc_f ?_; conv => whnf)
          | (rw [g1]; conv => whnf)
          | (rw [g2]; conv => whnf)
          | (rw [g3]; conv => whnf)
          | (rw [g4]; conv => whnf)
          | (rw [g5]; conv => whnf)
          | (rw [g6]; conv => whnf)
          | (rw [hr]; conv => whnf)
          | (refine Bc_split (fun hb => ?_) (fun hb => ?_) <;> (rw [hb]; conv => whnf))
          | (refine And.intro (by first
              | omega
              | assumption
              | (simp only [St.set_n, St.new_n] at *; omega)
              | (simp; done)
              | (simp; omega)
              | (intro _; exact trivial)
              | (intro _; intro _ _; exact trivial)
              | (intro _; intro j hj; first | rfl | (have hj' : j < 1 := hj
                                                     obtain rfl : j = 0 := by omega
                                                     exact ⟨rfl, rfl⟩))
              | (intro j hj; obtain rfl : j = 0 := by omega
                 first | exact ⟨rfl, rfl⟩ | exact .inl ⟨rfl, rfl⟩ | exact .inr (by omega) | exact ⟨by assumption, by assumption⟩ | assumption | trivial)
              | exact .inr (by assumption)
              | (intro j hj; exact .inr (by simp only [St.set_n, St.new_n] at *; omega))
              | (intro e he; rcases List.mem_singleton.1 he with rfl; exact ⟨rfl, rfl⟩)
              | (rw [St.set_ne _ _ (by first | assumption | omega | (simp only [St.set_n, St.new_n] at *; omega))]; assumption)
              | (rw [St.set_ne _ _ (by first | assumption | omega | (simp only [St.set_n, St.new_n] at *; omega)), St.set_ne _ _ (by first | assumption | omega | (simp only [St.set_n, St.new_n] at *; omega))]; assumption)
              | (simp only [decide_eq_true_eq, decide_eq_false_iff_not, Bool.not_eq_true, beq_iff_eq, beq_eq_false_iff_ne, ne_eq, ge_iff_le, gt_iff_lt] at *; omega)) ?_; conv => whnf)
          | (rw [St.set_same]; conv => whnf)
          | (rw [St.new_same]; conv => whnf)
          | (rw [St.set_ne _ _ (by first | assumption | omega | (simp only [St.set_n, St.new_n] at *; omega))]; conv => whnf)
          | (rw [St.new_ne _ _ (by first | assumption | omega | (simp only [St.set_n, St.new_n] at *; omega))]; conv => whnf))
      refine ACallsW.of (great_ok (s.getD at_ 0) _ Non) (fun _ _ _ h => h.elim) ?_
      rintro _ _ _ ⟨e1, rfl⟩
      subst e1
      rw [hgr]
      conv => whnf
      repeat' (first
          | (refine Bc_t ?_; conv => whnf)
          | (refine Bc_f ?_; conv => whnf)
          | (rw [g1]; conv => whnf)
          | (rw [g2]; conv => whnf)
          | (rw [g3]; conv => whnf)
          | (rw [g4]; conv => whnf)
          | (rw [g5]; conv => whnf)
          | (rw [g6]; conv => whnf)
          | (rw [hr]; conv => whnf)
          | (refine Bc_split (fun hb => ?_) (fun hb => ?_) <;> (rw [hb]; conv => whnf))
          | (refine And.intro (by first
              | omega
              | assumption
              | (simp only [St.set_n, St.new_n] at *; omega)
              | (simp; done)
              | (simp; omega)
              | (intro _; exact trivial)
              | (intro _; intro _ _; exact trivial)
              | (intro _; intro j hj; first | rfl | (have hj' : j < 1 := hj
                                                     obtain rfl : j = 0 := by omega
                                                     exact ⟨rfl, rfl⟩))
              | (intro j hj; obtain rfl : j = 0 := by omega
                 first | exact ⟨rfl, rfl⟩ | exact .inl ⟨rfl, rfl⟩ | exact .inr (by omega) | exact ⟨by assumption, by assumption⟩ | assumption | trivial)
              | exact .inr (by assumption)
              | (intro j hj; exact .inr (by simp only [St.set_n, St.new_n] at *; omega))
              | (intro e he; rcases List.mem_singleton.1 he with rfl; exact ⟨rfl, rfl⟩)
              | (rw [St.set_ne _ _ (by first | assumption | omega | (simp only [St.set_n, St.new_n] at *; omega))]; assumption)
              | (rw [St.set_ne _ _ (by first | assumption | omega | (simp only [St.set_n, St.new_n] at *; omega)), St.set_ne _ _ (by first | assumption | omega | (simp only [St.set_n, St.new_n] at *; omega))]; assumption)
              | (simp only [decide_eq_true_eq, decide_eq_false_iff_not, Bool.not_eq_true, beq_iff_eq, beq_eq_false_iff_ne, ne_eq, ge_iff_le, gt_iff_lt] at *; omega)) ?_; conv => whnf)
          | (rw [St.set_same]; conv => whnf)
          | (rw [St.new_same]; conv => whnf)
          | (rw [St.set_ne _ _ (by first | assumption | omega | (simp only [St.set_n, St.new_n] at *; omega))]; conv => whnf)
          | (rw [St.new_ne _ _ (by first | assumption | omega | (simp only [St.set_n, St.new_n] at *; omega))]; conv => whnf))
      rw [ht]
      exact Fin.of ⟨by rw [hN], rfl⟩
    | false =>
      conv => whnf
      repeat' (first
          | (refine Bc_t ?_; conv => whnf)
          | (refine Bc_f ?_; conv => whnf)
          | (rw [g1]; conv => whnf)
          | (rw [g2]; conv => whnf)
          | (rw [g3]; conv => whnf)
          | (rw [g4]; conv => whnf)
          | (rw [g5]; conv => whnf)
          | (rw [g6]; conv => whnf)
          | (rw [hr]; conv => whnf)
          | (refine Bc_split (fun hb => ?_) (fun hb => ?_) <;> (rw [hb]; conv => whnf))
          | (refine And.intro (by first
              | omega
              | assumption
              | (simp only [St.set_n, St.new_n] at *; omega)
              | (simp; done)
              | (simp; omega)
              | (intro _; exact trivial)
              | (intro _; intro _ _; exact trivial)
              | (intro _; intro j hj; first | rfl | (have hj' : j < 1 := hj
                                                     obtain rfl : j = 0 := by omega
                                                     exact ⟨rfl, rfl⟩))
              | (intro j hj; obtain rfl : j = 0 := by omega
                 first | exact ⟨rfl, rfl⟩ | exact .inl ⟨rfl, rfl⟩ | exact .inr (by omega) | exact ⟨by assumption, by assumption⟩ | assumption | trivial)
              | exact .inr (by assumption)
              | (intro j hj; exact .inr (by simp only [St.set_n, St.new_n] at *; omega))
              | (intro e he; rcases List.mem_singleton.1 he with rfl; exact ⟨rfl, rfl⟩)
              | (rw [St.set_ne _ _ (by first | assumption | omega | (simp only [St.set_n, St.new_n] at *; omega))]; assumption)
              | (rw [St.set_ne _ _ (by first | assumption | omega | (simp only [St.set_n, St.new_n] at *; omega)), St.set_ne _ _ (by first | assumption | omega | (simp only [St.set_n, St.new_n] at *; omega))]; assumption)
              | (simp only [decide_eq_true_eq, decide_eq_false_iff_not, Bool.not_eq_true, beq_iff_eq, beq_eq_false_iff_ne, ne_eq, ge_iff_le, gt_iff_lt] at *; omega)) ?_; conv => whnf)
          | (rw [St.set_same]; conv => whnf)
          | (rw [St.new_same]; conv => whnf)
          | (rw [St.set_ne _ _ (by first | assumption | omega | (simp only [St.set_n, St.new_n] at *; omega))]; conv => whnf)
          | (rw [St.new_ne _ _ (by first | assumption | omega | (simp only [St.set_n, St.new_n] at *; omega))]; conv => whnf))
      refine ACallsW.of (digit_ok (s.getD at_ 0) _ Non) (fun _ _ _ h => h.elim) ?_
      rintro _ _ _ ⟨e1, rfl⟩
      subst e1
      cases hdg : isDigit (s.getD at_ 0) with
      | true =>
        conv => whnf
        repeat' (first
            | (refine Bc_t ?_; conv => whnf)
            | (refine Bc_f ?_; conv => whnf)
            | (rw [g1]; conv => whnf)
            | (rw [g2]; conv => whnf)
            | (rw [g3]; conv => whnf)
            | (rw [g4]; conv => whnf)
            | (rw [g5]; conv => whnf)
            | (rw [g6]; conv => whnf)
            | (rw [hr]; conv => whnf)
            | (refine Bc_split (fun hb => ?_) (fun hb => ?_) <;> (rw [hb]; conv => whnf))
            | (refine And.intro (by first
                | omega
                | assumption
                | (simp only [St.set_n, St.new_n] at *; omega)
                | (simp; done)
                | (simp; omega)
                | (intro _; exact trivial)
                | (intro _; intro _ _; exact trivial)
                | (intro _; intro j hj; first | rfl | (have hj' : j < 1 := hj
                                                       obtain rfl : j = 0 := by omega
                                                       exact ⟨rfl, rfl⟩))
                | (intro j hj; obtain rfl : j = 0 := by omega
                   first | exact ⟨rfl, rfl⟩ | exact .inl ⟨rfl, rfl⟩ | exact .inr (by omega) | exact ⟨by assumption, by assumption⟩ | assumption | trivial)
                | exact .inr (by assumption)
                | (intro j hj; exact .inr (by simp only [St.set_n, St.new_n] at *; omega))
                | (intro e he; rcases List.mem_singleton.1 he with rfl; exact ⟨rfl, rfl⟩)
                | (rw [St.set_ne _ _ (by first | assumption | omega | (simp only [St.set_n, St.new_n] at *; omega))]; assumption)
                | (rw [St.set_ne _ _ (by first | assumption | omega | (simp only [St.set_n, St.new_n] at *; omega)), St.set_ne _ _ (by first | assumption | omega | (simp only [St.set_n, St.new_n] at *; omega))]; assumption)
                | (simp only [decide_eq_true_eq, decide_eq_false_iff_not, Bool.not_eq_true, beq_iff_eq, beq_eq_false_iff_ne, ne_eq, ge_iff_le, gt_iff_lt] at *; omega)) ?_; conv => whnf)
            | (rw [St.set_same]; conv => whnf)
            | (rw [St.new_same]; conv => whnf)
            | (rw [St.set_ne _ _ (by first | assumption | omega | (simp only [St.set_n, St.new_n] at *; omega))]; conv => whnf)
            | (rw [St.new_ne _ _ (by first | assumption | omega | (simp only [St.set_n, St.new_n] at *; omega))]; conv => whnf))
        refine ACallsW.of (number_ok s at_ out r _ (by rw [f5]; exact hB) hs hat hdg hr) (fun _ _ _ h => .inl h) ?_
        intro e σ' hk hR
        cases hnu : numOf ((s.drop at_).take (nameLen (s.drop at_))) with
        | ok v =>
          rw [hnu] at hR
          simp only at hR
          obtain ⟨e1, rfl⟩ := hR
          subst e1
          have ht : tok (s.drop at_) = .ok (1, v, [], (s.drop at_).drop (nameLen (s.drop at_))) := by rw [htok, hsm, hgr, hdg, hnu]; rfl
          conv => whnf
          repeat' (first
              | (refine Bc_t ?_; conv => whnf)
              | (refine Bc_f ?_; conv => whnf)
              | (rw [g1]; conv => whnf)
              | (rw [g2]; conv => whnf)
              | (rw [g3]; conv => whnf)
              | (rw [g4]; conv => whnf)
              | (rw [g5]; conv => whnf)
              | (rw [g6]; conv => whnf)
              | (rw [hr]; conv => whnf)
              | (refine Bc_split (fun hb => ?_) (fun hb => ?_) <;> (rw [hb]; conv => whnf))
              | (refine And.intro (by first
                  | omega
                  | assumption
                  | (simp only [St.set_n, St.new_n] at *; omega)
                  | (simp; done)
                  | (simp; omega)
                  | (intro _; exact trivial)
                  | (intro _; intro _ _; exact trivial)
                  | (intro _; intro j hj; first | rfl | (have hj' : j < 1 := hj
                                                         obtain rfl : j = 0 := by omega
                                                         exact ⟨rfl, rfl⟩))
                  | (intro j hj; obtain rfl : j = 0 := by omega
                     first | exact ⟨rfl, rfl⟩ | exact .inl ⟨rfl, rfl⟩ | exact .inr (by omega) | exact ⟨by assumption, by assumption⟩ | assumption | trivial)
                  | exact .inr (by assumption)
                  | (intro j hj; exact .inr (by simp only [St.set_n, St.new_n] at *; omega))
                  | (intro e he; rcases List.mem_singleton.1 he with rfl; exact ⟨rfl, rfl⟩)
                  | (rw [St.set_ne _ _ (by first | assumption | omega | (simp only [St.set_n, St.new_n] at *; omega))]; assumption)
                  | (rw [St.set_ne _ _ (by first | assumption | omega | (simp only [St.set_n, St.new_n] at *; omega)), St.set_ne _ _ (by first | assumption | omega | (simp only [St.set_n, St.new_n] at *; omega))]; assumption)
                  | (simp only [decide_eq_true_eq, decide_eq_false_iff_not, Bool.not_eq_true, beq_iff_eq, beq_eq_false_iff_ne, ne_eq, ge_iff_le, gt_iff_lt] at *; omega)) ?_; conv => whnf)
              | (rw [St.set_same]; conv => whnf)
              | (rw [St.new_same]; conv => whnf)
              | (rw [St.set_ne _ _ (by first | assumption | omega | (simp only [St.set_n, St.new_n] at *; omega))]; conv => whnf)
              | (rw [St.new_ne _ _ (by first | assumption | omega | (simp only [St.set_n, St.new_n] at *; omega))]; conv => whnf))
          rw [ht]
          exact Fin.of ⟨by rw [hN], rfl⟩
        | error k =>
          rw [hnu] at hR
          simp only at hR
          subst hR
          have ht : tok (s.drop at_) = .error (if k = 5 then 20 else k) := by rw [htok, hsm, hgr, hdg, hnu]; rfl
          conv => whnf
          rw [ht]
          exact Fin.of rfl
      | false =>
        cases h34 : (((s.getD at_ 0).toNat : Int) == 34) with
        | true =>
          have hc : s.getD at_ 0 = 34 := UInt8.toNat_inj.1 (by have := beq_iff_eq.1 h34; have h2 : (34 : UInt8).toNat = 34 := rfl; omega)
          have g3 : (((s.getD (at_ : Int).toNat 0).toNat : Int) == 34) = true := h34
          have htok' : tok (s.drop at_) = match txt 0 0 (s.drop (at_ + 1)) with | some (v, l) => .ok (2, 0, v, l) | none => .error 20 := by rw [htok, hsm, hgr, hdg, hc]; rfl
          conv => whnf
          repeat' (first
              | (refine Bc_t ?_; conv => whnf)
              | (refine Bc_f ?_; conv => whnf)
              | (rw [g1]; conv => whnf)
              | (rw [g2]; conv => whnf)
              | (rw [g3]; conv => whnf)
              | (rw [g4]; conv => whnf)
              | (rw [g5]; conv => whnf)
              | (rw [g6]; conv => whnf)
              | (rw [hr]; conv => whnf)
              | (refine Bc_split (fun hb => ?_) (fun hb => ?_) <;> (rw [hb]; conv => whnf))
              | (refine And.intro (by first
                  | omega
                  | assumption
                  | (simp only [St.set_n, St.new_n] at *; omega)
                  | (simp; done)
                  | (simp; omega)
                  | (intro _; exact trivial)
                  | (intro _; intro _ _; exact trivial)
                  | (intro _; intro j hj; first | rfl | (have hj' : j < 1 := hj
                                                         obtain rfl : j = 0 := by omega
                                                         exact ⟨rfl, rfl⟩))
                  | (intro j hj; obtain rfl : j = 0 := by omega
                     first | exact ⟨rfl, rfl⟩ | exact .inl ⟨rfl, rfl⟩ | exact .inr (by omega) | exact ⟨by assumption, by assumption⟩ | assumption | trivial)
                  | exact .inr (by assumption)
                  | (intro j hj; exact .inr (by simp only [St.set_n, St.new_n] at *; omega))
                  | (intro e he; rcases List.mem_singleton.1 he with rfl; exact ⟨rfl, rfl⟩)
                  | (rw [St.set_ne _ _ (by first | assumption | omega | (simp only [St.set_n, St.new_n] at *; omega))]; assumption)
                  | (rw [St.set_ne _ _ (by first | assumption | omega | (simp only [St.set_n, St.new_n] at *; omega)), St.set_ne _ _ (by first | assumption | omega | (simp only [St.set_n, St.new_n] at *; omega))]; assumption)
                  | (simp only [decide_eq_true_eq, decide_eq_false_iff_not, Bool.not_eq_true, beq_iff_eq, beq_eq_false_iff_ne, ne_eq, ge_iff_le, gt_iff_lt] at *; omega)) ?_; conv => whnf)
              | (rw [St.set_same]; conv => whnf)
              | (rw [St.new_same]; conv => whnf)
              | (rw [St.set_ne _ _ (by first | assumption | omega | (simp only [St.set_n, St.new_n] at *; omega))]; conv => whnf)
              | (rw [St.new_ne _ _ (by first | assumption | omega | (simp only [St.set_n, St.new_n] at *; omega))]; conv => whnf))
          refine ACallsW.of (text_ok s at_ out r _ hs hat (by omega) hr) (fun _ _ _ h => .inl h) ?_
          intro e σ' hk hR
          cases htx : txt 0 0 (s.drop (at_ + 1)) with
          | none =>
            rw [htx] at hR htok'
            simp only at hR htok'
            subst hR
            conv => whnf
            rw [htok']
            exact Fin.of rfl
          | some p =>
            obtain ⟨v, l⟩ := p
            rw [htx] at hR htok'
            simp only at hR htok'
            obtain ⟨hr2, rfl⟩ := hR
            have k1 := hk.same (id := σ.n) (by omega) (fun off h => by have := h.1; omega)
            have k2 := hk.same (id := q) (by omega) (fun off h => hqr h.1)
            have g1 := k1.trans g1
            have g2 := k2.trans g2
            have hr := hr2
            conv => whnf
            repeat' (first
                | (refine Bc_t ?_; conv => whnf)
                | (refine Bc_f ?_; conv => whnf)
                | (rw [g1]; conv => whnf)
                | (rw [g2]; conv => whnf)
                | (rw [g3]; conv => whnf)
                | (rw [g4]; conv => whnf)
                | (rw [g5]; conv => whnf)
                | (rw [g6]; conv => whnf)
                | (rw [hr]; conv => whnf)
                | (refine Bc_split (fun hb => ?_) (fun hb => ?_) <;> (rw [hb]; conv => whnf))
                | (refine And.intro (by first
                    | omega
                    | assumption
                    | (simp only [St.set_n, St.new_n] at *; omega)
                    | (simp; done)
                    | (simp; omega)
                    | (intro _; exact trivial)
                    | (intro _; intro _ _; exact trivial)
                    | (intro _; intro j hj; first | rfl | (have hj' : j < 1 := hj
                                                           obtain rfl : j = 0 := by omega
                                                           exact ⟨rfl, rfl⟩))
                    | (intro j hj; obtain rfl : j = 0 := by omega
                       first | exact ⟨rfl, rfl⟩ | exact .inl ⟨rfl, rfl⟩ | exact .inr (by omega) | exact ⟨by assumption, by assumption⟩ | assumption | trivial)
                    | exact .inr (by assumption)
                    | (intro j hj; exact .inr (by simp only [St.set_n, St.new_n] at *; omega))
                    | (intro e he; rcases List.mem_singleton.1 he with rfl; exact ⟨rfl, rfl⟩)
                    | (rw [St.set_ne _ _ (by first | assumption | omega | (simp only [St.set_n, St.new_n] at *; omega))]; assumption)
                    | (rw [St.set_ne _ _ (by first | assumption | omega | (simp only [St.set_n, St.new_n] at *; omega)), St.set_ne _ _ (by first | assumption | omega | (simp only [St.set_n, St.new_n] at *; omega))]; assumption)
                    | (simp only [decide_eq_true_eq, decide_eq_false_iff_not, Bool.not_eq_true, beq_iff_eq, beq_eq_false_iff_ne, ne_eq, ge_iff_le, gt_iff_lt] at *; omega)) ?_; conv => whnf)
                | (rw [St.set_same]; conv => whnf)
                | (rw [St.new_same]; conv => whnf)
                | (rw [St.set_ne _ _ (by first | assumption | omega | (simp only [St.set_n, St.new_n] at *; omega))]; conv => whnf)
                | (rw [St.new_ne _ _ (by first | assumption | omega | (simp only [St.set_n, St.new_n] at *; omega))]; conv => whnf))
            rw [htok']
            exact Fin.of ⟨rfl, rfl⟩
        | false =>
          have hc : (s.getD at_ 0 == 34) = false := by
            rw [beq_eq_false_iff_ne] at h34 ⊢
            intro h
            exact h34 (by rw [h]; rfl)
          have g3 : (((s.getD (at_ : Int).toNat 0).toNat : Int) == 34) = false := h34
          conv => whnf
          repeat' (first
              | (refine Bc_t ?_; conv => whnf)
              | (refine Bc_f ?_; conv => whnf)
              | (rw [g1]; conv => whnf)
              | (rw [g2]; conv => whnf)
              | (rw [g3]; conv => whnf)
              | (rw [g4]; conv => whnf)
              | (rw [g5]; conv => whnf)
              | (rw [g6]; conv => whnf)
              | (rw [hr]; conv => whnf)
              | (refine Bc_split (fun hb => ?_) (fun hb => ?_) <;> (rw [hb]; conv => whnf))
              | (refine And.intro (by first
                  | omega
                  | assumption
                  | (simp only [St.set_n, St.new_n] at *; omega)
                  | (simp; done)
                  | (simp; omega)
                  | (intro _; exact trivial)
                  | (intro _; intro _ _; exact trivial)
                  | (intro _; intro j hj; first | rfl | (have hj' : j < 1 := hj
                                                         obtain rfl : j = 0 := by omega
                                                         exact ⟨rfl, rfl⟩))
                  | (intro j hj; obtain rfl : j = 0 := by omega
                     first | exact ⟨rfl, rfl⟩ | exact .inl ⟨rfl, rfl⟩ | exact .inr (by omega) | exact ⟨by assumption, by assumption⟩ | assumption | trivial)
                  | exact .inr (by assumption)
                  | (intro j hj; exact .inr (by simp only [St.set_n, St.new_n] at *; omega))
                  | (intro e he; rcases List.mem_singleton.1 he with rfl; exact ⟨rfl, rfl⟩)
                  | (rw [St.set_ne _ _ (by first | assumption | omega | (simp only [St.set_n, St.new_n] at *; omega))]; assumption)
                  | (rw [St.set_ne _ _ (by first | assumption | omega | (simp only [St.set_n, St.new_n] at *; omega)), St.set_ne _ _ (by first | assumption | omega | (simp only [St.set_n, St.new_n] at *; omega))]; assumption)
                  | (simp only [decide_eq_true_eq, decide_eq_false_iff_not, Bool.not_eq_true, beq_iff_eq, beq_eq_false_iff_ne, ne_eq, ge_iff_le, gt_iff_lt] at *; omega)) ?_; conv => whnf)
              | (rw [St.set_same]; conv => whnf)
              | (rw [St.new_same]; conv => whnf)
              | (rw [St.set_ne _ _ (by first | assumption | omega | (simp only [St.set_n, St.new_n] at *; omega))]; conv => whnf)
              | (rw [St.new_ne _ _ (by first | assumption | omega | (simp only [St.set_n, St.new_n] at *; omega))]; conv => whnf))
          refine ACallsW.of (sign_ok s at_ out r _ (by rw [f5]; exact hB) hs (by omega) hr) (fun _ _ _ h => .inl h) ?_
          intro e σ' hk hR
          by_cases hsg : signOf (s.drop at_) = []
          · rw [if_pos hsg] at hR
            subst hR
            have ht : tok (s.drop at_) = .error 20 := by rw [htok, hsm, hgr, hdg, hc, if_pos hsg]; rfl
            conv => whnf
            rw [ht]
            exact Fin.of rfl
          · rw [if_neg hsg] at hR
            obtain ⟨e1, rfl⟩ := hR
            subst e1
            have ht : tok (s.drop at_) = .ok (5, 0, signOf (s.drop at_), (s.drop at_).drop (signOf (s.drop at_)).length) := by rw [htok, hsm, hgr, hdg, hc, if_neg hsg]; rfl
            conv => whnf
            repeat' (first
                | (refine Bc_t ?_; conv => whnf)
                | (refine Bc_f ?_; conv => whnf)
                | (rw [g1]; conv => whnf)
                | (rw [g2]; conv => whnf)
                | (rw [g3]; conv => whnf)
                | (rw [g4]; conv => whnf)
                | (rw [g5]; conv => whnf)
                | (rw [g6]; conv => whnf)
                | (rw [hr]; conv => whnf)
                | (refine Bc_split (fun hb => ?_) (fun hb => ?_) <;> (rw [hb]; conv => whnf))
                | (refine And.intro (by first
                    | omega
                    | assumption
                    | (simp only [St.set_n, St.new_n] at *; omega)
                    | (simp; done)
                    | (simp; omega)
                    | (intro _; exact trivial)
                    | (intro _; intro _ _; exact trivial)
                    | (intro _; intro j hj; first | rfl | (have hj' : j < 1 := hj
                                                           obtain rfl : j = 0 := by omega
                                                           exact ⟨rfl, rfl⟩))
                    | (intro j hj; obtain rfl : j = 0 := by omega
                       first | exact ⟨rfl, rfl⟩ | exact .inl ⟨rfl, rfl⟩ | exact .inr (by omega) | exact ⟨by assumption, by assumption⟩ | assumption | trivial)
                    | exact .inr (by assumption)
                    | (intro j hj; exact .inr (by simp only [St.set_n, St.new_n] at *; omega))
                    | (intro e he; rcases List.mem_singleton.1 he with rfl; exact ⟨rfl, rfl⟩)
                    | (rw [St.set_ne _ _ (by first | assumption | omega | (simp only [St.set_n, St.new_n] at *; omega))]; assumption)
                    | (rw [St.set_ne _ _ (by first | assumption | omega | (simp only [St.set_n, St.new_n] at *; omega)), St.set_ne _ _ (by first | assumption | omega | (simp only [St.set_n, St.new_n] at *; omega))]; assumption)
                    | (simp only [decide_eq_true_eq, decide_eq_false_iff_not, Bool.not_eq_true, beq_iff_eq, beq_eq_false_iff_ne, ne_eq, ge_iff_le, gt_iff_lt] at *; omega)) ?_; conv => whnf)
                | (rw [St.set_same]; conv => whnf)
                | (rw [St.new_same]; conv => whnf)
                | (rw [St.set_ne _ _ (by first | assumption | omega | (simp only [St.set_n, St.new_n] at *; omega))]; conv => whnf)
                | (rw [St.new_ne _ _ (by first | assumption | omega | (simp only [St.set_n, St.new_n] at *; omega))]; conv => whnf))
            rw [ht]
            have hpl := (signOf_pre (s.drop at_)).length_le
            refine Fin.of ⟨?_, rfl⟩
            congr 1
            simp only [List.length_drop] at hpl ⊢
            omega

theorem one_ok (s : List UInt8) (at_ : Nat) (out : A) (r : Nat) (σ : St) (hB : B0 σ.base) (hs : s.length ≤ 4096) (hat : at_ < s.length) (hrn : r < σ.n) (hr : σ.obj r = rd s at_ out) :
    ACalls Tryd.prog 25 [.ptr r 0] σ (AtOf r) (fun e σ' => match tok (s.drop at_) with
      | .ok (k, n, S, l) => σ'.obj r = rd s (s.length - l.length) out ∧ e = .ret (tokA k at_ n S)
      | .error k => e = .pan (bad k at_)) :=
  (one_raw s at_ out r σ hB hs hat hrn hr).frame fun id off hid hm => hm.resolve_right (by omega)
end
end Go.Proofs.YtjeccchbeflddaaDoor.Ga
