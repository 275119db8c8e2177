/- The lexer's reader: numbers, signs, words. -/
import Derived.Test.YtjeccchbeflddaaDoorLa6
set_option linter.unusedVariables false
set_option linter.unusedSimpArgs false
namespace Go.Proofs.YtjeccchbeflddaaDoor.Ga
open Lx

def c_number : SFun := ⟨30, (.seq (.reg [⟨(some 2), (.mov (.const (.int .i64 0))), none⟩]) (.seq (.reg [⟨(some 6), (.mov (.tmp 0)), none⟩, ⟨(some 7), (.nilCheck (.tmp 6)), none⟩, ⟨(some 8), (.fieldAddr 1 (.tmp 7)), none⟩, ⟨(some 9), (.load false 1 (.tmp 8)), none⟩, ⟨(some 3), (.mov (.tmp 9)), none⟩]) (.seq (.reg [⟨(some 11), (.mov (.tmp 0)), none⟩, ⟨(some 12), (.call 38 [(.tmp 11)]), none⟩, ⟨(some 13), (.call 48 [(.tmp 12)]), none⟩, ⟨(some 10), (.mov (.tmp 13)), none⟩, ⟨(some 14), (.extract (.tmp 10) 0), none⟩, ⟨(some 15), (.extract (.tmp 10) 1), none⟩, ⟨(some 4), (.mov (.tmp 14)), none⟩, ⟨(some 5), (.mov (.tmp 15)), none⟩]) (.seq (.seq (.reg [⟨(some 16), (.mov (.tmp 5)), none⟩]) (.block 0 (.seq (.reg [⟨(some 18), (.bin .eql .none (.tmp 16) (.const (.int .i64 0))), none⟩, ⟨(some 17), (.mov (.tmp 18)), none⟩]) (.cond (.tmp 17) (.seq (.reg [⟨(some 19), (.mov (.tmp 4)), none⟩, ⟨(some 20), (.call 29 [(.tmp 19)]), none⟩, ⟨(some 2), (.mov (.tmp 20)), none⟩]) .ret) (.seq (.reg [⟨(some 22), (.bin .eql .none (.tmp 16) (.const (.int .i64 5))), none⟩, ⟨(some 21), (.mov (.tmp 22)), none⟩]) (.cond (.tmp 21) (.reg [⟨(some 23), (.mov (.tmp 3)), none⟩, ⟨(some 24), (.build [(.int .i64 0), (.int .i64 0)] [(0, (1, (.const (.int .i64 20)))), (1, (1, (.tmp 23)))]), none⟩, ⟨(some 25), (.mkIface 45 (.tmp 24)), none⟩, ⟨none, (.panic (.tmp 25)), none⟩]) .skip)))))) (.reg [⟨(some 26), (.mov (.tmp 5)), none⟩, ⟨(some 27), (.mov (.tmp 3)), none⟩, ⟨(some 28), (.build [(.int .i64 0), (.int .i64 0)] [(0, (1, (.tmp 26))), (1, (1, (.tmp 27)))]), none⟩, ⟨(some 29), (.mkIface 45 (.tmp 28)), none⟩, ⟨none, (.panic (.tmp 29)), none⟩]))))), [(.tmp 2)]⟩
theorem c_number_ok : cFun Tryd.prog Tryd.f40 = some c_number := by kernel_rfl
def c_sign : SFun := ⟨42, (.seq (.reg [⟨(some 2), (.mov (.const (.str []))), none⟩]) (.seq (.reg [⟨(some 3), (.mov (.const (.str []))), none⟩]) (.seq (.seq (.reg [⟨(some 6), (.call 50 [(.const (.str [40, 32, 41, 32, 91, 32, 93, 32, 91, 124, 32, 124, 93, 32, 123, 32, 125, 32, 59, 32, 59, 59, 32, 44, 32, 58, 32, 58, 58, 32, 58, 61, 32, 60, 45, 32, 45, 62, 32, 124, 32, 124, 124, 32, 38, 38, 32, 61, 32, 60, 62, 32, 60, 32, 62, 32, 60, 61, 32, 62, 61, 32, 43, 32, 45, 32, 42, 32, 47, 32, 94, 32, 33, 32, 46, 32, 46, 40]))]), none⟩, ⟨(some 7), (.len .sl (.tmp 6)), none⟩, ⟨(some 8), (.mov (.const (.int .i64 0))), none⟩]) (.block 0 (.loop (.seq (.reg [⟨(some 9), (.bin .lss .none (.tmp 8) (.tmp 7)), none⟩]) (.seq (.cond (.tmp 9) .skip (.exit 0)) (.seq (.block 1 (.seq (.reg [⟨(some 10), (.idxAddr 1 (.tmp 6) (.tmp 8)), none⟩, ⟨(some 11), (.load false 1 (.tmp 10)), none⟩, ⟨(some 5), (.mov (.tmp 11)), none⟩]) (.seq (.reg [⟨(some 12), (.mov (.tmp 0)), none⟩, ⟨(some 13), (.mov (.tmp 5)), none⟩, ⟨(some 14), (.call 34 [(.tmp 12), (.tmp 13)]), none⟩, ⟨(some 15), (.mov (.tmp 14)), none⟩, ⟨(some 16), (.mov (.tmp 5)), (some (15, true))⟩, ⟨(some 17), (.len .str (.tmp 16)), (some (15, true))⟩, ⟨(some 18), (.mov (.tmp 3)), (some (15, true))⟩, ⟨(some 19), (.len .str (.tmp 18)), (some (15, true))⟩, ⟨(some 20), (.bin .gtr .none (.tmp 17) (.tmp 19)), (some (15, true))⟩, ⟨(some 21), (.pick (.tmp 15) (.tmp 20) (.const (.bool false))), none⟩]) (.cond (.tmp 21) (.reg [⟨(some 22), (.mov (.tmp 5)), none⟩, ⟨(some 3), (.mov (.tmp 22)), none⟩]) .skip)))) (.reg [⟨(some 23), (.bin .add .none (.tmp 8) (.const (.int .i64 1))), none⟩, ⟨(some 8), (.mov (.tmp 23)), none⟩]))))))) (.seq (.seq (.reg [⟨(some 24), (.mov (.tmp 3)), none⟩, ⟨(some 25), (.bin .eql .none (.tmp 24) (.const (.str []))), none⟩]) (.cond (.tmp 25) (.reg [⟨(some 26), (.mov (.tmp 0)), none⟩, ⟨(some 27), (.nilCheck (.tmp 26)), none⟩, ⟨(some 28), (.fieldAddr 1 (.tmp 27)), none⟩, ⟨(some 29), (.load false 1 (.tmp 28)), none⟩, ⟨(some 30), (.build [(.int .i64 0), (.int .i64 0)] [(0, (1, (.const (.int .i64 20)))), (1, (1, (.tmp 29)))]), none⟩, ⟨(some 31), (.mkIface 45 (.tmp 30)), none⟩, ⟨none, (.panic (.tmp 31)), none⟩]) .skip)) (.seq (.reg [⟨(some 32), (.mov (.tmp 0)), none⟩, ⟨(some 33), (.nilCheck (.tmp 32)), none⟩, ⟨(some 34), (.fieldAddr 1 (.tmp 33)), none⟩, ⟨(some 35), (.load false 1 (.tmp 34)), none⟩, ⟨(some 36), (.mov (.tmp 3)), none⟩, ⟨(some 37), (.len .str (.tmp 36)), none⟩, ⟨(some 38), (.bin .add .none (.tmp 35) (.tmp 37)), none⟩, ⟨(some 39), (.nilCheck (.tmp 32)), none⟩, ⟨(some 40), (.fieldAddr 1 (.tmp 39)), none⟩, ⟨none, (.store 1 (.tmp 40) (.tmp 38)), none⟩]) (.seq (.reg [⟨(some 41), (.mov (.tmp 3)), none⟩, ⟨(some 2), (.mov (.tmp 41)), none⟩]) .ret)))))), [(.tmp 2)]⟩
theorem c_sign_ok : cFun Tryd.prog Tryd.f42 = some c_sign := by kernel_rfl
def c_isWord : SFun := ⟨16, (.seq (.reg [⟨(some 2), (.mov (.const (.bool false))), none⟩]) (.seq (.reg [⟨(some 3), (.mov (.tmp 0)), none⟩, ⟨(some 4), (.bin .neq .none (.tmp 3) (.const (.str []))), none⟩, ⟨(some 5), (.mov (.tmp 4)), none⟩, ⟨(some 6), (.mov (.tmp 0)), (some (5, true))⟩, ⟨(some 7), (.call 16 [(.tmp 6), (.const (.str [32]))]), (some (5, true))⟩, ⟨(some 8), (.un .not (.tmp 7)), (some (5, true))⟩, ⟨(some 9), (.pick (.tmp 5) (.tmp 8) (.const (.bool false))), none⟩, ⟨(some 10), (.mov (.tmp 9)), none⟩, ⟨(some 11), (.mov (.tmp 0)), (some (10, true))⟩, ⟨(some 12), (.bin .add .none (.const (.str [32])) (.tmp 11)), (some (10, true))⟩, ⟨(some 13), (.bin .add .none (.tmp 12) (.const (.str [32]))), (some (10, true))⟩, ⟨(some 14), (.call 16 [(.const (.str [32, 97, 110, 100, 32, 97, 115, 32, 98, 101, 103, 105, 110, 32, 100, 111, 32, 100, 111, 110, 101, 32, 100, 111, 119, 110, 116, 111, 32, 101, 108, 115, 101, 32, 101, 110, 100, 32, 101, 120, 99, 101, 112, 116, 105, 111, 110, 32, 102, 97, 108, 115, 101, 32, 102, 111, 114, 32, 102, 117, 110, 32, 102, 117, 110, 99, 116, 105, 111, 110, 32, 105, 102, 32, 105, 110, 32, 108, 101, 116, 32, 109, 97, 116, 99, 104, 32, 109, 111, 100, 32, 109, 117, 116, 97, 98, 108, 101, 32, 110, 111, 116, 32, 111, 102, 32, 114, 97, 105, 115, 101, 32, 114, 101, 99, 32, 116, 104, 101, 110, 32, 116, 111, 32, 116, 114, 117, 101, 32, 116, 114, 121, 32, 116, 121, 112, 101, 32, 119, 104, 101, 110, 32, 119, 104, 105, 108, 101, 32, 119, 105, 116, 104, 32])), (.tmp 13)]), (some (10, true))⟩, ⟨(some 15), (.pick (.tmp 10) (.tmp 14) (.const (.bool false))), none⟩, ⟨(some 2), (.mov (.tmp 15)), none⟩]) .ret)), [(.tmp 2)]⟩
theorem c_isWord_ok : cFun Tryd.prog Tryd.f10 = some c_isWord := by kernel_rfl

section
attribute [local irreducible] Bc ACallsW ALoop Fin St.set St.new
theorem isWord_ok (s : List UInt8) (hs : s.length ≤ 1000000) (σ : St) (hB : B0 σ.base) (m) : ACalls Tryd.prog 10 [.str s] σ m (fun e σ' => σ' = σ ∧ e = .ret (.bool (isWord s))) := by
  refine acalls_go mixed Tryd.func10 c_isWord_ok (Nat.le_of_ble_eq_true rfl) ?_
  conv => whnf
  repeat' (first
      | (refine Bc_t ?_; conv => whnf)
      | (refine Bc_f ?_; conv => whnf)
      | (rw [g1]; conv => whnf)
      | (rw [g2]; conv => whnf)
      | (rw [g3]; conv => whnf)
      | (rw [g4]; conv => whnf)
      | (rw [g5]; conv => whnf)
      | (rw [g6]; conv => whnf)
      | (rw [hr]; conv => whnf)
      | (refine Bc_split (fun hb => ?_) (fun hb => ?_) <;> (rw [hb]; conv => whnf))
      | (refine And.intro (by first
          | omega
          | assumption
          | (simp only [St.set_n, St.new_n] at *; omega)
          | (simp; done)
          | (simp; omega)
          | (intro _; exact trivial)
          | (intro _; intro _ _; exact trivial)
          | (intro _; intro j hj; first | rfl | (have hj' : j < 1 := hj
                                                 obtain rfl : j = 0 := by omega
                                                 exact ⟨rfl, rfl⟩))
          | (intro j hj; obtain rfl : j = 0 := by omega
             first | exact ⟨rfl, rfl⟩ | exact .inl ⟨rfl, rfl⟩ | exact .inr (by omega) | exact ⟨by assumption, by assumption⟩ | assumption | trivial)
          | exact .inr (by assumption)
          | (intro j hj; exact .inr (by simp only [St.set_n, St.new_n] at *; omega))
          | (intro e he; rcases List.mem_singleton.1 he with rfl; exact ⟨rfl, rfl⟩)
          | (rw [St.set_ne _ _ (by first | assumption | omega | (simp only [St.set_n, St.new_n] at *; omega))]; assumption)
          | (rw [St.set_ne _ _ (by first | assumption | omega | (simp only [St.set_n, St.new_n] at *; omega)), St.set_ne _ _ (by first | assumption | omega | (simp only [St.set_n, St.new_n] at *; omega))]; assumption)
          | (simp only [decide_eq_true_eq, decide_eq_false_iff_not, Bool.not_eq_true, beq_iff_eq, beq_eq_false_iff_ne, ne_eq, ge_iff_le, gt_iff_lt] at *; omega)) ?_; conv => whnf)
      | (rw [St.set_same]; conv => whnf)
      | (rw [St.new_same]; conv => whnf)
      | (rw [St.set_ne _ _ (by first | assumption | omega | (simp only [St.set_n, St.new_n] at *; omega))]; conv => whnf)
      | (rw [St.new_ne _ _ (by first | assumption | omega | (simp only [St.set_n, St.new_n] at *; omega))]; conv => whnf))
  · refine ACallsW.of (contains_ok s [32] (by omega) _ hB Non) (fun _ _ _ h => h.elim) ?_
    rintro _ _ _ ⟨rfl, rfl⟩
    cases hsp : Lib.contains s [32] with
    | true =>
      conv => whnf
      repeat' (first
          | (refine Bc_t ?_; conv => whnf)
          | (refine Bc_f ?_; conv => whnf)
          | (rw [g1]; conv => whnf)
          | (rw [g2]; conv => whnf)
          | (rw [g3]; conv => whnf)
          | (rw [g4]; conv => whnf)
          | (rw [g5]; conv => whnf)
          | (rw [g6]; conv => whnf)
          | (rw [hr]; conv => whnf)
          | (refine Bc_split (fun hb => ?_) (fun hb => ?_) <;> (rw [hb]; conv => whnf))
          | (refine And.intro (by first
              | omega
              | assumption
              | (simp only [St.set_n, St.new_n] at *; omega)
              | (simp; done)
              | (simp; omega)
              | (intro _; exact trivial)
              | (intro _; intro _ _; exact trivial)
              | (intro _; intro j hj; first | rfl | (have hj' : j < 1 := hj
                                                     obtain rfl : j = 0 := by omega
                                                     exact ⟨rfl, rfl⟩))
              | (intro j hj; obtain rfl : j = 0 := by omega
                 first | exact ⟨rfl, rfl⟩ | exact .inl ⟨rfl, rfl⟩ | exact .inr (by omega) | exact ⟨by assumption, by assumption⟩ | assumption | trivial)
              | exact .inr (by assumption)
              | (intro j hj; exact .inr (by simp only [St.set_n, St.new_n] at *; omega))
              | (intro e he; rcases List.mem_singleton.1 he with rfl; exact ⟨rfl, rfl⟩)
              | (rw [St.set_ne _ _ (by first | assumption | omega | (simp only [St.set_n, St.new_n] at *; omega))]; assumption)
              | (rw [St.set_ne _ _ (by first | assumption | omega | (simp only [St.set_n, St.new_n] at *; omega)), St.set_ne _ _ (by first | assumption | omega | (simp only [St.set_n, St.new_n] at *; omega))]; assumption)
              | (simp only [decide_eq_true_eq, decide_eq_false_iff_not, Bool.not_eq_true, beq_iff_eq, beq_eq_false_iff_ne, ne_eq, ge_iff_le, gt_iff_lt] at *; omega)) ?_; conv => whnf)
          | (rw [St.set_same]; conv => whnf)
          | (rw [St.new_same]; conv => whnf)
          | (rw [St.set_ne _ _ (by first | assumption | omega | (simp only [St.set_n, St.new_n] at *; omega))]; conv => whnf)
          | (rw [St.new_ne _ _ (by first | assumption | omega | (simp only [St.set_n, St.new_n] at *; omega))]; conv => whnf))
      exact Fin.of ⟨rfl, congrArg (fun z => AEnd.ret (A.bool z)) (by simp [isWord, hsp])⟩
    | false =>
      conv => whnf
      repeat' (first
          | (refine Bc_t ?_; conv => whnf)
          | (refine Bc_f ?_; conv => whnf)
          | (rw [g1]; conv => whnf)
          | (rw [g2]; conv => whnf)
          | (rw [g3]; conv => whnf)
          | (rw [g4]; conv => whnf)
          | (rw [g5]; conv => whnf)
          | (rw [g6]; conv => whnf)
          | (rw [hr]; conv => whnf)
          | (refine Bc_split (fun hb => ?_) (fun hb => ?_) <;> (rw [hb]; conv => whnf))
          | (refine And.intro (by first
              | omega
              | assumption
              | (simp only [St.set_n, St.new_n] at *; omega)
              | (simp; done)
              | (simp; omega)
              | (intro _; exact trivial)
              | (intro _; intro _ _; exact trivial)
              | (intro _; intro j hj; first | rfl | (have hj' : j < 1 := hj
                                                     obtain rfl : j = 0 := by omega
                                                     exact ⟨rfl, rfl⟩))
              | (intro j hj; obtain rfl : j = 0 := by omega
                 first | exact ⟨rfl, rfl⟩ | exact .inl ⟨rfl, rfl⟩ | exact .inr (by omega) | exact ⟨by assumption, by assumption⟩ | assumption | trivial)
              | exact .inr (by assumption)
              | (intro j hj; exact .inr (by simp only [St.set_n, St.new_n] at *; omega))
              | (intro e he; rcases List.mem_singleton.1 he with rfl; exact ⟨rfl, rfl⟩)
              | (rw [St.set_ne _ _ (by first | assumption | omega | (simp only [St.set_n, St.new_n] at *; omega))]; assumption)
              | (rw [St.set_ne _ _ (by first | assumption | omega | (simp only [St.set_n, St.new_n] at *; omega)), St.set_ne _ _ (by first | assumption | omega | (simp only [St.set_n, St.new_n] at *; omega))]; assumption)
              | (simp only [decide_eq_true_eq, decide_eq_false_iff_not, Bool.not_eq_true, beq_iff_eq, beq_eq_false_iff_ne, ne_eq, ge_iff_le, gt_iff_lt] at *; omega)) ?_; conv => whnf)
          | (rw [St.set_same]; conv => whnf)
          | (rw [St.new_same]; conv => whnf)
          | (rw [St.set_ne _ _ (by first | assumption | omega | (simp only [St.set_n, St.new_n] at *; omega))]; conv => whnf)
          | (rw [St.new_ne _ _ (by first | assumption | omega | (simp only [St.set_n, St.new_n] at *; omega))]; conv => whnf))
      refine ACallsW.of (contains_ok wordsText (([32] ++ s) ++ [32]) words_len _ hB Non) (fun _ _ _ h => h.elim) ?_
      rintro _ _ _ ⟨rfl, rfl⟩
      conv => whnf
      repeat' (first
          | (refine Bc_t ?_; conv => whnf)
          | (refine Bc_f ?_; conv => whnf)
          | (rw [g1]; conv => whnf)
          | (rw [g2]; conv => whnf)
          | (rw [g3]; conv => whnf)
          | (rw [g4]; conv => whnf)
          | (rw [g5]; conv => whnf)
          | (rw [g6]; conv => whnf)
          | (rw [hr]; conv => whnf)
          | (refine Bc_split (fun hb => ?_) (fun hb => ?_) <;> (rw [hb]; conv => whnf))
          | (refine And.intro (by first
              | omega
              | assumption
              | (simp only [St.set_n, St.new_n] at *; omega)
              | (simp; done)
              | (simp; omega)
              | (intro _; exact trivial)
              | (intro _; intro _ _; exact trivial)
              | (intro _; intro j hj; first | rfl | (have hj' : j < 1 := hj
                                                     obtain rfl : j = 0 := by omega
                                                     exact ⟨rfl, rfl⟩))
              | (intro j hj; obtain rfl : j = 0 := by omega
                 first | exact ⟨rfl, rfl⟩ | exact .inl ⟨rfl, rfl⟩ | exact .inr (by omega) | exact ⟨by assumption, by assumption⟩ | assumption | trivial)
              | exact .inr (by assumption)
              | (intro j hj; exact .inr (by simp only [St.set_n, St.new_n] at *; omega))
              | (intro e he; rcases List.mem_singleton.1 he with rfl; exact ⟨rfl, rfl⟩)
              | (rw [St.set_ne _ _ (by first | assumption | omega | (simp only [St.set_n, St.new_n] at *; omega))]; assumption)
              | (rw [St.set_ne _ _ (by first | assumption | omega | (simp only [St.set_n, St.new_n] at *; omega)), St.set_ne _ _ (by first | assumption | omega | (simp only [St.set_n, St.new_n] at *; omega))]; assumption)
              | (simp only [decide_eq_true_eq, decide_eq_false_iff_not, Bool.not_eq_true, beq_iff_eq, beq_eq_false_iff_ne, ne_eq, ge_iff_le, gt_iff_lt] at *; omega)) ?_; conv => whnf)
          | (rw [St.set_same]; conv => whnf)
          | (rw [St.new_same]; conv => whnf)
          | (rw [St.set_ne _ _ (by first | assumption | omega | (simp only [St.set_n, St.new_n] at *; omega))]; conv => whnf)
          | (rw [St.new_ne _ _ (by first | assumption | omega | (simp only [St.set_n, St.new_n] at *; omega))]; conv => whnf))
      exact Fin.of ⟨rfl, congrArg (fun z => AEnd.ret (A.bool z)) (by simp only [isWord, hsp, hb]; simp)⟩
  · exact Fin.of ⟨rfl, congrArg (fun z => AEnd.ret (A.bool z)) (by simp only [isWord, hb]; simp)⟩

theorem number_ok (s : List UInt8) (at_ : Nat) (out : A) (r : Nat) (σ : St) (hB : B0 σ.base) (hs : s.length ≤ 4096) (hat : at_ < s.length) (hd : isDigit (s.getD at_ 0) = true) (hr : σ.obj r = rd s at_ out) :
    ACalls Tryd.prog 40 [.ptr r 0] σ (AtOf r) (fun e σ' => match numOf ((s.drop at_).take (nameLen (s.drop at_))) with
      | .ok v => σ' = σ.set r (rd s (at_ + nameLen (s.drop at_)) out) ∧ e = .ret (.int .i64 v)
      | .error k => e = .pan (bad (if k = 5 then 20 else k) at_)) := by
  have hn : nameLen (s.drop at_) = 1 + nameLen (s.drop (at_ + 1)) := nameLen_step hat (by unfold isName; rw [hd]; simp)
  have ht : (s.drop at_).take (nameLen (s.drop at_)) = s.getD at_ 0 :: (s.drop (at_ + 1)).take (nameLen (s.drop (at_ + 1))) := by
    rw [hn, one_drop hat, Nat.add_comm, List.take_succ_cons]
  have hle : nameLen (s.drop at_) ≤ s.length - at_ := by
    rw [← List.length_drop]; exact (List.takeWhile_sublist _).length_le
  refine acalls_go mixed Tryd.func40 c_number_ok (Nat.le_of_ble_eq_true rfl) ?_
  unfold rd at hr
  conv => whnf
  repeat' (first
      | (refine Bc_t ?_; conv => whnf)
      | (refine Bc_f ?_; conv => whnf)
      | (rw [g1]; conv => whnf)
      | (rw [g2]; conv => whnf)
      | (rw [g3]; conv => whnf)
      | (rw [g4]; conv => whnf)
      | (rw [g5]; conv => whnf)
      | (rw [g6]; conv => whnf)
      | (rw [hr]; conv => whnf)
      | (refine Bc_split (fun hb => ?_) (fun hb => ?_) <;> (rw [hb]; conv => whnf))
      | (refine And.intro (by first
          | omega
          | assumption
          | (simp only [St.set_n, St.new_n] at *; omega)
          | (simp; done)
          | (simp; omega)
          | (intro _; exact trivial)
          | (intro _; intro _ _; exact trivial)
          | (intro _; intro j hj; first | rfl | (have hj' : j < 1 := hj
                                                 obtain rfl : j = 0 := by omega
                                                 exact ⟨rfl, rfl⟩))
          | (intro j hj; obtain rfl : j = 0 := by omega
             first | exact ⟨rfl, rfl⟩ | exact .inl ⟨rfl, rfl⟩ | exact .inr (by omega) | exact ⟨by assumption, by assumption⟩ | assumption | trivial)
          | exact .inr (by assumption)
          | (intro j hj; exact .inr (by simp only [St.set_n, St.new_n] at *; omega))
          | (intro e he; rcases List.mem_singleton.1 he with rfl; exact ⟨rfl, rfl⟩)
          | (rw [St.set_ne _ _ (by first | assumption | omega | (simp only [St.set_n, St.new_n] at *; omega))]; assumption)
          | (rw [St.set_ne _ _ (by first | assumption | omega | (simp only [St.set_n, St.new_n] at *; omega)), St.set_ne _ _ (by first | assumption | omega | (simp only [St.set_n, St.new_n] at *; omega))]; assumption)
          | (simp only [decide_eq_true_eq, decide_eq_false_iff_not, Bool.not_eq_true, beq_iff_eq, beq_eq_false_iff_ne, ne_eq, ge_iff_le, gt_iff_lt] at *; omega)) ?_; conv => whnf)
      | (rw [St.set_same]; conv => whnf)
      | (rw [St.new_same]; conv => whnf)
      | (rw [St.set_ne _ _ (by first | assumption | omega | (simp only [St.set_n, St.new_n] at *; omega))]; conv => whnf)
      | (rw [St.new_ne _ _ (by first | assumption | omega | (simp only [St.set_n, St.new_n] at *; omega))]; conv => whnf))
  refine ACallsW.of (run_ok s at_ out r _ hs (by omega) hr) (fun _ _ _ h => h) ?_
  rintro _ _ _ ⟨rfl, rfl⟩
  conv => whnf
  rw [ht]
  refine ACallsW.of (parse_ok _ _ hd (by rw [← ht, List.length_take, List.length_drop]; omega) _ (by rw [St.set_base]; exact hB) Non) (fun _ _ _ h => h.elim) ?_
  rintro _ _ _ ⟨rfl, hR⟩
  cases hnu : numOf (s.getD at_ 0 :: (s.drop (at_ + 1)).take (nameLen (s.drop (at_ + 1)))) with
  | ok v =>
    rw [hnu] at hR
    simp only at hR
    subst hR
    conv => whnf
    repeat' (first
        | (refine Bc_t ?_; conv => whnf)
        | (refine Bc_f ?_; conv => whnf)
        | (rw [g1]; conv => whnf)
        | (rw [g2]; conv => whnf)
        | (rw [g3]; conv => whnf)
        | (rw [g4]; conv => whnf)
        | (rw [g5]; conv => whnf)
        | (rw [g6]; conv => whnf)
        | (rw [hr]; conv => whnf)
        | (refine Bc_split (fun hb => ?_) (fun hb => ?_) <;> (rw [hb]; conv => whnf))
        | (refine And.intro (by first
            | omega
            | assumption
            | (simp only [St.set_n, St.new_n] at *; omega)
            | (simp; done)
            | (simp; omega)
            | (intro _; exact trivial)
            | (intro _; intro _ _; exact trivial)
            | (intro _; intro j hj; first | rfl | (have hj' : j < 1 := hj
                                                   obtain rfl : j = 0 := by omega
                                                   exact ⟨rfl, rfl⟩))
            | (intro j hj; obtain rfl : j = 0 := by omega
               first | exact ⟨rfl, rfl⟩ | exact .inl ⟨rfl, rfl⟩ | exact .inr (by omega) | exact ⟨by assumption, by assumption⟩ | assumption | trivial)
            | exact .inr (by assumption)
            | (intro j hj; exact .inr (by simp only [St.set_n, St.new_n] at *; omega))
            | (intro e he; rcases List.mem_singleton.1 he with rfl; exact ⟨rfl, rfl⟩)
            | (rw [St.set_ne _ _ (by first | assumption | omega | (simp only [St.set_n, St.new_n] at *; omega))]; assumption)
            | (rw [St.set_ne _ _ (by first | assumption | omega | (simp only [St.set_n, St.new_n] at *; omega)), St.set_ne _ _ (by first | assumption | omega | (simp only [St.set_n, St.new_n] at *; omega))]; assumption)
            | (simp only [decide_eq_true_eq, decide_eq_false_iff_not, Bool.not_eq_true, beq_iff_eq, beq_eq_false_iff_ne, ne_eq, ge_iff_le, gt_iff_lt] at *; omega)) ?_; conv => whnf)
        | (rw [St.set_same]; conv => whnf)
        | (rw [St.new_same]; conv => whnf)
        | (rw [St.set_ne _ _ (by first | assumption | omega | (simp only [St.set_n, St.new_n] at *; omega))]; conv => whnf)
        | (rw [St.new_ne _ _ (by first | assumption | omega | (simp only [St.set_n, St.new_n] at *; omega))]; conv => whnf))
    refine ACallsW.of (num_ok v (numOf_ok hnu) _ Non) (fun _ _ _ h => h.elim) ?_
    rintro _ _ _ ⟨rfl, rfl⟩
    conv => whnf
    repeat' (first
        | (refine Bc_t ?_; conv => whnf)
        | (refine Bc_f ?_; conv => whnf)
        | (rw [g1]; conv => whnf)
        | (rw [g2]; conv => whnf)
        | (rw [g3]; conv => whnf)
        | (rw [g4]; conv => whnf)
        | (rw [g5]; conv => whnf)
        | (rw [g6]; conv => whnf)
        | (rw [hr]; conv => whnf)
        | (refine Bc_split (fun hb => ?_) (fun hb => ?_) <;> (rw [hb]; conv => whnf))
        | (refine And.intro (by first
            | omega
            | assumption
            | (simp only [St.set_n, St.new_n] at *; omega)
            | (simp; done)
            | (simp; omega)
            | (intro _; exact trivial)
            | (intro _; intro _ _; exact trivial)
            | (intro _; intro j hj; first | rfl | (have hj' : j < 1 := hj
                                                   obtain rfl : j = 0 := by omega
                                                   exact ⟨rfl, rfl⟩))
            | (intro j hj; obtain rfl : j = 0 := by omega
               first | exact ⟨rfl, rfl⟩ | exact .inl ⟨rfl, rfl⟩ | exact .inr (by omega) | exact ⟨by assumption, by assumption⟩ | assumption | trivial)
            | exact .inr (by assumption)
            | (intro j hj; exact .inr (by simp only [St.set_n, St.new_n] at *; omega))
            | (intro e he; rcases List.mem_singleton.1 he with rfl; exact ⟨rfl, rfl⟩)
            | (rw [St.set_ne _ _ (by first | assumption | omega | (simp only [St.set_n, St.new_n] at *; omega))]; assumption)
            | (rw [St.set_ne _ _ (by first | assumption | omega | (simp only [St.set_n, St.new_n] at *; omega)), St.set_ne _ _ (by first | assumption | omega | (simp only [St.set_n, St.new_n] at *; omega))]; assumption)
            | (simp only [decide_eq_true_eq, decide_eq_false_iff_not, Bool.not_eq_true, beq_iff_eq, beq_eq_false_iff_ne, ne_eq, ge_iff_le, gt_iff_lt] at *; omega)) ?_; conv => whnf)
        | (rw [St.set_same]; conv => whnf)
        | (rw [St.new_same]; conv => whnf)
        | (rw [St.set_ne _ _ (by first | assumption | omega | (simp only [St.set_n, St.new_n] at *; omega))]; conv => whnf)
        | (rw [St.new_ne _ _ (by first | assumption | omega | (simp only [St.set_n, St.new_n] at *; omega))]; conv => whnf))
    exact Fin.of ⟨rfl, rfl⟩
  | error k =>
    rw [hnu] at hR
    simp only at hR
    subst hR
    rcases numOf_err hnu with rfl | rfl
    · conv => whnf
      repeat' (first
          | (refine Bc_t ?_; conv => whnf)
          | (refine Bc_f ?_; conv => whnf)
          | (rw [g1]; conv => whnf)
          | (rw [g2]; conv => whnf)
          | (rw [g3]; conv => whnf)
          | (rw [g4]; conv => whnf)
          | (rw [g5]; conv => whnf)
          | (rw [g6]; conv => whnf)
          | (rw [hr]; conv => whnf)
          | (refine Bc_split (fun hb => ?_) (fun hb => ?_) <;> (rw [hb]; conv => whnf))
          | (refine And.intro (by first
              | omega
              | assumption
              | (simp only [St.set_n, St.new_n] at *; omega)
              | (simp; done)
              | (simp; omega)
              | (intro _; exact trivial)
              | (intro _; intro _ _; exact trivial)
              | (intro _; intro j hj; first | rfl | (have hj' : j < 1 := hj
                                                     obtain rfl : j = 0 := by omega
                                                     exact ⟨rfl, rfl⟩))
              | (intro j hj; obtain rfl : j = 0 := by omega
                 first | exact ⟨rfl, rfl⟩ | exact .inl ⟨rfl, rfl⟩ | exact .inr (by omega) | exact ⟨by assumption, by assumption⟩ | assumption | trivial)
              | exact .inr (by assumption)
              | (intro j hj; exact .inr (by simp only [St.set_n, St.new_n] at *; omega))
              | (intro e he; rcases List.mem_singleton.1 he with rfl; exact ⟨rfl, rfl⟩)
              | (rw [St.set_ne _ _ (by first | assumption | omega | (simp only [St.set_n, St.new_n] at *; omega))]; assumption)
              | (rw [St.set_ne _ _ (by first | assumption | omega | (simp only [St.set_n, St.new_n] at *; omega)), St.set_ne _ _ (by first | assumption | omega | (simp only [St.set_n, St.new_n] at *; omega))]; assumption)
              | (simp only [decide_eq_true_eq, decide_eq_false_iff_not, Bool.not_eq_true, beq_iff_eq, beq_eq_false_iff_ne, ne_eq, ge_iff_le, gt_iff_lt] at *; omega)) ?_; conv => whnf)
          | (rw [St.set_same]; conv => whnf)
          | (rw [St.new_same]; conv => whnf)
          | (rw [St.set_ne _ _ (by first | assumption | omega | (simp only [St.set_n, St.new_n] at *; omega))]; conv => whnf)
          | (rw [St.new_ne _ _ (by first | assumption | omega | (simp only [St.set_n, St.new_n] at *; omega))]; conv => whnf))
      exact Fin.of rfl
    · conv => whnf
      repeat' (first
          | (refine Bc_t ?_; conv => whnf)
          | (refine Bc_f ?_; conv => whnf)
          | (rw [g1]; conv => whnf)
          | (rw [g2]; conv => whnf)
          | (rw [g3]; conv => whnf)
          | (rw [g4]; conv => whnf)
          | (rw [g5]; conv => whnf)
          | (rw [g6]; conv => whnf)
          | (rw [hr]; conv => whnf)
          | (refine Bc_split (fun hb => ?_) (fun hb => ?_) <;> (rw [hb]; conv => whnf))
          | (refine And.intro (by first
              | omega
              | assumption
              | (simp only [St.set_n, St.new_n] at *; omega)
              | (simp; done)
              | (simp; omega)
              | (intro _; exact trivial)
              | (intro _; intro _ _; exact trivial)
              | (intro _; intro j hj; first | rfl | (have hj' : j < 1 := hj
                                                     obtain rfl : j = 0 := by omega
                                                     exact ⟨rfl, rfl⟩))
              | (intro j hj; obtain rfl : j = 0 := by omega
                 first | exact ⟨rfl, rfl⟩ | exact .inl ⟨rfl, rfl⟩ | exact .inr (by omega) | exact ⟨by assumption, by assumption⟩ | assumption | trivial)
              | exact .inr (by assumption)
              | (intro j hj; exact .inr (by simp only [St.set_n, St.new_n] at *; omega))
              | (intro e he; rcases List.mem_singleton.1 he with rfl; exact ⟨rfl, rfl⟩)
              | (rw [St.set_ne _ _ (by first | assumption | omega | (simp only [St.set_n, St.new_n] at *; omega))]; assumption)
              | (rw [St.set_ne _ _ (by first | assumption | omega | (simp only [St.set_n, St.new_n] at *; omega)), St.set_ne _ _ (by first | assumption | omega | (simp only [St.set_n, St.new_n] at *; omega))]; assumption)
              | (simp only [decide_eq_true_eq, decide_eq_false_iff_not, Bool.not_eq_true, beq_iff_eq, beq_eq_false_iff_ne, ne_eq, ge_iff_le, gt_iff_lt] at *; omega)) ?_; conv => whnf)
          | (rw [St.set_same]; conv => whnf)
          | (rw [St.new_same]; conv => whnf)
          | (rw [St.set_ne _ _ (by first | assumption | omega | (simp only [St.set_n, St.new_n] at *; omega))]; conv => whnf)
          | (rw [St.new_ne _ _ (by first | assumption | omega | (simp only [St.set_n, St.new_n] at *; omega))]; conv => whnf))
      exact Fin.of rfl

theorem sign_ok (s : List UInt8) (at_ : Nat) (out : A) (r : Nat) (σ : St) (hB : B0 σ.base) (hs : s.length ≤ 4096) (hat : at_ ≤ s.length) (hr : σ.obj r = rd s at_ out) :
    ACalls Tryd.prog 42 [.ptr r 0] σ (AtOf r) (fun e σ' => if signOf (s.drop at_) = [] then e = .pan (bad 20 at_) else
      σ' = σ.set r (rd s (at_ + (signOf (s.drop at_)).length) out) ∧ e = .ret (.str (signOf (s.drop at_)))) := by
  unfold rd at hr
  refine acalls_go mixed Tryd.func42 c_sign_ok (Nat.le_of_ble_eq_true rfl) ?_
  conv => whnf
  refine ACallsW.of (fields_ok signsText (by decide +kernel) (by decide +kernel) _ hB Non) (fun _ _ _ h => h.elim) ?_
  rintro _ σ' _ ⟨hσ', rfl⟩
  have hσ2 := hσ'.symm
  subst hσ2
  rw [signs_fields]
  conv => whnf
  unfold ALoop
  refine ⟨fun k env σ1 => ∃ j : Nat, k = signL.length - j ∧ j ≤ signL.length ∧ σ1 = σ ∧
      env = [(0, .ptr r 0), (6, .sl .full 1 (signL.map A.str)), (7, .int .i64 33), (8, .int .i64 j), (3, .str ((signL.take j).foldl (better (s.drop at_)) []))], _,
    [(0, .ptr r 0), (6, .sl .full 1 (signL.map A.str)), (7, .int .i64 33), (8, .int .i64 0), (3, .str [])], ⟨rfl, rfl, rfl, rfl, rfl, trivial⟩, ⟨0, rfl, by omega, rfl, rfl⟩, ?_⟩
  rintro k env σ1 ⟨j, rfl, hj, rfl, rfl⟩
  have hlen : signL.length = 33 := by decide +kernel
  by_cases hlt : j < 33
  · obtain ⟨x, hx⟩ : ∃ x, signL[j]? = some x := ⟨_, List.getElem?_eq_getElem (by omega)⟩
    have g1 : (signL.map A.str)[(j : Int).toNat]? = some (A.str x) := by
      show (signL.map A.str)[j]? = _
      rw [List.getElem?_map, hx]
      rfl
    have hstep : (signL.take (j + 1)).foldl (better (s.drop at_)) [] = better (s.drop at_) ((signL.take j).foldl (better (s.drop at_)) []) x := by
      rw [List.take_add_one, hx, List.foldl_append]
      rfl
    have g2 : decide ((j : Int) < 33) = true := by simp; omega
    generalize (signL.take j).foldl (better (s.drop at_)) [] = best at hstep ⊢
    conv => whnf
    repeat' (first
        | (refine Bc_t ?_; conv => whnf)
        | (refine Bc_f ?_; conv => whnf)
        | (rw [g1]; conv => whnf)
        | (rw [g2]; conv => whnf)
        | (rw [g3]; conv => whnf)
        | (rw [g4]; conv => whnf)
        | (rw [g5]; conv => whnf)
        | (rw [g6]; conv => whnf)
        | (rw [hr]; conv => whnf)
        | (refine Bc_split (fun hb => ?_) (fun hb => ?_) <;> (rw [hb]; conv => whnf))
        | (refine And.intro (by first
            | omega
            | assumption
            | (simp only [St.set_n, St.new_n] at *; omega)
            | (simp; done)
            | (simp; omega)
            | (intro _; exact trivial)
            | (intro _; intro _ _; exact trivial)
            | (intro _; intro j hj; first | rfl | (have hj' : j < 1 := hj
                                                   obtain rfl : j = 0 := by omega
                                                   exact ⟨rfl, rfl⟩))
            | (intro j hj; obtain rfl : j = 0 := by omega
               first | exact ⟨rfl, rfl⟩ | exact .inl ⟨rfl, rfl⟩ | exact .inr (by omega) | exact ⟨by assumption, by assumption⟩ | assumption | trivial)
            | exact .inr (by assumption)
            | (intro j hj; exact .inr (by simp only [St.set_n, St.new_n] at *; omega))
            | (intro e he; rcases List.mem_singleton.1 he with rfl; exact ⟨rfl, rfl⟩)
            | (rw [St.set_ne _ _ (by first | assumption | omega | (simp only [St.set_n, St.new_n] at *; omega))]; assumption)
            | (rw [St.set_ne _ _ (by first | assumption | omega | (simp only [St.set_n, St.new_n] at *; omega)), St.set_ne _ _ (by first | assumption | omega | (simp only [St.set_n, St.new_n] at *; omega))]; assumption)
            | (simp only [decide_eq_true_eq, decide_eq_false_iff_not, Bool.not_eq_true, beq_iff_eq, beq_eq_false_iff_ne, ne_eq, ge_iff_le, gt_iff_lt] at *; omega)) ?_; conv => whnf)
        | (rw [St.set_same]; conv => whnf)
        | (rw [St.new_same]; conv => whnf)
        | (rw [St.set_ne _ _ (by first | assumption | omega | (simp only [St.set_n, St.new_n] at *; omega))]; conv => whnf)
        | (rw [St.new_ne _ _ (by first | assumption | omega | (simp only [St.set_n, St.new_n] at *; omega))]; conv => whnf))
    · refine ACallsW.of (has_ok s x at_ out r _ hs hat hr Non) (fun _ _ _ h => h.elim) ?_
      rintro _ σ'' _ ⟨hσ3, rfl⟩
      have hσ4 := hσ3.symm
      subst hσ4
      cases hpre : x.isPrefixOf (s.drop at_) with
      | false =>
        conv => whnf
        repeat' (first
            | (refine Bc_t ?_; conv => whnf)
            | (refine Bc_f ?_; conv => whnf)
            | (rw [g1]; conv => whnf)
            | (rw [g2]; conv => whnf)
            | (rw [g3]; conv => whnf)
            | (rw [g4]; conv => whnf)
            | (rw [g5]; conv => whnf)
            | (rw [g6]; conv => whnf)
            | (rw [hr]; conv => whnf)
            | (refine Bc_split (fun hb => ?_) (fun hb => ?_) <;> (rw [hb]; conv => whnf))
            | (refine And.intro (by first
                | omega
                | assumption
                | (simp only [St.set_n, St.new_n] at *; omega)
                | (simp; done)
                | (simp; omega)
                | (intro _; exact trivial)
                | (intro _; intro _ _; exact trivial)
                | (intro _; intro j hj; first | rfl | (have hj' : j < 1 := hj
                                                       obtain rfl : j = 0 := by omega
                                                       exact ⟨rfl, rfl⟩))
                | (intro j hj; obtain rfl : j = 0 := by omega
                   first | exact ⟨rfl, rfl⟩ | exact .inl ⟨rfl, rfl⟩ | exact .inr (by omega) | exact ⟨by assumption, by assumption⟩ | assumption | trivial)
                | exact .inr (by assumption)
                | (intro j hj; exact .inr (by simp only [St.set_n, St.new_n] at *; omega))
                | (intro e he; rcases List.mem_singleton.1 he with rfl; exact ⟨rfl, rfl⟩)
                | (rw [St.set_ne _ _ (by first | assumption | omega | (simp only [St.set_n, St.new_n] at *; omega))]; assumption)
                | (rw [St.set_ne _ _ (by first | assumption | omega | (simp only [St.set_n, St.new_n] at *; omega)), St.set_ne _ _ (by first | assumption | omega | (simp only [St.set_n, St.new_n] at *; omega))]; assumption)
                | (simp only [decide_eq_true_eq, decide_eq_false_iff_not, Bool.not_eq_true, beq_iff_eq, beq_eq_false_iff_ne, ne_eq, ge_iff_le, gt_iff_lt] at *; omega)) ?_; conv => whnf)
            | (rw [St.set_same]; conv => whnf)
            | (rw [St.new_same]; conv => whnf)
            | (rw [St.set_ne _ _ (by first | assumption | omega | (simp only [St.set_n, St.new_n] at *; omega))]; conv => whnf)
            | (rw [St.new_ne _ _ (by first | assumption | omega | (simp only [St.set_n, St.new_n] at *; omega))]; conv => whnf))
        refine ⟨_, [(0, .ptr r 0), (6, .sl .full 1 (signL.map A.str)), (7, .int .i64 33), (8, .int .i64 (j + 1 : Nat)), (3, .str best)], ?_, ⟨rfl, rfl, rfl, int_eq (by rw [w64 (by omega) (by omega)]; omega), rfl, trivial⟩, j + 1, rfl, by omega, rfl, ?_⟩
        · omega
        · rw [hstep]
          unfold better
          rw [hpre]
          rfl
      | true =>
        conv => whnf
        repeat' (first
            | (refine Bc_t ?_; conv => whnf)
            | (refine Bc_f ?_; conv => whnf)
            | (rw [g1]; conv => whnf)
            | (rw [g2]; conv => whnf)
            | (rw [g3]; conv => whnf)
            | (rw [g4]; conv => whnf)
            | (rw [g5]; conv => whnf)
            | (rw [g6]; conv => whnf)
            | (rw [hr]; conv => whnf)
            | (refine Bc_split (fun hb => ?_) (fun hb => ?_) <;> (rw [hb]; conv => whnf))
            | (refine And.intro (by first
                | omega
                | assumption
                | (simp only [St.set_n, St.new_n] at *; omega)
                | (simp; done)
                | (simp; omega)
                | (intro _; exact trivial)
                | (intro _; intro _ _; exact trivial)
                | (intro _; intro j hj; first | rfl | (have hj' : j < 1 := hj
                                                       obtain rfl : j = 0 := by omega
                                                       exact ⟨rfl, rfl⟩))
                | (intro j hj; obtain rfl : j = 0 := by omega
                   first | exact ⟨rfl, rfl⟩ | exact .inl ⟨rfl, rfl⟩ | exact .inr (by omega) | exact ⟨by assumption, by assumption⟩ | assumption | trivial)
                | exact .inr (by assumption)
                | (intro j hj; exact .inr (by simp only [St.set_n, St.new_n] at *; omega))
                | (intro e he; rcases List.mem_singleton.1 he with rfl; exact ⟨rfl, rfl⟩)
                | (rw [St.set_ne _ _ (by first | assumption | omega | (simp only [St.set_n, St.new_n] at *; omega))]; assumption)
                | (rw [St.set_ne _ _ (by first | assumption | omega | (simp only [St.set_n, St.new_n] at *; omega)), St.set_ne _ _ (by first | assumption | omega | (simp only [St.set_n, St.new_n] at *; omega))]; assumption)
                | (simp only [decide_eq_true_eq, decide_eq_false_iff_not, Bool.not_eq_true, beq_iff_eq, beq_eq_false_iff_ne, ne_eq, ge_iff_le, gt_iff_lt] at *; omega)) ?_; conv => whnf)
            | (rw [St.set_same]; conv => whnf)
            | (rw [St.new_same]; conv => whnf)
            | (rw [St.set_ne _ _ (by first | assumption | omega | (simp only [St.set_n, St.new_n] at *; omega))]; conv => whnf)
            | (rw [St.new_ne _ _ (by first | assumption | omega | (simp only [St.set_n, St.new_n] at *; omega))]; conv => whnf))
        · refine ⟨_, [(0, .ptr r 0), (6, .sl .full 1 (signL.map A.str)), (7, .int .i64 33), (8, .int .i64 (j + 1 : Nat)), (3, .str x)], ?_, ⟨rfl, rfl, rfl, int_eq (by rw [w64 (by omega) (by omega)]; omega), rfl, trivial⟩, j + 1, rfl, by omega, rfl, ?_⟩
          · omega
          · rw [hstep]
            unfold better
            have hgt := of_decide_eq_true hb
            rw [hpre, if_pos (by simp; omega)]
        · refine ⟨_, [(0, .ptr r 0), (6, .sl .full 1 (signL.map A.str)), (7, .int .i64 33), (8, .int .i64 (j + 1 : Nat)), (3, .str best)], ?_, ⟨rfl, rfl, rfl, int_eq (by rw [w64 (by omega) (by omega)]; omega), rfl, trivial⟩, j + 1, rfl, by omega, rfl, ?_⟩
          · omega
          · rw [hstep]
            unfold better
            have hgt := of_decide_eq_false hb
            rw [hpre, if_neg (by simp; omega)]
  · obtain rfl : j = 33 := by omega
    have hall : (signL.take 33).foldl (better (s.drop at_)) [] = signOf (s.drop at_) := by rw [← hlen, List.take_length]; rfl
    have hsl := signOf_len (s.drop at_)
    rw [hall]
    generalize signOf (s.drop at_) = best at hsl ⊢
    conv => whnf
    repeat' (first
        | (refine Bc_t ?_; conv => whnf)
        | (refine Bc_f ?_; conv => whnf)
        | (rw [g1]; conv => whnf)
        | (rw [g2]; conv => whnf)
        | (rw [g3]; conv => whnf)
        | (rw [g4]; conv => whnf)
        | (rw [g5]; conv => whnf)
        | (rw [g6]; conv => whnf)
        | (rw [hr]; conv => whnf)
        | (refine Bc_split (fun hb => ?_) (fun hb => ?_) <;> (rw [hb]; conv => whnf))
        | (refine And.intro (by first
            | omega
            | assumption
            | (simp only [St.set_n, St.new_n] at *; omega)
            | (simp; done)
            | (simp; omega)
            | (intro _; exact trivial)
            | (intro _; intro _ _; exact trivial)
            | (intro _; intro j hj; first | rfl | (have hj' : j < 1 := hj
                                                   obtain rfl : j = 0 := by omega
                                                   exact ⟨rfl, rfl⟩))
            | (intro j hj; obtain rfl : j = 0 := by omega
               first | exact ⟨rfl, rfl⟩ | exact .inl ⟨rfl, rfl⟩ | exact .inr (by omega) | exact ⟨by assumption, by assumption⟩ | assumption | trivial)
            | exact .inr (by assumption)
            | (intro j hj; exact .inr (by simp only [St.set_n, St.new_n] at *; omega))
            | (intro e he; rcases List.mem_singleton.1 he with rfl; exact ⟨rfl, rfl⟩)
            | (rw [St.set_ne _ _ (by first | assumption | omega | (simp only [St.set_n, St.new_n] at *; omega))]; assumption)
            | (rw [St.set_ne _ _ (by first | assumption | omega | (simp only [St.set_n, St.new_n] at *; omega)), St.set_ne _ _ (by first | assumption | omega | (simp only [St.set_n, St.new_n] at *; omega))]; assumption)
            | (simp only [decide_eq_true_eq, decide_eq_false_iff_not, Bool.not_eq_true, beq_iff_eq, beq_eq_false_iff_ne, ne_eq, ge_iff_le, gt_iff_lt] at *; omega)) ?_; conv => whnf)
        | (rw [St.set_same]; conv => whnf)
        | (rw [St.new_same]; conv => whnf)
        | (rw [St.set_ne _ _ (by first | assumption | omega | (simp only [St.set_n, St.new_n] at *; omega))]; conv => whnf)
        | (rw [St.new_ne _ _ (by first | assumption | omega | (simp only [St.set_n, St.new_n] at *; omega))]; conv => whnf))
    · rw [if_pos (by simpa using hb)]
      exact Fin.of rfl
    · rw [if_neg (by simpa using hb)]
      refine Fin.of ⟨congrArg (σ1.set r) (rd_eq ?_), rfl⟩
      rw [w64 (by omega) (by omega)]
      omega
end
end Go.Proofs.YtjeccchbeflddaaDoor.Ga
