/- The reference's lexer: forms, texts, numbers. -/
import Derived.Test.YtjeccchbeflddaaGreatDoorRz1
set_option linter.unusedVariables false
set_option linter.unusedSimpArgs false
namespace Go.Proofs.YtjeccchbeflddaaGreatDoor.Ga
open Lx

def c_zform : SFun := ⟨59, (.seq (.reg [⟨(some 4), (.mov (.const (.int .u8 0))), none⟩, ⟨(some 5), (.mov (.const (.int .i64 0))), none⟩]) (.seq (.seq (.reg [⟨(some 6), (.mov (.tmp 1)), none⟩, ⟨(some 7), (.mov (.tmp 0)), none⟩, ⟨(some 8), (.len .str (.tmp 7)), none⟩, ⟨(some 9), (.bin .geq .none (.tmp 6) (.tmp 8)), none⟩]) (.cond (.tmp 9) (.seq (.reg [⟨(some 4), (.mov (.const (.int .u8 0))), none⟩, ⟨(some 5), (.mov (.const (.int .i64 0))), none⟩]) .ret) .skip)) (.seq (.seq (.reg [⟨(some 10), (.mov (.tmp 0)), none⟩, ⟨(some 11), (.mov (.tmp 1)), none⟩, ⟨(some 12), (.idxStr (.tmp 10) (.tmp 11)), none⟩]) (.block 0 (.seq (.seq (.reg [⟨(some 14), (.bin .eql .none (.tmp 12) (.const (.int .u8 34))), none⟩, ⟨(some 13), (.mov (.tmp 14)), none⟩]) (.cond (.tmp 13) .skip (.reg [⟨(some 15), (.bin .eql .none (.tmp 12) (.const (.int .u8 92))), none⟩, ⟨(some 13), (.mov (.tmp 15)), none⟩]))) (.cond (.tmp 13) (.seq (.reg [⟨(some 16), (.mov (.tmp 0)), none⟩, ⟨(some 17), (.mov (.tmp 1)), none⟩, ⟨(some 18), (.idxStr (.tmp 16) (.tmp 17)), none⟩, ⟨(some 4), (.mov (.tmp 18)), none⟩, ⟨(some 5), (.mov (.const (.int .i64 1))), none⟩]) .ret) (.seq (.reg [⟨(some 20), (.bin .eql .none (.tmp 12) (.const (.int .u8 110))), none⟩, ⟨(some 19), (.mov (.tmp 20)), none⟩]) (.cond (.tmp 19) (.seq (.reg [⟨(some 4), (.mov (.const (.int .u8 10))), none⟩, ⟨(some 5), (.mov (.const (.int .i64 1))), none⟩]) .ret) (.seq (.reg [⟨(some 22), (.bin .eql .none (.tmp 12) (.const (.int .u8 116))), none⟩, ⟨(some 21), (.mov (.tmp 22)), none⟩]) (.cond (.tmp 21) (.seq (.reg [⟨(some 4), (.mov (.const (.int .u8 9))), none⟩, ⟨(some 5), (.mov (.const (.int .i64 1))), none⟩]) .ret) (.seq (.reg [⟨(some 24), (.bin .eql .none (.tmp 12) (.const (.int .u8 120))), none⟩, ⟨(some 23), (.mov (.tmp 24)), none⟩]) (.cond (.tmp 23) (.seq (.reg [⟨(some 25), (.mov (.tmp 1)), none⟩, ⟨(some 26), (.bin .add .none (.tmp 25) (.const (.int .i64 2))), none⟩, ⟨(some 27), (.mov (.tmp 0)), none⟩, ⟨(some 28), (.len .str (.tmp 27)), none⟩, ⟨(some 29), (.bin .lss .none (.tmp 26) (.tmp 28)), none⟩, ⟨(some 30), (.mov (.tmp 29)), none⟩, ⟨(some 31), (.mov (.tmp 0)), (some (30, true))⟩, ⟨(some 32), (.mov (.tmp 1)), (some (30, true))⟩, ⟨(some 33), (.bin .add .none (.tmp 32) (.const (.int .i64 1))), (some (30, true))⟩, ⟨(some 34), (.idxStr (.tmp 31) (.tmp 33)), (some (30, true))⟩, ⟨(some 35), (.call 61 [(.tmp 34)]), (some (30, true))⟩, ⟨(some 36), (.bin .geq .none (.tmp 35) (.const (.int .i64 0))), (some (30, true))⟩, ⟨(some 37), (.pick (.tmp 30) (.tmp 36) (.const (.bool false))), none⟩, ⟨(some 38), (.mov (.tmp 37)), none⟩, ⟨(some 39), (.mov (.tmp 0)), (some (38, true))⟩, ⟨(some 40), (.mov (.tmp 1)), (some (38, true))⟩, ⟨(some 41), (.bin .add .none (.tmp 40) (.const (.int .i64 2))), (some (38, true))⟩, ⟨(some 42), (.idxStr (.tmp 39) (.tmp 41)), (some (38, true))⟩, ⟨(some 43), (.call 61 [(.tmp 42)]), (some (38, true))⟩, ⟨(some 44), (.bin .geq .none (.tmp 43) (.const (.int .i64 0))), (some (38, true))⟩, ⟨(some 45), (.pick (.tmp 38) (.tmp 44) (.const (.bool false))), none⟩]) (.cond (.tmp 45) (.seq (.dreg [(0, ⟨(some 46), (.mov (.tmp 0)), none⟩), (0, ⟨(some 47), (.mov (.tmp 1)), none⟩), (0, ⟨(some 48), (.bin .add .none (.tmp 47) (.const (.int .i64 1))), none⟩), (0, ⟨(some 49), (.idxStr (.tmp 46) (.tmp 48)), none⟩), (0, ⟨(some 52), (.mov (.tmp 0)), none⟩), (0, ⟨(some 53), (.mov (.tmp 1)), none⟩), (0, ⟨(some 54), (.bin .add .none (.tmp 53) (.const (.int .i64 2))), none⟩), (0, ⟨(some 55), (.idxStr (.tmp 52) (.tmp 54)), none⟩), (1, ⟨(some 50), (.call 61 [(.tmp 49)]), none⟩), (0, ⟨(some 51), (.bin .mul .none (.tmp 50) (.const (.int .i64 16))), none⟩), (1, ⟨(some 56), (.call 61 [(.tmp 55)]), none⟩), (0, ⟨(some 57), (.bin .add .none (.tmp 51) (.tmp 56)), none⟩), (0, ⟨(some 58), (.toInt .u8 (.tmp 57)), none⟩), (0, ⟨(some 4), (.mov (.tmp 58)), none⟩), (2, ⟨(some 5), (.mov (.const (.int .i64 3))), none⟩)]) .ret) .skip)) .skip)))))))))) (.seq (.reg [⟨(some 4), (.mov (.const (.int .u8 0))), none⟩, ⟨(some 5), (.mov (.const (.int .i64 0))), none⟩]) .ret)))), [(.tmp 4), (.tmp 5)]⟩
theorem c_zform_ok : cFun Tryz.prog Tryz.f50 = some c_zform := by kernel_rfl
def c_zparse : SFun := ⟨85, (.seq (.reg [⟨(some 2), (.mov (.const (.int .u64 0))), none⟩, ⟨(some 3), (.mov (.const (.int .i64 0))), none⟩]) (.seq (.reg [⟨(some 4), (.mov (.const (.int .i64 0))), none⟩]) (.seq (.reg [⟨(some 10), (.mov (.tmp 0)), none⟩, ⟨(some 11), (.len .str (.tmp 10)), none⟩, ⟨(some 12), (.bin .gtr .none (.tmp 11) (.const (.int .i64 0))), none⟩, ⟨(some 13), (.mov (.tmp 12)), none⟩, ⟨(some 14), (.mov (.tmp 0)), (some (13, true))⟩, ⟨(some 15), (.idxStr (.tmp 14) (.const (.int .i64 0))), (some (13, true))⟩, ⟨(some 16), (.bin .eql .none (.tmp 15) (.const (.int .u8 45))), (some (13, true))⟩, ⟨(some 17), (.pick (.tmp 13) (.tmp 16) (.const (.bool false))), none⟩, ⟨(some 5), (.mov (.tmp 17)), none⟩]) (.seq (.seq (.reg [⟨(some 18), (.mov (.tmp 5)), none⟩]) (.cond (.tmp 18) (.reg [⟨(some 4), (.mov (.const (.int .i64 1))), none⟩]) .skip)) (.seq (.seq (.reg [⟨(some 19), (.mov (.tmp 0)), none⟩, ⟨(some 20), (.len .str (.tmp 19)), none⟩, ⟨(some 21), (.mov (.tmp 4)), none⟩, ⟨(some 22), (.bin .eql .none (.tmp 20) (.tmp 21)), none⟩, ⟨(some 23), (.mov (.tmp 22)), none⟩, ⟨(some 24), (.mov (.tmp 0)), (some (23, false))⟩, ⟨(some 25), (.mov (.tmp 4)), (some (23, false))⟩, ⟨(some 26), (.idxStr (.tmp 24) (.tmp 25)), (some (23, false))⟩, ⟨(some 27), (.bin .eql .none (.tmp 26) (.const (.int .u8 48))), (some (23, false))⟩, ⟨(some 28), (.mov (.tmp 27)), (some (23, false))⟩, ⟨(some 29), (.mov (.tmp 0)), (some (28, true))⟩, ⟨(some 30), (.len .str (.tmp 29)), (some (28, true))⟩, ⟨(some 31), (.mov (.tmp 4)), (some (28, true))⟩, ⟨(some 32), (.bin .add .none (.tmp 31) (.const (.int .i64 1))), (some (28, true))⟩, ⟨(some 33), (.bin .gtr .none (.tmp 30) (.tmp 32)), (some (28, true))⟩, ⟨(some 34), (.mov (.tmp 33)), (some (28, true))⟩, ⟨(some 35), (.mov (.tmp 5)), (some (34, false))⟩, ⟨(some 36), (.pick (.tmp 34) (.const (.bool true)) (.tmp 35)), (some (28, true))⟩, ⟨(some 37), (.pick (.tmp 28) (.tmp 36) (.const (.bool false))), (some (23, false))⟩, ⟨(some 38), (.pick (.tmp 23) (.const (.bool true)) (.tmp 37)), none⟩]) (.cond (.tmp 38) (.seq (.reg [⟨(some 2), (.mov (.const (.int .u64 0))), none⟩, ⟨(some 3), (.mov (.const (.int .i64 5))), none⟩]) .ret) .skip)) (.seq (.seq (.reg [⟨(some 39), (.mov (.tmp 4)), none⟩, ⟨(some 6), (.mov (.tmp 39)), none⟩]) (.block 0 (.loop (.seq (.seq (.reg [⟨(some 40), (.mov (.tmp 6)), none⟩, ⟨(some 41), (.mov (.tmp 0)), none⟩, ⟨(some 42), (.len .str (.tmp 41)), none⟩, ⟨(some 43), (.bin .lss .none (.tmp 40) (.tmp 42)), none⟩]) (.cond (.tmp 43) .skip (.exit 0))) (.seq (.block 1 (.seq (.reg [⟨(some 46), (.mov (.tmp 0)), none⟩, ⟨(some 47), (.mov (.tmp 6)), none⟩, ⟨(some 48), (.idxStr (.tmp 46) (.tmp 47)), none⟩, ⟨(some 49), (.bin .lss .none (.tmp 48) (.const (.int .u8 48))), none⟩, ⟨(some 50), (.mov (.tmp 49)), none⟩, ⟨(some 51), (.mov (.tmp 0)), (some (50, false))⟩, ⟨(some 52), (.mov (.tmp 6)), (some (50, false))⟩, ⟨(some 53), (.idxStr (.tmp 51) (.tmp 52)), (some (50, false))⟩, ⟨(some 54), (.bin .gtr .none (.tmp 53) (.const (.int .u8 57))), (some (50, false))⟩, ⟨(some 55), (.pick (.tmp 50) (.const (.bool true)) (.tmp 54)), none⟩]) (.cond (.tmp 55) (.seq (.reg [⟨(some 2), (.mov (.const (.int .u64 0))), none⟩, ⟨(some 3), (.mov (.const (.int .i64 5))), none⟩]) .ret) .skip))) (.reg [⟨(some 44), (.mov (.tmp 6)), none⟩, ⟨(some 45), (.bin .add .none (.tmp 44) (.const (.int .i64 1))), none⟩, ⟨(some 6), (.mov (.tmp 45)), none⟩])))))) (.seq (.reg [⟨(some 7), (.mov (.const (.int .i64 0))), none⟩]) (.seq (.seq (.reg [⟨(some 56), (.mov (.tmp 4)), none⟩, ⟨(some 8), (.mov (.tmp 56)), none⟩]) (.block 2 (.loop (.seq (.seq (.reg [⟨(some 57), (.mov (.tmp 8)), none⟩, ⟨(some 58), (.mov (.tmp 0)), none⟩, ⟨(some 59), (.len .str (.tmp 58)), none⟩, ⟨(some 60), (.bin .lss .none (.tmp 57) (.tmp 59)), none⟩]) (.cond (.tmp 60) .skip (.exit 2))) (.seq (.block 3 (.seq (.reg [⟨(some 63), (.mov (.tmp 0)), none⟩, ⟨(some 64), (.mov (.tmp 8)), none⟩, ⟨(some 65), (.idxStr (.tmp 63) (.tmp 64)), none⟩, ⟨(some 66), (.bin .sub .none (.tmp 65) (.const (.int .u8 48))), none⟩, ⟨(some 67), (.toInt .i64 (.tmp 66)), none⟩, ⟨(some 9), (.mov (.tmp 67)), none⟩]) (.seq (.seq (.reg [⟨(some 68), (.mov (.tmp 7)), none⟩, ⟨(some 69), (.mov (.tmp 9)), none⟩, ⟨(some 70), (.bin .add .none (.const (.int .i64 (-4611686018427387904))) (.tmp 69)), none⟩, ⟨(some 71), (.bin .quo .none (.tmp 70) (.const (.int .i64 10))), none⟩, ⟨(some 72), (.bin .lss .none (.tmp 68) (.tmp 71)), none⟩]) (.cond (.tmp 72) (.seq (.reg [⟨(some 2), (.mov (.const (.int .u64 0))), none⟩, ⟨(some 3), (.mov (.const (.int .i64 2))), none⟩]) .ret) .skip)) (.reg [⟨(some 73), (.mov (.tmp 7)), none⟩, ⟨(some 74), (.bin .mul .none (.tmp 73) (.const (.int .i64 10))), none⟩, ⟨(some 75), (.mov (.tmp 9)), none⟩, ⟨(some 76), (.bin .sub .none (.tmp 74) (.tmp 75)), none⟩, ⟨(some 7), (.mov (.tmp 76)), none⟩])))) (.reg [⟨(some 61), (.mov (.tmp 8)), none⟩, ⟨(some 62), (.bin .add .none (.tmp 61) (.const (.int .i64 1))), none⟩, ⟨(some 8), (.mov (.tmp 62)), none⟩])))))) (.seq (.seq (.reg [⟨(some 77), (.mov (.tmp 5)), none⟩]) (.cond (.tmp 77) (.seq (.reg [⟨(some 78), (.mov (.tmp 7)), none⟩, ⟨(some 79), (.call 49 [(.tmp 78)]), none⟩, ⟨(some 2), (.mov (.tmp 79)), none⟩, ⟨(some 3), (.mov (.const (.int .i64 0))), none⟩]) .ret) .skip)) (.seq (.seq (.reg [⟨(some 80), (.mov (.tmp 7)), none⟩, ⟨(some 81), (.bin .eql .none (.tmp 80) (.const (.int .i64 (-4611686018427387904)))), none⟩]) (.cond (.tmp 81) (.seq (.reg [⟨(some 2), (.mov (.const (.int .u64 0))), none⟩, ⟨(some 3), (.mov (.const (.int .i64 2))), none⟩]) .ret) .skip)) (.seq (.reg [⟨(some 82), (.mov (.tmp 7)), none⟩, ⟨(some 83), (.bin .sub .none (.const (.int .i64 0)) (.tmp 82)), none⟩, ⟨(some 84), (.call 49 [(.tmp 83)]), none⟩, ⟨(some 2), (.mov (.tmp 84)), none⟩, ⟨(some 3), (.mov (.const (.int .i64 0))), none⟩]) .ret))))))))))), [(.tmp 2), (.tmp 3)]⟩
theorem c_zparse_ok : cFun Tryz.prog Tryz.f35 = some c_zparse := by kernel_rfl

theorem u8_beqz (c v : UInt8) : ((c.toNat : Int) == (v.toNat : Int)) = (c == v) := by
  rw [Bool.eq_iff_iff, beq_iff_eq, beq_iff_eq]
  exact ⟨fun h => UInt8.toNat_inj.1 (by omega), fun h => by rw [h]⟩

def formA (s : List UInt8) (i : Nat) : A := match form (s.drop i) with
  | none => .tup [.int .u8 0, .int .i64 0]
  | some (x, r) => .tup [.int .u8 x.toNat, .int .i64 ((s.length - i - r.length : Nat))]

def parseA (t : List UInt8) : A := match numOf t with
  | .ok v => .tup [.int .u64 (2 * (v : Int) + 1), .int .i64 0]
  | .error e => .tup [.int .u64 0, .int .i64 e]

theorem hexA_cases (c : UInt8) : (hexVal c = none ∧ hexA c = -1) ∨ (∃ x : Nat, x < 16 ∧ hexVal c = some x ∧ hexA c = x) := by
  unfold hexA
  cases h : hexVal c with
  | none => exact .inl ⟨rfl, rfl⟩
  | some x =>
    refine .inr ⟨x, ?_, rfl, rfl⟩
    unfold hexVal at h
    split at h
    · rename_i hd
      simp only [isDigit, Bool.and_eq_true, decide_eq_true_eq] at hd
      injection h with h; omega
    · split at h
      · rename_i hd
        simp only [Bool.and_eq_true, decide_eq_true_eq] at hd
        injection h with h; omega
      · cases h

section
attribute [local irreducible] Bc ACallsW ALoop Fin St.set St.new
set_option maxHeartbeats 4000000 in
theorem zform_ok (s : List UInt8) (i : Nat) (hs : s.length ≤ 10000) (hi : i ≤ s.length) (σ : St) (m) : ACalls Tryz.prog 50 [.str s, .int .i64 i] σ m (fun e σ' => σ' = σ ∧ e = .ret (formA s i)) := by
  refine acalls_go mixed Tryz.func50 c_zform_ok (Nat.le_of_ble_eq_true rfl) ?_
  by_cases hlt : i < s.length
  rotate_left 1
  · obtain rfl : i = s.length := by omega
    have g1 : decide ((s.length : Int) ≥ s.length) = true := decide_eq_true (by omega)
    conv => whnf
    repeat' (first
        | (refine Bc_t ?_; conv => whnf)
        | (refine Bc_f ?_; conv => whnf)
        | (rw [g1]; conv => whnf)
        | (rw [g2]; conv => whnf)
        | (rw [g3]; conv => whnf)
        | (rw [g4]; conv => whnf)
        | (rw [g5]; conv => whnf)
        | (rw [g6]; conv => whnf)
        | (rw [g7]; conv => whnf)
        | (rw [g8]; conv => whnf)
        | (rw [g9]; conv => whnf)
        | (rw [hr]; conv => whnf)
        | (refine Bc_split (fun hb => ?_) (fun hb => ?_) <;> (rw [hb]; conv => whnf))
        | (refine And.intro (by first
            | omega
            | assumption
            | (simp only [St.set_n, St.new_n] at *; omega)
            | (simp; done)
            | (simp; omega)
            | (intro _ _; first | assumption | (simp only [St.set_n, St.new_n] at *; omega))
            | (intro _; exact trivial)
            | (intro _; intro _ _; exact trivial)
            | (intro _; intro j hj; first | rfl | (have hj' : j < 1 := hj
                                                   obtain rfl : j = 0 := by omega
                                                   exact ⟨rfl, rfl⟩))
            | (intro j hj; obtain rfl : j = 0 := by omega
               first | exact ⟨rfl, rfl⟩ | exact .inl ⟨rfl, rfl⟩ | exact .inr (by omega) | exact ⟨by assumption, by assumption⟩ | assumption | trivial)
            | exact .inr (by assumption)
            | (intro j hj; exact .inr (by simp only [St.set_n, St.new_n] at *; omega))
            | (intro e he; rcases List.mem_singleton.1 he with rfl; exact ⟨rfl, rfl⟩)
            | (rw [St.set_ne _ _ (by first | assumption | omega | (simp only [St.set_n, St.new_n] at *; omega))]; assumption)
            | (rw [St.set_ne _ _ (by first | assumption | omega | (simp only [St.set_n, St.new_n] at *; omega)), St.set_ne _ _ (by first | assumption | omega | (simp only [St.set_n, St.new_n] at *; omega))]; assumption)
            | (simp only [decide_eq_true_eq, decide_eq_false_iff_not, Bool.not_eq_true, beq_iff_eq, beq_eq_false_iff_ne, ne_eq, ge_iff_le, gt_iff_lt] at *; omega)) ?_; conv => whnf)
        | (rw [St.set_same]; conv => whnf)
        | (rw [St.new_same]; conv => whnf)
        | (rw [St.set_ne _ _ (by first | assumption | omega | (simp only [St.set_n, St.new_n] at *; omega))]; conv => whnf)
        | (rw [St.new_ne _ _ (by first | assumption | omega | (simp only [St.set_n, St.new_n] at *; omega))]; conv => whnf))
    refine Fin.of ⟨rfl, ?_⟩
    rw [formA, List.drop_length]
    rfl
  have g1 : decide ((i : Int) ≥ s.length) = false := decide_eq_false (by omega)
  have hd := one_drop hlt
  have hfa : formA s i = match form (s.getD i 0 :: s.drop (i + 1)) with | none => .tup [.int .u8 0, .int .i64 0] | some (x, r) => .tup [.int .u8 x.toNat, .int .i64 ((s.length - i - r.length : Nat))] := by rw [formA, hd]
  rw [form_cons] at hfa
  have c1 := u8_beqz (s.getD i 0) 34
  have c2 := u8_beqz (s.getD i 0) 92
  have c3 := u8_beqz (s.getD i 0) 110
  have c4 := u8_beqz (s.getD i 0) 116
  have c5 := u8_beqz (s.getD i 0) 120
  have hgd : s.getD (i : Int).toNat 0 = s.getD i 0 := rfl
  generalize hc : s.getD i 0 = c at c1 c2 c3 c4 c5 hfa hgd hd
  have hl1 : (s.drop (i + 1)).length = s.length - (i + 1) := List.length_drop ..
  cases h34 : (c == 34) with
  | true =>
    rw [h34] at c1 hfa
    have g2 : (((s.getD (i : Int).toNat 0).toNat : Int) == 34) = true := by rw [hgd]; exact c1
    conv => whnf
    repeat' (first
        | (refine Bc_t ?_; conv => whnf)
        | (refine Bc_f ?_; conv => whnf)
        | (rw [g1]; conv => whnf)
        | (rw [g2]; conv => whnf)
        | (rw [g3]; conv => whnf)
        | (rw [g4]; conv => whnf)
        | (rw [g5]; conv => whnf)
        | (rw [g6]; conv => whnf)
        | (rw [g7]; conv => whnf)
        | (rw [g8]; conv => whnf)
        | (rw [g9]; conv => whnf)
        | (rw [hr]; conv => whnf)
        | (refine Bc_split (fun hb => ?_) (fun hb => ?_) <;> (rw [hb]; conv => whnf))
        | (refine And.intro (by first
            | omega
            | assumption
            | (simp only [St.set_n, St.new_n] at *; omega)
            | (simp; done)
            | (simp; omega)
            | (intro _ _; first | assumption | (simp only [St.set_n, St.new_n] at *; omega))
            | (intro _; exact trivial)
            | (intro _; intro _ _; exact trivial)
            | (intro _; intro j hj; first | rfl | (have hj' : j < 1 := hj
                                                   obtain rfl : j = 0 := by omega
                                                   exact ⟨rfl, rfl⟩))
            | (intro j hj; obtain rfl : j = 0 := by omega
               first | exact ⟨rfl, rfl⟩ | exact .inl ⟨rfl, rfl⟩ | exact .inr (by omega) | exact ⟨by assumption, by assumption⟩ | assumption | trivial)
            | exact .inr (by assumption)
            | (intro j hj; exact .inr (by simp only [St.set_n, St.new_n] at *; omega))
            | (intro e he; rcases List.mem_singleton.1 he with rfl; exact ⟨rfl, rfl⟩)
            | (rw [St.set_ne _ _ (by first | assumption | omega | (simp only [St.set_n, St.new_n] at *; omega))]; assumption)
            | (rw [St.set_ne _ _ (by first | assumption | omega | (simp only [St.set_n, St.new_n] at *; omega)), St.set_ne _ _ (by first | assumption | omega | (simp only [St.set_n, St.new_n] at *; omega))]; assumption)
            | (simp only [decide_eq_true_eq, decide_eq_false_iff_not, Bool.not_eq_true, beq_iff_eq, beq_eq_false_iff_ne, ne_eq, ge_iff_le, gt_iff_lt] at *; omega)) ?_; conv => whnf)
        | (rw [St.set_same]; conv => whnf)
        | (rw [St.new_same]; conv => whnf)
        | (rw [St.set_ne _ _ (by first | assumption | omega | (simp only [St.set_n, St.new_n] at *; omega))]; conv => whnf)
        | (rw [St.new_ne _ _ (by first | assumption | omega | (simp only [St.set_n, St.new_n] at *; omega))]; conv => whnf))
    refine Fin.of ⟨rfl, ?_⟩
    rw [hfa]
    show AEnd.ret (A.tup [.int .u8 ((s.getD (i : Int).toNat 0).toNat : Int), .int .i64 1]) = AEnd.ret (A.tup [.int .u8 (c.toNat : Int), .int .i64 ((s.length - i - (s.drop (i + 1)).length : Nat))])
    rw [hgd, hl1, show s.length - i - (s.length - (i + 1)) = 1 by omega]
    rfl
  | false =>
  rw [h34] at c1 hfa
  have g2 : (((s.getD (i : Int).toNat 0).toNat : Int) == 34) = false := by rw [hgd]; exact c1
  cases h92 : (c == 92) with
  | true =>
    rw [h92] at c2 hfa
    have g3 : (((s.getD (i : Int).toNat 0).toNat : Int) == 92) = true := by rw [hgd]; exact c2
    conv => whnf
    repeat' (first
        | (refine Bc_t ?_; conv => whnf)
        | (refine Bc_f ?_; conv => whnf)
        | (rw [g1]; conv => whnf)
        | (rw [g2]; conv => whnf)
        | (rw [g3]; conv => whnf)
        | (rw [g4]; conv => whnf)
        | (rw [g5]; conv => whnf)
        | (rw [g6]; conv => whnf)
        | (rw [g7]; conv => whnf)
        | (rw [g8]; conv => whnf)
        | (rw [g9]; conv => whnf)
        | (rw [hr]; conv => whnf)
        | (refine Bc_split (fun hb => ?_) (fun hb => ?_) <;> (rw [hb]; conv => whnf))
        | (refine And.intro (by first
            | omega
            | assumption
            | (simp only [St.set_n, St.new_n] at *; omega)
            | (simp; done)
            | (simp; omega)
            | (intro _ _; first | assumption | (simp only [St.set_n, St.new_n] at *; omega))
            | (intro _; exact trivial)
            | (intro _; intro _ _; exact trivial)
            | (intro _; intro j hj; first | rfl | (have hj' : j < 1 := hj
                                                   obtain rfl : j = 0 := by omega
                                                   exact ⟨rfl, rfl⟩))
            | (intro j hj; obtain rfl : j = 0 := by omega
               first | exact ⟨rfl, rfl⟩ | exact .inl ⟨rfl, rfl⟩ | exact .inr (by omega) | exact ⟨by assumption, by assumption⟩ | assumption | trivial)
            | exact .inr (by assumption)
            | (intro j hj; exact .inr (by simp only [St.set_n, St.new_n] at *; omega))
            | (intro e he; rcases List.mem_singleton.1 he with rfl; exact ⟨rfl, rfl⟩)
            | (rw [St.set_ne _ _ (by first | assumption | omega | (simp only [St.set_n, St.new_n] at *; omega))]; assumption)
            | (rw [St.set_ne _ _ (by first | assumption | omega | (simp only [St.set_n, St.new_n] at *; omega)), St.set_ne _ _ (by first | assumption | omega | (simp only [St.set_n, St.new_n] at *; omega))]; assumption)
            | (simp only [decide_eq_true_eq, decide_eq_false_iff_not, Bool.not_eq_true, beq_iff_eq, beq_eq_false_iff_ne, ne_eq, ge_iff_le, gt_iff_lt] at *; omega)) ?_; conv => whnf)
        | (rw [St.set_same]; conv => whnf)
        | (rw [St.new_same]; conv => whnf)
        | (rw [St.set_ne _ _ (by first | assumption | omega | (simp only [St.set_n, St.new_n] at *; omega))]; conv => whnf)
        | (rw [St.new_ne _ _ (by first | assumption | omega | (simp only [St.set_n, St.new_n] at *; omega))]; conv => whnf))
    refine Fin.of ⟨rfl, ?_⟩
    rw [hfa]
    show AEnd.ret (A.tup [.int .u8 ((s.getD (i : Int).toNat 0).toNat : Int), .int .i64 1]) = AEnd.ret (A.tup [.int .u8 (c.toNat : Int), .int .i64 ((s.length - i - (s.drop (i + 1)).length : Nat))])
    rw [hgd, hl1, show s.length - i - (s.length - (i + 1)) = 1 by omega]
    rfl
  | false =>
  rw [h92] at c2 hfa
  have g3 : (((s.getD (i : Int).toNat 0).toNat : Int) == 92) = false := by rw [hgd]; exact c2
  cases h110 : (c == 110) with
  | true =>
    rw [h110] at c3 hfa
    have g4 : (((s.getD (i : Int).toNat 0).toNat : Int) == 110) = true := by rw [hgd]; exact c3
    conv => whnf
    repeat' (first
        | (refine Bc_t ?_; conv => whnf)
        | (refine Bc_f ?_; conv => whnf)
        | (rw [g1]; conv => whnf)
        | (rw [g2]; conv => whnf)
        | (rw [g3]; conv => whnf)
        | (rw [g4]; conv => whnf)
        | (rw [g5]; conv => whnf)
        | (rw [g6]; conv => whnf)
        | (rw [g7]; conv => whnf)
        | (rw [g8]; conv => whnf)
        | (rw [g9]; conv => whnf)
        | (rw [hr]; conv => whnf)
        | (refine Bc_split (fun hb => ?_) (fun hb => ?_) <;> (rw [hb]; conv => whnf))
        | (refine And.intro (by first
            | omega
            | assumption
            | (simp only [St.set_n, St.new_n] at *; omega)
            | (simp; done)
            | (simp; omega)
            | (intro _ _; first | assumption | (simp only [St.set_n, St.new_n] at *; omega))
            | (intro _; exact trivial)
            | (intro _; intro _ _; exact trivial)
            | (intro _; intro j hj; first | rfl | (have hj' : j < 1 := hj
                                                   obtain rfl : j = 0 := by omega
                                                   exact ⟨rfl, rfl⟩))
            | (intro j hj; obtain rfl : j = 0 := by omega
               first | exact ⟨rfl, rfl⟩ | exact .inl ⟨rfl, rfl⟩ | exact .inr (by omega) | exact ⟨by assumption, by assumption⟩ | assumption | trivial)
            | exact .inr (by assumption)
            | (intro j hj; exact .inr (by simp only [St.set_n, St.new_n] at *; omega))
            | (intro e he; rcases List.mem_singleton.1 he with rfl; exact ⟨rfl, rfl⟩)
            | (rw [St.set_ne _ _ (by first | assumption | omega | (simp only [St.set_n, St.new_n] at *; omega))]; assumption)
            | (rw [St.set_ne _ _ (by first | assumption | omega | (simp only [St.set_n, St.new_n] at *; omega)), St.set_ne _ _ (by first | assumption | omega | (simp only [St.set_n, St.new_n] at *; omega))]; assumption)
            | (simp only [decide_eq_true_eq, decide_eq_false_iff_not, Bool.not_eq_true, beq_iff_eq, beq_eq_false_iff_ne, ne_eq, ge_iff_le, gt_iff_lt] at *; omega)) ?_; conv => whnf)
        | (rw [St.set_same]; conv => whnf)
        | (rw [St.new_same]; conv => whnf)
        | (rw [St.set_ne _ _ (by first | assumption | omega | (simp only [St.set_n, St.new_n] at *; omega))]; conv => whnf)
        | (rw [St.new_ne _ _ (by first | assumption | omega | (simp only [St.set_n, St.new_n] at *; omega))]; conv => whnf))
    refine Fin.of ⟨rfl, ?_⟩
    rw [hfa]
    show _ = AEnd.ret (A.tup [.int .u8 10, .int .i64 ((s.length - i - (s.drop (i + 1)).length : Nat))])
    rw [hl1, show s.length - i - (s.length - (i + 1)) = 1 by omega]
    rfl
  | false =>
  rw [h110] at c3 hfa
  have g4 : (((s.getD (i : Int).toNat 0).toNat : Int) == 110) = false := by rw [hgd]; exact c3
  cases h116 : (c == 116) with
  | true =>
    rw [h116] at c4 hfa
    have g5 : (((s.getD (i : Int).toNat 0).toNat : Int) == 116) = true := by rw [hgd]; exact c4
    conv => whnf
    repeat' (first
        | (refine Bc_t ?_; conv => whnf)
        | (refine Bc_f ?_; conv => whnf)
        | (rw [g1]; conv => whnf)
        | (rw [g2]; conv => whnf)
        | (rw [g3]; conv => whnf)
        | (rw [g4]; conv => whnf)
        | (rw [g5]; conv => whnf)
        | (rw [g6]; conv => whnf)
        | (rw [g7]; conv => whnf)
        | (rw [g8]; conv => whnf)
        | (rw [g9]; conv => whnf)
        | (rw [hr]; conv => whnf)
        | (refine Bc_split (fun hb => ?_) (fun hb => ?_) <;> (rw [hb]; conv => whnf))
        | (refine And.intro (by first
            | omega
            | assumption
            | (simp only [St.set_n, St.new_n] at *; omega)
            | (simp; done)
            | (simp; omega)
            | (intro _ _; first | assumption | (simp only [St.set_n, St.new_n] at *; omega))
            | (intro _; exact trivial)
            | (intro _; intro _ _; exact trivial)
            | (intro _; intro j hj; first | rfl | (have hj' : j < 1 := hj
                                                   obtain rfl : j = 0 := by omega
                                                   exact ⟨rfl, rfl⟩))
            | (intro j hj; obtain rfl : j = 0 := by omega
               first | exact ⟨rfl, rfl⟩ | exact .inl ⟨rfl, rfl⟩ | exact .inr (by omega) | exact ⟨by assumption, by assumption⟩ | assumption | trivial)
            | exact .inr (by assumption)
            | (intro j hj; exact .inr (by simp only [St.set_n, St.new_n] at *; omega))
            | (intro e he; rcases List.mem_singleton.1 he with rfl; exact ⟨rfl, rfl⟩)
            | (rw [St.set_ne _ _ (by first | assumption | omega | (simp only [St.set_n, St.new_n] at *; omega))]; assumption)
            | (rw [St.set_ne _ _ (by first | assumption | omega | (simp only [St.set_n, St.new_n] at *; omega)), St.set_ne _ _ (by first | assumption | omega | (simp only [St.set_n, St.new_n] at *; omega))]; assumption)
            | (simp only [decide_eq_true_eq, decide_eq_false_iff_not, Bool.not_eq_true, beq_iff_eq, beq_eq_false_iff_ne, ne_eq, ge_iff_le, gt_iff_lt] at *; omega)) ?_; conv => whnf)
        | (rw [St.set_same]; conv => whnf)
        | (rw [St.new_same]; conv => whnf)
        | (rw [St.set_ne _ _ (by first | assumption | omega | (simp only [St.set_n, St.new_n] at *; omega))]; conv => whnf)
        | (rw [St.new_ne _ _ (by first | assumption | omega | (simp only [St.set_n, St.new_n] at *; omega))]; conv => whnf))
    refine Fin.of ⟨rfl, ?_⟩
    rw [hfa]
    show _ = AEnd.ret (A.tup [.int .u8 9, .int .i64 ((s.length - i - (s.drop (i + 1)).length : Nat))])
    rw [hl1, show s.length - i - (s.length - (i + 1)) = 1 by omega]
    rfl
  | false =>
  rw [h116] at c4 hfa
  have g5 : (((s.getD (i : Int).toNat 0).toNat : Int) == 116) = false := by rw [hgd]; exact c4
  cases h120 : (c == 120) with
  | false =>
    rw [h120] at c5 hfa
    have g6 : (((s.getD (i : Int).toNat 0).toNat : Int) == 120) = false := by rw [hgd]; exact c5
    conv => whnf
    repeat' (first
        | (refine Bc_t ?_; conv => whnf)
        | (refine Bc_f ?_; conv => whnf)
        | (rw [g1]; conv => whnf)
        | (rw [g2]; conv => whnf)
        | (rw [g3]; conv => whnf)
        | (rw [g4]; conv => whnf)
        | (rw [g5]; conv => whnf)
        | (rw [g6]; conv => whnf)
        | (rw [g7]; conv => whnf)
        | (rw [g8]; conv => whnf)
        | (rw [g9]; conv => whnf)
        | (rw [hr]; conv => whnf)
        | (refine Bc_split (fun hb => ?_) (fun hb => ?_) <;> (rw [hb]; conv => whnf))
        | (refine And.intro (by first
            | omega
            | assumption
            | (simp only [St.set_n, St.new_n] at *; omega)
            | (simp; done)
            | (simp; omega)
            | (intro _ _; first | assumption | (simp only [St.set_n, St.new_n] at *; omega))
            | (intro _; exact trivial)
            | (intro _; intro _ _; exact trivial)
            | (intro _; intro j hj; first | rfl | (have hj' : j < 1 := hj
                                                   obtain rfl : j = 0 := by omega
                                                   exact ⟨rfl, rfl⟩))
            | (intro j hj; obtain rfl : j = 0 := by omega
               first | exact ⟨rfl, rfl⟩ | exact .inl ⟨rfl, rfl⟩ | exact .inr (by omega) | exact ⟨by assumption, by assumption⟩ | assumption | trivial)
            | exact .inr (by assumption)
            | (intro j hj; exact .inr (by simp only [St.set_n, St.new_n] at *; omega))
            | (intro e he; rcases List.mem_singleton.1 he with rfl; exact ⟨rfl, rfl⟩)
            | (rw [St.set_ne _ _ (by first | assumption | omega | (simp only [St.set_n, St.new_n] at *; omega))]; assumption)
            | (rw [St.set_ne _ _ (by first | assumption | omega | (simp only [St.set_n, St.new_n] at *; omega)), St.set_ne _ _ (by first | assumption | omega | (simp only [St.set_n, St.new_n] at *; omega))]; assumption)
            | (simp only [decide_eq_true_eq, decide_eq_false_iff_not, Bool.not_eq_true, beq_iff_eq, beq_eq_false_iff_ne, ne_eq, ge_iff_le, gt_iff_lt] at *; omega)) ?_; conv => whnf)
        | (rw [St.set_same]; conv => whnf)
        | (rw [St.new_same]; conv => whnf)
        | (rw [St.set_ne _ _ (by first | assumption | omega | (simp only [St.set_n, St.new_n] at *; omega))]; conv => whnf)
        | (rw [St.new_ne _ _ (by first | assumption | omega | (simp only [St.set_n, St.new_n] at *; omega))]; conv => whnf))
    exact Fin.of ⟨rfl, by rw [hfa]; rfl⟩
  | true =>
    rw [h120] at c5 hfa
    have g6 : (((s.getD (i : Int).toNat 0).toNat : Int) == 120) = true := by rw [hgd]; exact c5
    have hr : IntKind.i64.wrap ((i : Int) + 2) = ((i + 2 : Nat) : Int) := by rw [w64 (by omega) (by omega)]; omega
    by_cases h2 : i + 2 < s.length
    rotate_left 1
    · have g7 : decide (((i + 2 : Nat) : Int) < s.length) = false := decide_eq_false (by omega)
      have hnone : formA s i = .tup [.int .u8 0, .int .i64 0] := by
        rw [hfa]
        match hq : s.drop (i + 1), hl1 with
        | [], _ => rfl
        | [_], _ => rfl
        | _ :: _ :: r, hl1 => simp only [List.length_cons] at hl1; omega
      conv => whnf
      repeat' (first
          | (refine Bc_t ?_; conv => whnf)
          | (refine Bc_f ?_; conv => whnf)
          | (rw [g1]; conv => whnf)
          | (rw [g2]; conv => whnf)
          | (rw [g3]; conv => whnf)
          | (rw [g4]; conv => whnf)
          | (rw [g5]; conv => whnf)
          | (rw [g6]; conv => whnf)
          | (rw [g7]; conv => whnf)
          | (rw [g8]; conv => whnf)
          | (rw [g9]; conv => whnf)
          | (rw [hr]; conv => whnf)
          | (refine Bc_split (fun hb => ?_) (fun hb => ?_) <;> (rw [hb]; conv => whnf))
          | (refine And.intro (by first
              | omega
              | assumption
              | (simp only [St.set_n, St.new_n] at *; omega)
              | (simp; done)
              | (simp; omega)
              | (intro _ _; first | assumption | (simp only [St.set_n, St.new_n] at *; omega))
              | (intro _; exact trivial)
              | (intro _; intro _ _; exact trivial)
              | (intro _; intro j hj; first | rfl | (have hj' : j < 1 := hj
                                                     obtain rfl : j = 0 := by omega
                                                     exact ⟨rfl, rfl⟩))
              | (intro j hj; obtain rfl : j = 0 := by omega
                 first | exact ⟨rfl, rfl⟩ | exact .inl ⟨rfl, rfl⟩ | exact .inr (by omega) | exact ⟨by assumption, by assumption⟩ | assumption | trivial)
              | exact .inr (by assumption)
              | (intro j hj; exact .inr (by simp only [St.set_n, St.new_n] at *; omega))
              | (intro e he; rcases List.mem_singleton.1 he with rfl; exact ⟨rfl, rfl⟩)
              | (rw [St.set_ne _ _ (by first | assumption | omega | (simp only [St.set_n, St.new_n] at *; omega))]; assumption)
              | (rw [St.set_ne _ _ (by first | assumption | omega | (simp only [St.set_n, St.new_n] at *; omega)), St.set_ne _ _ (by first | assumption | omega | (simp only [St.set_n, St.new_n] at *; omega))]; assumption)
              | (simp only [decide_eq_true_eq, decide_eq_false_iff_not, Bool.not_eq_true, beq_iff_eq, beq_eq_false_iff_ne, ne_eq, ge_iff_le, gt_iff_lt] at *; omega)) ?_; conv => whnf)
          | (rw [St.set_same]; conv => whnf)
          | (rw [St.new_same]; conv => whnf)
          | (rw [St.set_ne _ _ (by first | assumption | omega | (simp only [St.set_n, St.new_n] at *; omega))]; conv => whnf)
          | (rw [St.new_ne _ _ (by first | assumption | omega | (simp only [St.set_n, St.new_n] at *; omega))]; conv => whnf))
      exact Fin.of ⟨rfl, by rw [hnone]; rfl⟩
    have g7 : decide (((i + 2 : Nat) : Int) < s.length) = true := decide_eq_true (by omega)
    have g8 : IntKind.i64.wrap ((i : Int) + 1) = ((i + 1 : Nat) : Int) := by rw [w64 (by omega) (by omega)]; omega
    have hd1 := one_drop (s := s) (i := i + 1) (by omega)
    have hd2 := one_drop (s := s) (i := i + 2) h2
    have hda : s.drop (i + 1) = s.getD (i + 1) 0 :: s.getD (i + 2) 0 :: s.drop (i + 3) := by rw [hd1, hd2]
    rw [hda] at hfa
    have hfa : formA s i = match (match hexVal (s.getD (i + 1) 0), hexVal (s.getD (i + 2) 0) with | some x, some y => some (UInt8.ofNat (16 * x + y), s.drop (i + 3)) | _, _ => none) with
      | none => .tup [.int .u8 0, .int .i64 0]
      | some (x, r) => .tup [.int .u8 x.toNat, .int .i64 ((s.length - i - r.length : Nat))] := hfa
    have ga : s.getD ((i + 1 : Nat) : Int).toNat 0 = s.getD (i + 1) 0 := rfl
    have gb : s.getD ((i + 2 : Nat) : Int).toNat 0 = s.getD (i + 2) 0 := rfl
    have hl3 : (s.drop (i + 3)).length = s.length - (i + 3) := List.length_drop ..
    have hxa := hexA_cases (s.getD (i + 1) 0)
    have hxb := hexA_cases (s.getD (i + 2) 0)
    conv => whnf
    repeat' (first
        | (refine Bc_t ?_; conv => whnf)
        | (refine Bc_f ?_; conv => whnf)
        | (rw [g1]; conv => whnf)
        | (rw [g2]; conv => whnf)
        | (rw [g3]; conv => whnf)
        | (rw [g4]; conv => whnf)
        | (rw [g5]; conv => whnf)
        | (rw [g6]; conv => whnf)
        | (rw [g7]; conv => whnf)
        | (rw [g8]; conv => whnf)
        | (rw [g9]; conv => whnf)
        | (rw [hr]; conv => whnf)
        | (refine Bc_split (fun hb => ?_) (fun hb => ?_) <;> (rw [hb]; conv => whnf))
        | (refine And.intro (by first
            | omega
            | assumption
            | (simp only [St.set_n, St.new_n] at *; omega)
            | (simp; done)
            | (simp; omega)
            | (intro _ _; first | assumption | (simp only [St.set_n, St.new_n] at *; omega))
            | (intro _; exact trivial)
            | (intro _; intro _ _; exact trivial)
            | (intro _; intro j hj; first | rfl | (have hj' : j < 1 := hj
                                                   obtain rfl : j = 0 := by omega
                                                   exact ⟨rfl, rfl⟩))
            | (intro j hj; obtain rfl : j = 0 := by omega
               first | exact ⟨rfl, rfl⟩ | exact .inl ⟨rfl, rfl⟩ | exact .inr (by omega) | exact ⟨by assumption, by assumption⟩ | assumption | trivial)
            | exact .inr (by assumption)
            | (intro j hj; exact .inr (by simp only [St.set_n, St.new_n] at *; omega))
            | (intro e he; rcases List.mem_singleton.1 he with rfl; exact ⟨rfl, rfl⟩)
            | (rw [St.set_ne _ _ (by first | assumption | omega | (simp only [St.set_n, St.new_n] at *; omega))]; assumption)
            | (rw [St.set_ne _ _ (by first | assumption | omega | (simp only [St.set_n, St.new_n] at *; omega)), St.set_ne _ _ (by first | assumption | omega | (simp only [St.set_n, St.new_n] at *; omega))]; assumption)
            | (simp only [decide_eq_true_eq, decide_eq_false_iff_not, Bool.not_eq_true, beq_iff_eq, beq_eq_false_iff_ne, ne_eq, ge_iff_le, gt_iff_lt] at *; omega)) ?_; conv => whnf)
        | (rw [St.set_same]; conv => whnf)
        | (rw [St.new_same]; conv => whnf)
        | (rw [St.set_ne _ _ (by first | assumption | omega | (simp only [St.set_n, St.new_n] at *; omega))]; conv => whnf)
        | (rw [St.new_ne _ _ (by first | assumption | omega | (simp only [St.set_n, St.new_n] at *; omega))]; conv => whnf))
    refine ACallsW.of (zhex_ok (s.getD (i + 1) 0) _ Non) (fun _ _ _ h => h.elim) ?_
    rintro _ σ1 _ ⟨e1, rfl⟩
    have e2 := e1.symm
    subst e2
    rcases hxa with ⟨a1, a2⟩ | ⟨x, hx, a1, a2⟩
    · rw [a2]
      rw [a1] at hfa
      conv => whnf
      repeat' (first
          | (refine Bc_t ?_; conv => whnf)
          | (refine Bc_f ?_; conv => whnf)
          | (rw [g1]; conv => whnf)
          | (rw [g2]; conv => whnf)
          | (rw [g3]; conv => whnf)
          | (rw [g4]; conv => whnf)
          | (rw [g5]; conv => whnf)
          | (rw [g6]; conv => whnf)
          | (rw [g7]; conv => whnf)
          | (rw [g8]; conv => whnf)
          | (rw [g9]; conv => whnf)
          | (rw [hr]; conv => whnf)
          | (refine Bc_split (fun hb => ?_) (fun hb => ?_) <;> (rw [hb]; conv => whnf))
          | (refine And.intro (by first
              | omega
              | assumption
              | (simp only [St.set_n, St.new_n] at *; omega)
              | (simp; done)
              | (simp; omega)
              | (intro _ _; first | assumption | (simp only [St.set_n, St.new_n] at *; omega))
              | (intro _; exact trivial)
              | (intro _; intro _ _; exact trivial)
              | (intro _; intro j hj; first | rfl | (have hj' : j < 1 := hj
                                                     obtain rfl : j = 0 := by omega
                                                     exact ⟨rfl, rfl⟩))
              | (intro j hj; obtain rfl : j = 0 := by omega
                 first | exact ⟨rfl, rfl⟩ | exact .inl ⟨rfl, rfl⟩ | exact .inr (by omega) | exact ⟨by assumption, by assumption⟩ | assumption | trivial)
              | exact .inr (by assumption)
              | (intro j hj; exact .inr (by simp only [St.set_n, St.new_n] at *; omega))
              | (intro e he; rcases List.mem_singleton.1 he with rfl; exact ⟨rfl, rfl⟩)
              | (rw [St.set_ne _ _ (by first | assumption | omega | (simp only [St.set_n, St.new_n] at *; omega))]; assumption)
              | (rw [St.set_ne _ _ (by first | assumption | omega | (simp only [St.set_n, St.new_n] at *; omega)), St.set_ne _ _ (by first | assumption | omega | (simp only [St.set_n, St.new_n] at *; omega))]; assumption)
              | (simp only [decide_eq_true_eq, decide_eq_false_iff_not, Bool.not_eq_true, beq_iff_eq, beq_eq_false_iff_ne, ne_eq, ge_iff_le, gt_iff_lt] at *; omega)) ?_; conv => whnf)
          | (rw [St.set_same]; conv => whnf)
          | (rw [St.new_same]; conv => whnf)
          | (rw [St.set_ne _ _ (by first | assumption | omega | (simp only [St.set_n, St.new_n] at *; omega))]; conv => whnf)
          | (rw [St.new_ne _ _ (by first | assumption | omega | (simp only [St.set_n, St.new_n] at *; omega))]; conv => whnf))
      exact Fin.of ⟨rfl, by rw [hfa]; rfl⟩
    rw [a2]
    have g9 : decide ((x : Int) ≥ 0) = true := decide_eq_true (by omega)
    conv => whnf
    repeat' (first
        | (refine Bc_t ?_; conv => whnf)
        | (refine Bc_f ?_; conv => whnf)
        | (rw [g1]; conv => whnf)
        | (rw [g2]; conv => whnf)
        | (rw [g3]; conv => whnf)
        | (rw [g4]; conv => whnf)
        | (rw [g5]; conv => whnf)
        | (rw [g6]; conv => whnf)
        | (rw [g7]; conv => whnf)
        | (rw [g8]; conv => whnf)
        | (rw [g9]; conv => whnf)
        | (rw [hr]; conv => whnf)
        | (refine Bc_split (fun hb => ?_) (fun hb => ?_) <;> (rw [hb]; conv => whnf))
        | (refine And.intro (by first
            | omega
            | assumption
            | (simp only [St.set_n, St.new_n] at *; omega)
            | (simp; done)
            | (simp; omega)
            | (intro _ _; first | assumption | (simp only [St.set_n, St.new_n] at *; omega))
            | (intro _; exact trivial)
            | (intro _; intro _ _; exact trivial)
            | (intro _; intro j hj; first | rfl | (have hj' : j < 1 := hj
                                                   obtain rfl : j = 0 := by omega
                                                   exact ⟨rfl, rfl⟩))
            | (intro j hj; obtain rfl : j = 0 := by omega
               first | exact ⟨rfl, rfl⟩ | exact .inl ⟨rfl, rfl⟩ | exact .inr (by omega) | exact ⟨by assumption, by assumption⟩ | assumption | trivial)
            | exact .inr (by assumption)
            | (intro j hj; exact .inr (by simp only [St.set_n, St.new_n] at *; omega))
            | (intro e he; rcases List.mem_singleton.1 he with rfl; exact ⟨rfl, rfl⟩)
            | (rw [St.set_ne _ _ (by first | assumption | omega | (simp only [St.set_n, St.new_n] at *; omega))]; assumption)
            | (rw [St.set_ne _ _ (by first | assumption | omega | (simp only [St.set_n, St.new_n] at *; omega)), St.set_ne _ _ (by first | assumption | omega | (simp only [St.set_n, St.new_n] at *; omega))]; assumption)
            | (simp only [decide_eq_true_eq, decide_eq_false_iff_not, Bool.not_eq_true, beq_iff_eq, beq_eq_false_iff_ne, ne_eq, ge_iff_le, gt_iff_lt] at *; omega)) ?_; conv => whnf)
        | (rw [St.set_same]; conv => whnf)
        | (rw [St.new_same]; conv => whnf)
        | (rw [St.set_ne _ _ (by first | assumption | omega | (simp only [St.set_n, St.new_n] at *; omega))]; conv => whnf)
        | (rw [St.new_ne _ _ (by first | assumption | omega | (simp only [St.set_n, St.new_n] at *; omega))]; conv => whnf))
    refine ACallsW.of (zhex_ok (s.getD (i + 2) 0) _ Non) (fun _ _ _ h => h.elim) ?_
    rintro _ σ1 _ ⟨e1, rfl⟩
    have e2 := e1.symm
    subst e2
    rcases hxb with ⟨b1, b2⟩ | ⟨y, hy, b1, b2⟩
    · rw [b2]
      rw [a1, b1] at hfa
      conv => whnf
      repeat' (first
          | (refine Bc_t ?_; conv => whnf)
          | (refine Bc_f ?_; conv => whnf)
          | (rw [g1]; conv => whnf)
          | (rw [g2]; conv => whnf)
          | (rw [g3]; conv => whnf)
          | (rw [g4]; conv => whnf)
          | (rw [g5]; conv => whnf)
          | (rw [g6]; conv => whnf)
          | (rw [g7]; conv => whnf)
          | (rw [g8]; conv => whnf)
          | (rw [g9]; conv => whnf)
          | (rw [hr]; conv => whnf)
          | (refine Bc_split (fun hb => ?_) (fun hb => ?_) <;> (rw [hb]; conv => whnf))
          | (refine And.intro (by first
              | omega
              | assumption
              | (simp only [St.set_n, St.new_n] at *; omega)
              | (simp; done)
              | (simp; omega)
              | (intro _ _; first | assumption | (simp only [St.set_n, St.new_n] at *; omega))
              | (intro _; exact trivial)
              | (intro _; intro _ _; exact trivial)
              | (intro _; intro j hj; first | rfl | (have hj' : j < 1 := hj
                                                     obtain rfl : j = 0 := by omega
                                                     exact ⟨rfl, rfl⟩))
              | (intro j hj; obtain rfl : j = 0 := by omega
                 first | exact ⟨rfl, rfl⟩ | exact .inl ⟨rfl, rfl⟩ | exact .inr (by omega) | exact ⟨by assumption, by assumption⟩ | assumption | trivial)
              | exact .inr (by assumption)
              | (intro j hj; exact .inr (by simp only [St.set_n, St.new_n] at *; omega))
              | (intro e he; rcases List.mem_singleton.1 he with rfl; exact ⟨rfl, rfl⟩)
              | (rw [St.set_ne _ _ (by first | assumption | omega | (simp only [St.set_n, St.new_n] at *; omega))]; assumption)
              | (rw [St.set_ne _ _ (by first | assumption | omega | (simp only [St.set_n, St.new_n] at *; omega)), St.set_ne _ _ (by first | assumption | omega | (simp only [St.set_n, St.new_n] at *; omega))]; assumption)
              | (simp only [decide_eq_true_eq, decide_eq_false_iff_not, Bool.not_eq_true, beq_iff_eq, beq_eq_false_iff_ne, ne_eq, ge_iff_le, gt_iff_lt] at *; omega)) ?_; conv => whnf)
          | (rw [St.set_same]; conv => whnf)
          | (rw [St.new_same]; conv => whnf)
          | (rw [St.set_ne _ _ (by first | assumption | omega | (simp only [St.set_n, St.new_n] at *; omega))]; conv => whnf)
          | (rw [St.new_ne _ _ (by first | assumption | omega | (simp only [St.set_n, St.new_n] at *; omega))]; conv => whnf))
      exact Fin.of ⟨rfl, by rw [hfa]; rfl⟩
    rw [b2]
    rw [a1, b1] at hfa
    clear g9
    have g9 : decide ((y : Int) ≥ 0) = true := decide_eq_true (by omega)
    conv => whnf
    repeat' (first
        | (refine Bc_t ?_; conv => whnf)
        | (refine Bc_f ?_; conv => whnf)
        | (rw [g1]; conv => whnf)
        | (rw [g2]; conv => whnf)
        | (rw [g3]; conv => whnf)
        | (rw [g4]; conv => whnf)
        | (rw [g5]; conv => whnf)
        | (rw [g6]; conv => whnf)
        | (rw [g7]; conv => whnf)
        | (rw [g8]; conv => whnf)
        | (rw [g9]; conv => whnf)
        | (rw [hr]; conv => whnf)
        | (refine Bc_split (fun hb => ?_) (fun hb => ?_) <;> (rw [hb]; conv => whnf))
        | (refine And.intro (by first
            | omega
            | assumption
            | (simp only [St.set_n, St.new_n] at *; omega)
            | (simp; done)
            | (simp; omega)
            | (intro _ _; first | assumption | (simp only [St.set_n, St.new_n] at *; omega))
            | (intro _; exact trivial)
            | (intro _; intro _ _; exact trivial)
            | (intro _; intro j hj; first | rfl | (have hj' : j < 1 := hj
                                                   obtain rfl : j = 0 := by omega
                                                   exact ⟨rfl, rfl⟩))
            | (intro j hj; obtain rfl : j = 0 := by omega
               first | exact ⟨rfl, rfl⟩ | exact .inl ⟨rfl, rfl⟩ | exact .inr (by omega) | exact ⟨by assumption, by assumption⟩ | assumption | trivial)
            | exact .inr (by assumption)
            | (intro j hj; exact .inr (by simp only [St.set_n, St.new_n] at *; omega))
            | (intro e he; rcases List.mem_singleton.1 he with rfl; exact ⟨rfl, rfl⟩)
            | (rw [St.set_ne _ _ (by first | assumption | omega | (simp only [St.set_n, St.new_n] at *; omega))]; assumption)
            | (rw [St.set_ne _ _ (by first | assumption | omega | (simp only [St.set_n, St.new_n] at *; omega)), St.set_ne _ _ (by first | assumption | omega | (simp only [St.set_n, St.new_n] at *; omega))]; assumption)
            | (simp only [decide_eq_true_eq, decide_eq_false_iff_not, Bool.not_eq_true, beq_iff_eq, beq_eq_false_iff_ne, ne_eq, ge_iff_le, gt_iff_lt] at *; omega)) ?_; conv => whnf)
        | (rw [St.set_same]; conv => whnf)
        | (rw [St.new_same]; conv => whnf)
        | (rw [St.set_ne _ _ (by first | assumption | omega | (simp only [St.set_n, St.new_n] at *; omega))]; conv => whnf)
        | (rw [St.new_ne _ _ (by first | assumption | omega | (simp only [St.set_n, St.new_n] at *; omega))]; conv => whnf))
    refine Exists.intro (fun _ _ => True) ?_
    conv => whnf
    repeat' (first
        | (refine Bc_t ?_; conv => whnf)
        | (refine Bc_f ?_; conv => whnf)
        | (rw [g1]; conv => whnf)
        | (rw [g2]; conv => whnf)
        | (rw [g3]; conv => whnf)
        | (rw [g4]; conv => whnf)
        | (rw [g5]; conv => whnf)
        | (rw [g6]; conv => whnf)
        | (rw [g7]; conv => whnf)
        | (rw [g8]; conv => whnf)
        | (rw [g9]; conv => whnf)
        | (rw [hr]; conv => whnf)
        | (refine Bc_split (fun hb => ?_) (fun hb => ?_) <;> (rw [hb]; conv => whnf))
        | (refine And.intro (by first
            | omega
            | assumption
            | (simp only [St.set_n, St.new_n] at *; omega)
            | (simp; done)
            | (simp; omega)
            | (intro _ _; first | assumption | (simp only [St.set_n, St.new_n] at *; omega))
            | (intro _; exact trivial)
            | (intro _; intro _ _; exact trivial)
            | (intro _; intro j hj; first | rfl | (have hj' : j < 1 := hj
                                                   obtain rfl : j = 0 := by omega
                                                   exact ⟨rfl, rfl⟩))
            | (intro j hj; obtain rfl : j = 0 := by omega
               first | exact ⟨rfl, rfl⟩ | exact .inl ⟨rfl, rfl⟩ | exact .inr (by omega) | exact ⟨by assumption, by assumption⟩ | assumption | trivial)
            | exact .inr (by assumption)
            | (intro j hj; exact .inr (by simp only [St.set_n, St.new_n] at *; omega))
            | (intro e he; rcases List.mem_singleton.1 he with rfl; exact ⟨rfl, rfl⟩)
            | (rw [St.set_ne _ _ (by first | assumption | omega | (simp only [St.set_n, St.new_n] at *; omega))]; assumption)
            | (rw [St.set_ne _ _ (by first | assumption | omega | (simp only [St.set_n, St.new_n] at *; omega)), St.set_ne _ _ (by first | assumption | omega | (simp only [St.set_n, St.new_n] at *; omega))]; assumption)
            | (simp only [decide_eq_true_eq, decide_eq_false_iff_not, Bool.not_eq_true, beq_iff_eq, beq_eq_false_iff_ne, ne_eq, ge_iff_le, gt_iff_lt] at *; omega)) ?_; conv => whnf)
        | (rw [St.set_same]; conv => whnf)
        | (rw [St.new_same]; conv => whnf)
        | (rw [St.set_ne _ _ (by first | assumption | omega | (simp only [St.set_n, St.new_n] at *; omega))]; conv => whnf)
        | (rw [St.new_ne _ _ (by first | assumption | omega | (simp only [St.set_n, St.new_n] at *; omega))]; conv => whnf))
    refine ACallsW.of (zhex_ok (s.getD (i + 1) 0) _ Non) (fun _ _ _ h => h.elim) ?_
    rintro _ σ1 _ ⟨e1, rfl⟩
    have e2 := e1.symm
    subst e2
    rw [a2]
    conv => whnf
    repeat' (first
        | (refine Bc_t ?_; conv => whnf)
        | (refine Bc_f ?_; conv => whnf)
        | (rw [g1]; conv => whnf)
        | (rw [g2]; conv => whnf)
        | (rw [g3]; conv => whnf)
        | (rw [g4]; conv => whnf)
        | (rw [g5]; conv => whnf)
        | (rw [g6]; conv => whnf)
        | (rw [g7]; conv => whnf)
        | (rw [g8]; conv => whnf)
        | (rw [g9]; conv => whnf)
        | (rw [hr]; conv => whnf)
        | (refine Bc_split (fun hb => ?_) (fun hb => ?_) <;> (rw [hb]; conv => whnf))
        | (refine And.intro (by first
            | omega
            | assumption
            | (simp only [St.set_n, St.new_n] at *; omega)
            | (simp; done)
            | (simp; omega)
            | (intro _ _; first | assumption | (simp only [St.set_n, St.new_n] at *; omega))
            | (intro _; exact trivial)
            | (intro _; intro _ _; exact trivial)
            | (intro _; intro j hj; first | rfl | (have hj' : j < 1 := hj
                                                   obtain rfl : j = 0 := by omega
                                                   exact ⟨rfl, rfl⟩))
            | (intro j hj; obtain rfl : j = 0 := by omega
               first | exact ⟨rfl, rfl⟩ | exact .inl ⟨rfl, rfl⟩ | exact .inr (by omega) | exact ⟨by assumption, by assumption⟩ | assumption | trivial)
            | exact .inr (by assumption)
            | (intro j hj; exact .inr (by simp only [St.set_n, St.new_n] at *; omega))
            | (intro e he; rcases List.mem_singleton.1 he with rfl; exact ⟨rfl, rfl⟩)
            | (rw [St.set_ne _ _ (by first | assumption | omega | (simp only [St.set_n, St.new_n] at *; omega))]; assumption)
            | (rw [St.set_ne _ _ (by first | assumption | omega | (simp only [St.set_n, St.new_n] at *; omega)), St.set_ne _ _ (by first | assumption | omega | (simp only [St.set_n, St.new_n] at *; omega))]; assumption)
            | (simp only [decide_eq_true_eq, decide_eq_false_iff_not, Bool.not_eq_true, beq_iff_eq, beq_eq_false_iff_ne, ne_eq, ge_iff_le, gt_iff_lt] at *; omega)) ?_; conv => whnf)
        | (rw [St.set_same]; conv => whnf)
        | (rw [St.new_same]; conv => whnf)
        | (rw [St.set_ne _ _ (by first | assumption | omega | (simp only [St.set_n, St.new_n] at *; omega))]; conv => whnf)
        | (rw [St.new_ne _ _ (by first | assumption | omega | (simp only [St.set_n, St.new_n] at *; omega))]; conv => whnf))
    refine ACallsW.of (zhex_ok (s.getD (i + 2) 0) _ Non) (fun _ _ _ h => h.elim) ?_
    rintro _ σ1 _ ⟨e1, rfl⟩
    have e2 := e1.symm
    subst e2
    rw [b2]
    conv => whnf
    repeat' (first
        | (refine Bc_t ?_; conv => whnf)
        | (refine Bc_f ?_; conv => whnf)
        | (rw [g1]; conv => whnf)
        | (rw [g2]; conv => whnf)
        | (rw [g3]; conv => whnf)
        | (rw [g4]; conv => whnf)
        | (rw [g5]; conv => whnf)
        | (rw [g6]; conv => whnf)
        | (rw [g7]; conv => whnf)
        | (rw [g8]; conv => whnf)
        | (rw [g9]; conv => whnf)
        | (rw [hr]; conv => whnf)
        | (refine Bc_split (fun hb => ?_) (fun hb => ?_) <;> (rw [hb]; conv => whnf))
        | (refine And.intro (by first
            | omega
            | assumption
            | (simp only [St.set_n, St.new_n] at *; omega)
            | (simp; done)
            | (simp; omega)
            | (intro _ _; first | assumption | (simp only [St.set_n, St.new_n] at *; omega))
            | (intro _; exact trivial)
            | (intro _; intro _ _; exact trivial)
            | (intro _; intro j hj; first | rfl | (have hj' : j < 1 := hj
                                                   obtain rfl : j = 0 := by omega
                                                   exact ⟨rfl, rfl⟩))
            | (intro j hj; obtain rfl : j = 0 := by omega
               first | exact ⟨rfl, rfl⟩ | exact .inl ⟨rfl, rfl⟩ | exact .inr (by omega) | exact ⟨by assumption, by assumption⟩ | assumption | trivial)
            | exact .inr (by assumption)
            | (intro j hj; exact .inr (by simp only [St.set_n, St.new_n] at *; omega))
            | (intro e he; rcases List.mem_singleton.1 he with rfl; exact ⟨rfl, rfl⟩)
            | (rw [St.set_ne _ _ (by first | assumption | omega | (simp only [St.set_n, St.new_n] at *; omega))]; assumption)
            | (rw [St.set_ne _ _ (by first | assumption | omega | (simp only [St.set_n, St.new_n] at *; omega)), St.set_ne _ _ (by first | assumption | omega | (simp only [St.set_n, St.new_n] at *; omega))]; assumption)
            | (simp only [decide_eq_true_eq, decide_eq_false_iff_not, Bool.not_eq_true, beq_iff_eq, beq_eq_false_iff_ne, ne_eq, ge_iff_le, gt_iff_lt] at *; omega)) ?_; conv => whnf)
        | (rw [St.set_same]; conv => whnf)
        | (rw [St.new_same]; conv => whnf)
        | (rw [St.set_ne _ _ (by first | assumption | omega | (simp only [St.set_n, St.new_n] at *; omega))]; conv => whnf)
        | (rw [St.new_ne _ _ (by first | assumption | omega | (simp only [St.set_n, St.new_n] at *; omega))]; conv => whnf))
    refine Fin.of ⟨rfl, ?_⟩
    rw [hfa]
    show AEnd.ret (A.tup [.int .u8 (IntKind.u8.wrap (IntKind.i64.wrap (IntKind.i64.wrap ((x : Int) * 16) + y))), .int .i64 3]) = AEnd.ret (A.tup [.int .u8 ((UInt8.ofNat (16 * x + y)).toNat : Int), .int .i64 ((s.length - i - (s.drop (i + 3)).length : Nat))])
    rw [hl3, show s.length - i - (s.length - (i + 3)) = 3 by omega, w64 (n := (x : Int) * 16) (by omega) (by omega), w64 (by omega) (by omega), wu8 (by omega) (by omega), UInt8.toNat_ofNat', Nat.mod_eq_of_lt (by omega)]
    rw [show ((16 * x + y : Nat) : Int) = (x : Int) * 16 + y by omega]
    rfl
end
end Go.Proofs.YtjeccchbeflddaaGreatDoor.Ga
