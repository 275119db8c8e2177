/- The reference's digits, words and texts. -/
import Derived.Test.YtjeccchbeflddaaDoorLr1
set_option linter.unusedVariables false
set_option linter.unusedSimpArgs false
namespace Go.Proofs.YtjeccchbeflddaaDoor.Ga
open Lx

def c_rdigs : SFun := ⟨18, (.seq (.reg [⟨(some 2), (.mov (.const (.str []))), none⟩]) (.seq (.reg [⟨(some 4), (.mov (.tmp 0)), none⟩, ⟨(some 5), (.bin .rem .none (.tmp 4) (.const (.int .i64 10))), none⟩, ⟨(some 6), (.bin .sub .none (.const (.int .i64 48)) (.tmp 5)), none⟩, ⟨(some 7), (.toInt .u8 (.tmp 6)), none⟩, ⟨(some 8), (.buildSl 1 (.int .u8 0) 1 [(0, (.tmp 7))]), none⟩, ⟨(some 9), (.toStr (.tmp 8)), none⟩, ⟨(some 3), (.mov (.tmp 9)), none⟩]) (.seq (.seq (.reg [⟨(some 10), (.mov (.tmp 0)), none⟩, ⟨(some 11), (.bin .gtr .none (.tmp 10) (.const (.int .i64 (-10)))), none⟩]) (.cond (.tmp 11) (.seq (.reg [⟨(some 12), (.mov (.tmp 3)), none⟩, ⟨(some 2), (.mov (.tmp 12)), none⟩]) .ret) .skip)) (.seq (.reg [⟨(some 13), (.mov (.tmp 0)), none⟩, ⟨(some 14), (.bin .quo .none (.tmp 13) (.const (.int .i64 10))), none⟩, ⟨(some 15), (.call 31 [(.tmp 14)]), none⟩, ⟨(some 16), (.mov (.tmp 3)), none⟩, ⟨(some 17), (.bin .add .none (.tmp 15) (.tmp 16)), none⟩, ⟨(some 2), (.mov (.tmp 17)), none⟩]) .ret)))), [(.tmp 2)]⟩
theorem c_rdigs_ok : cFun Tryd.prog Tryd.f31 = some c_rdigs := by kernel_rfl
def c_rDig : SFun := ⟨14, (.seq (.reg [⟨(some 2), (.mov (.const (.str []))), none⟩]) (.seq (.reg [⟨(some 4), (.mov (.tmp 0)), none⟩, ⟨(some 5), (.call 30 [(.tmp 4)]), none⟩, ⟨(some 3), (.mov (.tmp 5)), none⟩]) (.seq (.seq (.reg [⟨(some 6), (.mov (.tmp 3)), none⟩, ⟨(some 7), (.bin .lss .none (.tmp 6) (.const (.int .i64 0))), none⟩]) (.cond (.tmp 7) (.seq (.reg [⟨(some 8), (.mov (.tmp 3)), none⟩, ⟨(some 9), (.call 31 [(.tmp 8)]), none⟩, ⟨(some 10), (.bin .add .none (.const (.str [45])) (.tmp 9)), none⟩, ⟨(some 2), (.mov (.tmp 10)), none⟩]) .ret) .skip)) (.seq (.reg [⟨(some 11), (.mov (.tmp 3)), none⟩, ⟨(some 12), (.bin .sub .none (.const (.int .i64 0)) (.tmp 11)), none⟩, ⟨(some 13), (.call 31 [(.tmp 12)]), none⟩, ⟨(some 2), (.mov (.tmp 13)), none⟩]) .ret)))), [(.tmp 2)]⟩
theorem c_rDig_ok : cFun Tryd.prog Tryd.f21 = some c_rDig := by kernel_rfl
def c_wdig : SFun := ⟨6, (.seq (.reg [⟨(some 2), (.mov (.const (.str []))), none⟩]) (.seq (.reg [⟨(some 3), (.mov (.tmp 0)), none⟩, ⟨(some 4), (.call 29 [(.tmp 3)]), none⟩, ⟨(some 5), (.call 28 [(.tmp 4), (.const (.int .i64 10))]), none⟩, ⟨(some 2), (.mov (.tmp 5)), none⟩]) .ret)), [(.tmp 2)]⟩
theorem c_wdig_ok : cFun Tryd.prog Tryd.f18 = some c_wdig := by kernel_rfl
def c_rText : SFun := ⟨80, (.seq (.reg [⟨(some 1), (.box (.tmp 0)), none⟩, ⟨(some 2), (.mov (.const (.str []))), none⟩]) (.seq (.seq (.reg [⟨(some 7), (.fieldAddr 0 (.tmp 1)), none⟩, ⟨(some 8), (.load false 1 (.tmp 7)), none⟩, ⟨(some 9), (.bin .eql .none (.tmp 8) (.const (.int .i64 1))), none⟩]) (.cond (.tmp 9) (.seq (.reg [⟨(some 10), (.fieldAddr 2 (.tmp 1)), none⟩, ⟨(some 11), (.load false 1 (.tmp 10)), none⟩, ⟨(some 12), (.call 22 [(.tmp 11)]), none⟩, ⟨(some 13), (.call 21 [(.tmp 12)]), none⟩, ⟨(some 2), (.mov (.tmp 13)), none⟩]) .ret) .skip)) (.seq (.seq (.reg [⟨(some 14), (.fieldAddr 0 (.tmp 1)), none⟩, ⟨(some 15), (.load false 1 (.tmp 14)), none⟩, ⟨(some 16), (.bin .eql .none (.tmp 15) (.const (.int .i64 0))), none⟩]) (.cond (.tmp 16) (.seq (.reg [⟨(some 2), (.mov (.const (.str []))), none⟩]) .ret) .skip)) (.seq (.seq (.reg [⟨(some 17), (.fieldAddr 0 (.tmp 1)), none⟩, ⟨(some 18), (.load false 1 (.tmp 17)), none⟩, ⟨(some 19), (.bin .neq .none (.tmp 18) (.const (.int .i64 2))), none⟩]) (.cond (.tmp 19) (.seq (.reg [⟨(some 20), (.fieldAddr 3 (.tmp 1)), none⟩, ⟨(some 21), (.load false 1 (.tmp 20)), none⟩, ⟨(some 2), (.mov (.tmp 21)), none⟩]) .ret) .skip)) (.seq (.reg [⟨(some 3), (.mov (.const (.str [48, 49, 50, 51, 52, 53, 54, 55, 56, 57, 97, 98, 99, 100, 101, 102]))), none⟩]) (.seq (.reg [⟨(some 4), (.mov (.const (.str [34]))), none⟩]) (.seq (.seq (.reg [⟨(some 5), (.mov (.const (.int .i64 0))), none⟩]) (.block 0 (.loop (.seq (.seq (.reg [⟨(some 22), (.mov (.tmp 5)), none⟩, ⟨(some 23), (.fieldAddr 3 (.tmp 1)), none⟩, ⟨(some 24), (.load false 1 (.tmp 23)), none⟩, ⟨(some 25), (.len .str (.tmp 24)), none⟩, ⟨(some 26), (.bin .lss .none (.tmp 22) (.tmp 25)), none⟩]) (.cond (.tmp 26) .skip (.exit 0))) (.seq (.block 1 (.seq (.reg [⟨(some 29), (.fieldAddr 3 (.tmp 1)), none⟩, ⟨(some 30), (.load false 1 (.tmp 29)), none⟩, ⟨(some 31), (.mov (.tmp 5)), none⟩, ⟨(some 32), (.idxStr (.tmp 30) (.tmp 31)), none⟩, ⟨(some 6), (.mov (.tmp 32)), none⟩]) (.block 2 (.seq (.reg [⟨(some 47), (.mov (.tmp 6)), none⟩, ⟨(some 48), (.bin .eql .none (.tmp 47) (.const (.int .u8 34))), none⟩, ⟨(some 46), (.mov (.tmp 48)), none⟩]) (.cond (.tmp 46) (.reg [⟨(some 49), (.mov (.tmp 4)), none⟩, ⟨(some 50), (.bin .add .none (.tmp 49) (.const (.str [92, 34]))), none⟩, ⟨(some 4), (.mov (.tmp 50)), none⟩]) (.seq (.reg [⟨(some 52), (.mov (.tmp 6)), none⟩, ⟨(some 53), (.bin .eql .none (.tmp 52) (.const (.int .u8 92))), none⟩, ⟨(some 51), (.mov (.tmp 53)), none⟩]) (.cond (.tmp 51) (.reg [⟨(some 54), (.mov (.tmp 4)), none⟩, ⟨(some 55), (.bin .add .none (.tmp 54) (.const (.str [92, 92]))), none⟩, ⟨(some 4), (.mov (.tmp 55)), none⟩]) (.seq (.reg [⟨(some 57), (.mov (.tmp 6)), none⟩, ⟨(some 58), (.bin .eql .none (.tmp 57) (.const (.int .u8 10))), none⟩, ⟨(some 56), (.mov (.tmp 58)), none⟩]) (.cond (.tmp 56) (.reg [⟨(some 59), (.mov (.tmp 4)), none⟩, ⟨(some 60), (.bin .add .none (.tmp 59) (.const (.str [92, 110]))), none⟩, ⟨(some 4), (.mov (.tmp 60)), none⟩]) (.seq (.reg [⟨(some 62), (.mov (.tmp 6)), none⟩, ⟨(some 63), (.bin .eql .none (.tmp 62) (.const (.int .u8 9))), none⟩, ⟨(some 61), (.mov (.tmp 63)), none⟩]) (.cond (.tmp 61) (.reg [⟨(some 64), (.mov (.tmp 4)), none⟩, ⟨(some 65), (.bin .add .none (.tmp 64) (.const (.str [92, 116]))), none⟩, ⟨(some 4), (.mov (.tmp 65)), none⟩]) (.seq (.reg [⟨(some 67), (.mov (.tmp 6)), none⟩, ⟨(some 68), (.bin .geq .none (.tmp 67) (.const (.int .u8 32))), none⟩, ⟨(some 69), (.mov (.tmp 68)), none⟩, ⟨(some 70), (.mov (.tmp 6)), (some (69, true))⟩, ⟨(some 71), (.bin .leq .none (.tmp 70) (.const (.int .u8 126))), (some (69, true))⟩, ⟨(some 72), (.pick (.tmp 69) (.tmp 71) (.const (.bool false))), none⟩, ⟨(some 66), (.mov (.tmp 72)), none⟩]) (.cond (.tmp 66) (.reg [⟨(some 73), (.mov (.tmp 4)), none⟩, ⟨(some 74), (.mov (.tmp 6)), none⟩, ⟨(some 75), (.buildSl 1 (.int .u8 0) 1 [(0, (.tmp 74))]), none⟩, ⟨(some 76), (.toStr (.tmp 75)), none⟩, ⟨(some 77), (.bin .add .none (.tmp 73) (.tmp 76)), none⟩, ⟨(some 4), (.mov (.tmp 77)), none⟩]) (.dreg [(0, ⟨(some 33), (.mov (.tmp 4)), none⟩), (0, ⟨(some 34), (.mov (.tmp 3)), none⟩), (0, ⟨(some 35), (.mov (.tmp 6)), none⟩), (0, ⟨(some 36), (.bin .quo .none (.tmp 35) (.const (.int .u8 16))), none⟩), (0, ⟨(some 37), (.idxStr (.tmp 34) (.tmp 36)), none⟩), (0, ⟨(some 38), (.mov (.tmp 3)), none⟩), (0, ⟨(some 39), (.mov (.tmp 6)), none⟩), (0, ⟨(some 40), (.bin .rem .none (.tmp 39) (.const (.int .u8 16))), none⟩), (0, ⟨(some 41), (.idxStr (.tmp 38) (.tmp 40)), none⟩), (1, ⟨(some 42), (.buildSl 1 (.int .u8 0) 2 [(0, (.tmp 37)), (1, (.tmp 41))]), none⟩), (0, ⟨(some 43), (.toStr (.tmp 42)), none⟩), (0, ⟨(some 44), (.bin .add .none (.const (.str [92, 120])) (.tmp 43)), none⟩), (0, ⟨(some 45), (.bin .add .none (.tmp 33) (.tmp 44)), none⟩), (2, ⟨(some 4), (.mov (.tmp 45)), none⟩)])))))))))))))) (.reg [⟨(some 27), (.mov (.tmp 5)), none⟩, ⟨(some 28), (.bin .add .none (.tmp 27) (.const (.int .i64 1))), none⟩, ⟨(some 5), (.mov (.tmp 28)), none⟩])))))) (.seq (.reg [⟨(some 78), (.mov (.tmp 4)), none⟩, ⟨(some 79), (.bin .add .none (.tmp 78) (.const (.str [34]))), none⟩, ⟨(some 2), (.mov (.tmp 79)), none⟩]) .ret)))))))), [(.tmp 2)]⟩
theorem c_rText_ok : cFun Tryd.prog Tryd.f13 = some c_rText := by kernel_rfl

theorem decDigits_small {u : Nat} (h : u < 10) : Lib.decDigits u = [UInt8.ofNat (48 + u)] := by rw [Lib.decDigits, dif_pos h]
theorem decDigits_big {u : Nat} (h : ¬ u < 10) : Lib.decDigits u = Lib.decDigits (u / 10) ++ [UInt8.ofNat (48 + u % 10)] := by rw [Lib.decDigits, dif_neg h]
theorem decDigits_len (u : Nat) : (Lib.decDigits u).length ≤ u + 1 := by
  induction u using Nat.strongRecOn with
  | _ u ih =>
    by_cases h : u < 10
    · rw [decDigits_small h]; simp
    · rw [decDigits_big h, List.length_append]
      have := ih (u / 10) (by omega)
      simp only [List.length_singleton]
      omega

theorem u8_beq (c v : UInt8) : ((c.toNat : Int) == (v.toNat : Int)) = (c == v) := by
  rw [Bool.eq_iff_iff, beq_iff_eq, beq_iff_eq]
  exact ⟨fun h => UInt8.toNat_inj.1 (by omega), fun h => by rw [h]⟩

section
attribute [local irreducible] Bc ACallsW ALoop Fin St.set St.new
theorem rdigs_ok : ∀ (k : Nat) (n : Int), n.natAbs = k → n ≤ 0 → -4611686018427387904 ≤ n → ∀ (σ : St) (m), ACalls Tryd.prog 31 [.int .i64 n] σ m (fun e σ' => σ' = σ ∧ e = .ret (.str (Lib.decDigits n.natAbs))) := by
  intro k
  induction k using Nat.strongRecOn with
  | _ k ih =>
    intro n hk hn0 hn1 σ m
    obtain ⟨a, rfl⟩ : ∃ a : Nat, n = -(a : Int) := ⟨n.natAbs, by omega⟩
    have hna : (-(a : Int)).natAbs = a := by omega
    have e0 : IntKind.u8.wrap (IntKind.i64.wrap (48 - (-(a : Int)).tmod 10)) = (((UInt8.ofNat (48 + a % 10)).toNat : Nat) : Int) := by
      have : (-(a : Int)).tmod 10 = -((a % 10 : Nat) : Int) := by rw [Int.neg_tmod]; rfl
      rw [this, w64 (by omega) (by omega), wu8 (by omega) (by omega), UInt8.toNat_ofNat']
      have : (48 + a % 10) % 2 ^ 8 = 48 + a % 10 := Nat.mod_eq_of_lt (by omega)
      omega
    have eq : IntKind.i64.wrap ((-(a : Int)).tdiv 10) = -((a / 10 : Nat) : Int) := by
      have : (-(a : Int)).tdiv 10 = -((a / 10 : Nat) : Int) := by rw [Int.neg_tdiv]; rfl
      rw [this, w64 (by omega) (by omega)]
    rw [hna]
    refine acalls_go mixed Tryd.func31 c_rdigs_ok (Nat.le_of_ble_eq_true rfl) ?_
    conv => whnf
    repeat' (first
        | (refine Bc_t ?_; conv => whnf)
        | (refine Bc_f ?_; conv => whnf)
        | (rw [g1]; conv => whnf)
        | (rw [g2]; conv => whnf)
        | (rw [g3]; conv => whnf)
        | (rw [g4]; conv => whnf)
        | (rw [g5]; conv => whnf)
        | (rw [g6]; conv => whnf)
        | (rw [g7]; conv => whnf)
        | (rw [g8]; conv => whnf)
        | (rw [g9]; conv => whnf)
        | (rw [hr]; conv => whnf)
        | (refine Bc_split (fun hb => ?_) (fun hb => ?_) <;> (rw [hb]; conv => whnf))
        | (refine And.intro (by first
            | omega
            | assumption
            | (simp only [St.set_n, St.new_n] at *; omega)
            | (simp; done)
            | (simp; omega)
            | (intro _ _; first | assumption | (simp only [St.set_n, St.new_n] at *; omega))
            | (intro _; exact trivial)
            | (intro _; intro _ _; exact trivial)
            | (intro _; intro j hj; first | rfl | (have hj' : j < 1 := hj
                                                   obtain rfl : j = 0 := by omega
                                                   exact ⟨rfl, rfl⟩))
            | (intro j hj; obtain rfl : j = 0 := by omega
               first | exact ⟨rfl, rfl⟩ | exact .inl ⟨rfl, rfl⟩ | exact .inr (by omega) | exact ⟨by assumption, by assumption⟩ | assumption | trivial)
            | exact .inr (by assumption)
            | (intro j hj; exact .inr (by simp only [St.set_n, St.new_n] at *; omega))
            | (intro e he; rcases List.mem_singleton.1 he with rfl; exact ⟨rfl, rfl⟩)
            | (rw [St.set_ne _ _ (by first | assumption | omega | (simp only [St.set_n, St.new_n] at *; omega))]; assumption)
            | (rw [St.set_ne _ _ (by first | assumption | omega | (simp only [St.set_n, St.new_n] at *; omega)), St.set_ne _ _ (by first | assumption | omega | (simp only [St.set_n, St.new_n] at *; omega))]; assumption)
            | (simp only [decide_eq_true_eq, decide_eq_false_iff_not, Bool.not_eq_true, beq_iff_eq, beq_eq_false_iff_ne, ne_eq, ge_iff_le, gt_iff_lt] at *; omega)) ?_; conv => whnf)
        | (rw [St.set_same]; conv => whnf)
        | (rw [St.new_same]; conv => whnf)
        | (rw [St.set_ne _ _ (by first | assumption | omega | (simp only [St.set_n, St.new_n] at *; omega))]; conv => whnf)
        | (rw [St.new_ne _ _ (by first | assumption | omega | (simp only [St.set_n, St.new_n] at *; omega))]; conv => whnf))
    refine ⟨[UInt8.ofNat (48 + a % 10)], ?_, ?_⟩
    · show [A.int .u8 _] = [A.int .u8 _]
      rw [e0]
    by_cases ha : a < 10
    · have g1 : decide (-(a : Int) > -10) = true := decide_eq_true (by omega)
      conv => whnf
      repeat' (first
          | (refine Bc_t ?_; conv => whnf)
          | (refine Bc_f ?_; conv => whnf)
          | (rw [g1]; conv => whnf)
          | (rw [g2]; conv => whnf)
          | (rw [g3]; conv => whnf)
          | (rw [g4]; conv => whnf)
          | (rw [g5]; conv => whnf)
          | (rw [g6]; conv => whnf)
          | (rw [g7]; conv => whnf)
          | (rw [g8]; conv => whnf)
          | (rw [g9]; conv => whnf)
          | (rw [hr]; conv => whnf)
          | (refine Bc_split (fun hb => ?_) (fun hb => ?_) <;> (rw [hb]; conv => whnf))
          | (refine And.intro (by first
              | omega
              | assumption
              | (simp only [St.set_n, St.new_n] at *; omega)
              | (simp; done)
              | (simp; omega)
              | (intro _ _; first | assumption | (simp only [St.set_n, St.new_n] at *; omega))
              | (intro _; exact trivial)
              | (intro _; intro _ _; exact trivial)
              | (intro _; intro j hj; first | rfl | (have hj' : j < 1 := hj
                                                     obtain rfl : j = 0 := by omega
                                                     exact ⟨rfl, rfl⟩))
              | (intro j hj; obtain rfl : j = 0 := by omega
                 first | exact ⟨rfl, rfl⟩ | exact .inl ⟨rfl, rfl⟩ | exact .inr (by omega) | exact ⟨by assumption, by assumption⟩ | assumption | trivial)
              | exact .inr (by assumption)
              | (intro j hj; exact .inr (by simp only [St.set_n, St.new_n] at *; omega))
              | (intro e he; rcases List.mem_singleton.1 he with rfl; exact ⟨rfl, rfl⟩)
              | (rw [St.set_ne _ _ (by first | assumption | omega | (simp only [St.set_n, St.new_n] at *; omega))]; assumption)
              | (rw [St.set_ne _ _ (by first | assumption | omega | (simp only [St.set_n, St.new_n] at *; omega)), St.set_ne _ _ (by first | assumption | omega | (simp only [St.set_n, St.new_n] at *; omega))]; assumption)
              | (simp only [decide_eq_true_eq, decide_eq_false_iff_not, Bool.not_eq_true, beq_iff_eq, beq_eq_false_iff_ne, ne_eq, ge_iff_le, gt_iff_lt] at *; omega)) ?_; conv => whnf)
          | (rw [St.set_same]; conv => whnf)
          | (rw [St.new_same]; conv => whnf)
          | (rw [St.set_ne _ _ (by first | assumption | omega | (simp only [St.set_n, St.new_n] at *; omega))]; conv => whnf)
          | (rw [St.new_ne _ _ (by first | assumption | omega | (simp only [St.set_n, St.new_n] at *; omega))]; conv => whnf))
      exact Fin.of ⟨rfl, by rw [decDigits_small ha, Nat.mod_eq_of_lt ha]; rfl⟩
    · have g1 : decide (-(a : Int) > -10) = false := decide_eq_false (by omega)
      have hr := eq
      conv => whnf
      repeat' (first
          | (refine Bc_t ?_; conv => whnf)
          | (refine Bc_f ?_; conv => whnf)
          | (rw [g1]; conv => whnf)
          | (rw [g2]; conv => whnf)
          | (rw [g3]; conv => whnf)
          | (rw [g4]; conv => whnf)
          | (rw [g5]; conv => whnf)
          | (rw [g6]; conv => whnf)
          | (rw [g7]; conv => whnf)
          | (rw [g8]; conv => whnf)
          | (rw [g9]; conv => whnf)
          | (rw [hr]; conv => whnf)
          | (refine Bc_split (fun hb => ?_) (fun hb => ?_) <;> (rw [hb]; conv => whnf))
          | (refine And.intro (by first
              | omega
              | assumption
              | (simp only [St.set_n, St.new_n] at *; omega)
              | (simp; done)
              | (simp; omega)
              | (intro _ _; first | assumption | (simp only [St.set_n, St.new_n] at *; omega))
              | (intro _; exact trivial)
              | (intro _; intro _ _; exact trivial)
              | (intro _; intro j hj; first | rfl | (have hj' : j < 1 := hj
                                                     obtain rfl : j = 0 := by omega
                                                     exact ⟨rfl, rfl⟩))
              | (intro j hj; obtain rfl : j = 0 := by omega
                 first | exact ⟨rfl, rfl⟩ | exact .inl ⟨rfl, rfl⟩ | exact .inr (by omega) | exact ⟨by assumption, by assumption⟩ | assumption | trivial)
              | exact .inr (by assumption)
              | (intro j hj; exact .inr (by simp only [St.set_n, St.new_n] at *; omega))
              | (intro e he; rcases List.mem_singleton.1 he with rfl; exact ⟨rfl, rfl⟩)
              | (rw [St.set_ne _ _ (by first | assumption | omega | (simp only [St.set_n, St.new_n] at *; omega))]; assumption)
              | (rw [St.set_ne _ _ (by first | assumption | omega | (simp only [St.set_n, St.new_n] at *; omega)), St.set_ne _ _ (by first | assumption | omega | (simp only [St.set_n, St.new_n] at *; omega))]; assumption)
              | (simp only [decide_eq_true_eq, decide_eq_false_iff_not, Bool.not_eq_true, beq_iff_eq, beq_eq_false_iff_ne, ne_eq, ge_iff_le, gt_iff_lt] at *; omega)) ?_; conv => whnf)
          | (rw [St.set_same]; conv => whnf)
          | (rw [St.new_same]; conv => whnf)
          | (rw [St.set_ne _ _ (by first | assumption | omega | (simp only [St.set_n, St.new_n] at *; omega))]; conv => whnf)
          | (rw [St.new_ne _ _ (by first | assumption | omega | (simp only [St.set_n, St.new_n] at *; omega))]; conv => whnf))
      refine ACallsW.of (ih (a / 10) (by omega) (-((a / 10 : Nat) : Int)) (by omega) (by omega) (by omega) _ Non) (fun _ _ _ h => h.elim) ?_
      rintro _ σ1 _ ⟨e1, rfl⟩
      have e2 := e1.symm
      subst e2
      have hl := decDigits_len (a / 10)
      rw [show (-((a / 10 : Nat) : Int)).natAbs = a / 10 by omega]
      conv => whnf
      repeat' (first
          | (refine Bc_t ?_; conv => whnf)
          | (refine Bc_f ?_; conv => whnf)
          | (rw [g1]; conv => whnf)
          | (rw [g2]; conv => whnf)
          | (rw [g3]; conv => whnf)
          | (rw [g4]; conv => whnf)
          | (rw [g5]; conv => whnf)
          | (rw [g6]; conv => whnf)
          | (rw [g7]; conv => whnf)
          | (rw [g8]; conv => whnf)
          | (rw [g9]; conv => whnf)
          | (rw [hr]; conv => whnf)
          | (refine Bc_split (fun hb => ?_) (fun hb => ?_) <;> (rw [hb]; conv => whnf))
          | (refine And.intro (by first
              | omega
              | assumption
              | (simp only [St.set_n, St.new_n] at *; omega)
              | (simp; done)
              | (simp; omega)
              | (intro _ _; first | assumption | (simp only [St.set_n, St.new_n] at *; omega))
              | (intro _; exact trivial)
              | (intro _; intro _ _; exact trivial)
              | (intro _; intro j hj; first | rfl | (have hj' : j < 1 := hj
                                                     obtain rfl : j = 0 := by omega
                                                     exact ⟨rfl, rfl⟩))
              | (intro j hj; obtain rfl : j = 0 := by omega
                 first | exact ⟨rfl, rfl⟩ | exact .inl ⟨rfl, rfl⟩ | exact .inr (by omega) | exact ⟨by assumption, by assumption⟩ | assumption | trivial)
              | exact .inr (by assumption)
              | (intro j hj; exact .inr (by simp only [St.set_n, St.new_n] at *; omega))
              | (intro e he; rcases List.mem_singleton.1 he with rfl; exact ⟨rfl, rfl⟩)
              | (rw [St.set_ne _ _ (by first | assumption | omega | (simp only [St.set_n, St.new_n] at *; omega))]; assumption)
              | (rw [St.set_ne _ _ (by first | assumption | omega | (simp only [St.set_n, St.new_n] at *; omega)), St.set_ne _ _ (by first | assumption | omega | (simp only [St.set_n, St.new_n] at *; omega))]; assumption)
              | (simp only [decide_eq_true_eq, decide_eq_false_iff_not, Bool.not_eq_true, beq_iff_eq, beq_eq_false_iff_ne, ne_eq, ge_iff_le, gt_iff_lt] at *; omega)) ?_; conv => whnf)
          | (rw [St.set_same]; conv => whnf)
          | (rw [St.new_same]; conv => whnf)
          | (rw [St.set_ne _ _ (by first | assumption | omega | (simp only [St.set_n, St.new_n] at *; omega))]; conv => whnf)
          | (rw [St.new_ne _ _ (by first | assumption | omega | (simp only [St.set_n, St.new_n] at *; omega))]; conv => whnf))
      exact Fin.of ⟨rfl, by rw [decDigits_big ha]; rfl⟩

theorem itoa_cut_len (z : Int) : (Lib.itoa z).length ≤ z.natAbs + 2 := by
  unfold Lib.itoa
  split
  · have := decDigits_len z.natAbs; simp only [List.length_cons]; omega
  · have := decDigits_len z.toNat; omega

/-- The reference's digits, of a word. -/
theorem rDig_ok (c : Int) (h0 : 0 ≤ c) (h1 : c < 9223372036854775808) (σ : St) (m) : ACalls Tryd.prog 21 [.int .u64 (2 * c + 1)] σ m (fun e σ' => σ' = σ ∧ e = .ret (.str (Lib.itoa (if c < 4611686018427387904 then c else c - 9223372036854775808)))) := by
  refine acalls_go mixed Tryd.func21 c_rDig_ok (Nat.le_of_ble_eq_true rfl) ?_
  conv => whnf
  refine ACallsW.of (rnum_ok c h0 h1 _ Non) (fun _ _ _ h => h.elim) ?_
  rintro _ σ1 _ ⟨e1, rfl⟩
  have e2 := e1.symm
  subst e2
  have hz : -4611686018427387904 ≤ (if c < 4611686018427387904 then c else c - 9223372036854775808) ∧ (if c < 4611686018427387904 then c else c - 9223372036854775808) < 4611686018427387904 := by split <;> omega
  generalize (if c < 4611686018427387904 then c else c - 9223372036854775808) = z at hz ⊢
  by_cases hn : z < 0
  · have g1 : decide (z < 0) = true := decide_eq_true hn
    conv => whnf
    repeat' (first
        | (refine Bc_t ?_; conv => whnf)
        | (refine Bc_f ?_; conv => whnf)
        | (rw [g1]; conv => whnf)
        | (rw [g2]; conv => whnf)
        | (rw [g3]; conv => whnf)
        | (rw [g4]; conv => whnf)
        | (rw [g5]; conv => whnf)
        | (rw [g6]; conv => whnf)
        | (rw [g7]; conv => whnf)
        | (rw [g8]; conv => whnf)
        | (rw [g9]; conv => whnf)
        | (rw [hr]; conv => whnf)
        | (refine Bc_split (fun hb => ?_) (fun hb => ?_) <;> (rw [hb]; conv => whnf))
        | (refine And.intro (by first
            | omega
            | assumption
            | (simp only [St.set_n, St.new_n] at *; omega)
            | (simp; done)
            | (simp; omega)
            | (intro _ _; first | assumption | (simp only [St.set_n, St.new_n] at *; omega))
            | (intro _; exact trivial)
            | (intro _; intro _ _; exact trivial)
            | (intro _; intro j hj; first | rfl | (have hj' : j < 1 := hj
                                                   obtain rfl : j = 0 := by omega
                                                   exact ⟨rfl, rfl⟩))
            | (intro j hj; obtain rfl : j = 0 := by omega
               first | exact ⟨rfl, rfl⟩ | exact .inl ⟨rfl, rfl⟩ | exact .inr (by omega) | exact ⟨by assumption, by assumption⟩ | assumption | trivial)
            | exact .inr (by assumption)
            | (intro j hj; exact .inr (by simp only [St.set_n, St.new_n] at *; omega))
            | (intro e he; rcases List.mem_singleton.1 he with rfl; exact ⟨rfl, rfl⟩)
            | (rw [St.set_ne _ _ (by first | assumption | omega | (simp only [St.set_n, St.new_n] at *; omega))]; assumption)
            | (rw [St.set_ne _ _ (by first | assumption | omega | (simp only [St.set_n, St.new_n] at *; omega)), St.set_ne _ _ (by first | assumption | omega | (simp only [St.set_n, St.new_n] at *; omega))]; assumption)
            | (simp only [decide_eq_true_eq, decide_eq_false_iff_not, Bool.not_eq_true, beq_iff_eq, beq_eq_false_iff_ne, ne_eq, ge_iff_le, gt_iff_lt] at *; omega)) ?_; conv => whnf)
        | (rw [St.set_same]; conv => whnf)
        | (rw [St.new_same]; conv => whnf)
        | (rw [St.set_ne _ _ (by first | assumption | omega | (simp only [St.set_n, St.new_n] at *; omega))]; conv => whnf)
        | (rw [St.new_ne _ _ (by first | assumption | omega | (simp only [St.set_n, St.new_n] at *; omega))]; conv => whnf))
    refine ACallsW.of (rdigs_ok z.natAbs z rfl (by omega) (by omega) _ Non) (fun _ _ _ h => h.elim) ?_
    rintro _ σ1 _ ⟨e1, rfl⟩
    have e2 := e1.symm
    subst e2
    have hl := decDigits_len z.natAbs
    conv => whnf
    repeat' (first
        | (refine Bc_t ?_; conv => whnf)
        | (refine Bc_f ?_; conv => whnf)
        | (rw [g1]; conv => whnf)
        | (rw [g2]; conv => whnf)
        | (rw [g3]; conv => whnf)
        | (rw [g4]; conv => whnf)
        | (rw [g5]; conv => whnf)
        | (rw [g6]; conv => whnf)
        | (rw [g7]; conv => whnf)
        | (rw [g8]; conv => whnf)
        | (rw [g9]; conv => whnf)
        | (rw [hr]; conv => whnf)
        | (refine Bc_split (fun hb => ?_) (fun hb => ?_) <;> (rw [hb]; conv => whnf))
        | (refine And.intro (by first
            | omega
            | assumption
            | (simp only [St.set_n, St.new_n] at *; omega)
            | (simp; done)
            | (simp; omega)
            | (intro _ _; first | assumption | (simp only [St.set_n, St.new_n] at *; omega))
            | (intro _; exact trivial)
            | (intro _; intro _ _; exact trivial)
            | (intro _; intro j hj; first | rfl | (have hj' : j < 1 := hj
                                                   obtain rfl : j = 0 := by omega
                                                   exact ⟨rfl, rfl⟩))
            | (intro j hj; obtain rfl : j = 0 := by omega
               first | exact ⟨rfl, rfl⟩ | exact .inl ⟨rfl, rfl⟩ | exact .inr (by omega) | exact ⟨by assumption, by assumption⟩ | assumption | trivial)
            | exact .inr (by assumption)
            | (intro j hj; exact .inr (by simp only [St.set_n, St.new_n] at *; omega))
            | (intro e he; rcases List.mem_singleton.1 he with rfl; exact ⟨rfl, rfl⟩)
            | (rw [St.set_ne _ _ (by first | assumption | omega | (simp only [St.set_n, St.new_n] at *; omega))]; assumption)
            | (rw [St.set_ne _ _ (by first | assumption | omega | (simp only [St.set_n, St.new_n] at *; omega)), St.set_ne _ _ (by first | assumption | omega | (simp only [St.set_n, St.new_n] at *; omega))]; assumption)
            | (simp only [decide_eq_true_eq, decide_eq_false_iff_not, Bool.not_eq_true, beq_iff_eq, beq_eq_false_iff_ne, ne_eq, ge_iff_le, gt_iff_lt] at *; omega)) ?_; conv => whnf)
        | (rw [St.set_same]; conv => whnf)
        | (rw [St.new_same]; conv => whnf)
        | (rw [St.set_ne _ _ (by first | assumption | omega | (simp only [St.set_n, St.new_n] at *; omega))]; conv => whnf)
        | (rw [St.new_ne _ _ (by first | assumption | omega | (simp only [St.set_n, St.new_n] at *; omega))]; conv => whnf))
    exact Fin.of ⟨rfl, by unfold Lib.itoa; rw [if_pos hn]; rfl⟩
  · have g1 : decide (z < 0) = false := decide_eq_false hn
    have hr : IntKind.i64.wrap (0 - z) = -z := by rw [w64 (by omega) (by omega)]; omega
    conv => whnf
    repeat' (first
        | (refine Bc_t ?_; conv => whnf)
        | (refine Bc_f ?_; conv => whnf)
        | (rw [g1]; conv => whnf)
        | (rw [g2]; conv => whnf)
        | (rw [g3]; conv => whnf)
        | (rw [g4]; conv => whnf)
        | (rw [g5]; conv => whnf)
        | (rw [g6]; conv => whnf)
        | (rw [g7]; conv => whnf)
        | (rw [g8]; conv => whnf)
        | (rw [g9]; conv => whnf)
        | (rw [hr]; conv => whnf)
        | (refine Bc_split (fun hb => ?_) (fun hb => ?_) <;> (rw [hb]; conv => whnf))
        | (refine And.intro (by first
            | omega
            | assumption
            | (simp only [St.set_n, St.new_n] at *; omega)
            | (simp; done)
            | (simp; omega)
            | (intro _ _; first | assumption | (simp only [St.set_n, St.new_n] at *; omega))
            | (intro _; exact trivial)
            | (intro _; intro _ _; exact trivial)
            | (intro _; intro j hj; first | rfl | (have hj' : j < 1 := hj
                                                   obtain rfl : j = 0 := by omega
                                                   exact ⟨rfl, rfl⟩))
            | (intro j hj; obtain rfl : j = 0 := by omega
               first | exact ⟨rfl, rfl⟩ | exact .inl ⟨rfl, rfl⟩ | exact .inr (by omega) | exact ⟨by assumption, by assumption⟩ | assumption | trivial)
            | exact .inr (by assumption)
            | (intro j hj; exact .inr (by simp only [St.set_n, St.new_n] at *; omega))
            | (intro e he; rcases List.mem_singleton.1 he with rfl; exact ⟨rfl, rfl⟩)
            | (rw [St.set_ne _ _ (by first | assumption | omega | (simp only [St.set_n, St.new_n] at *; omega))]; assumption)
            | (rw [St.set_ne _ _ (by first | assumption | omega | (simp only [St.set_n, St.new_n] at *; omega)), St.set_ne _ _ (by first | assumption | omega | (simp only [St.set_n, St.new_n] at *; omega))]; assumption)
            | (simp only [decide_eq_true_eq, decide_eq_false_iff_not, Bool.not_eq_true, beq_iff_eq, beq_eq_false_iff_ne, ne_eq, ge_iff_le, gt_iff_lt] at *; omega)) ?_; conv => whnf)
        | (rw [St.set_same]; conv => whnf)
        | (rw [St.new_same]; conv => whnf)
        | (rw [St.set_ne _ _ (by first | assumption | omega | (simp only [St.set_n, St.new_n] at *; omega))]; conv => whnf)
        | (rw [St.new_ne _ _ (by first | assumption | omega | (simp only [St.set_n, St.new_n] at *; omega))]; conv => whnf))
    refine ACallsW.of (rdigs_ok z.natAbs (-z) (by omega) (by omega) (by omega) _ Non) (fun _ _ _ h => h.elim) ?_
    rintro _ σ1 _ ⟨e1, rfl⟩
    have e2 := e1.symm
    subst e2
    conv => whnf
    repeat' (first
        | (refine Bc_t ?_; conv => whnf)
        | (refine Bc_f ?_; conv => whnf)
        | (rw [g1]; conv => whnf)
        | (rw [g2]; conv => whnf)
        | (rw [g3]; conv => whnf)
        | (rw [g4]; conv => whnf)
        | (rw [g5]; conv => whnf)
        | (rw [g6]; conv => whnf)
        | (rw [g7]; conv => whnf)
        | (rw [g8]; conv => whnf)
        | (rw [g9]; conv => whnf)
        | (rw [hr]; conv => whnf)
        | (refine Bc_split (fun hb => ?_) (fun hb => ?_) <;> (rw [hb]; conv => whnf))
        | (refine And.intro (by first
            | omega
            | assumption
            | (simp only [St.set_n, St.new_n] at *; omega)
            | (simp; done)
            | (simp; omega)
            | (intro _ _; first | assumption | (simp only [St.set_n, St.new_n] at *; omega))
            | (intro _; exact trivial)
            | (intro _; intro _ _; exact trivial)
            | (intro _; intro j hj; first | rfl | (have hj' : j < 1 := hj
                                                   obtain rfl : j = 0 := by omega
                                                   exact ⟨rfl, rfl⟩))
            | (intro j hj; obtain rfl : j = 0 := by omega
               first | exact ⟨rfl, rfl⟩ | exact .inl ⟨rfl, rfl⟩ | exact .inr (by omega) | exact ⟨by assumption, by assumption⟩ | assumption | trivial)
            | exact .inr (by assumption)
            | (intro j hj; exact .inr (by simp only [St.set_n, St.new_n] at *; omega))
            | (intro e he; rcases List.mem_singleton.1 he with rfl; exact ⟨rfl, rfl⟩)
            | (rw [St.set_ne _ _ (by first | assumption | omega | (simp only [St.set_n, St.new_n] at *; omega))]; assumption)
            | (rw [St.set_ne _ _ (by first | assumption | omega | (simp only [St.set_n, St.new_n] at *; omega)), St.set_ne _ _ (by first | assumption | omega | (simp only [St.set_n, St.new_n] at *; omega))]; assumption)
            | (simp only [decide_eq_true_eq, decide_eq_false_iff_not, Bool.not_eq_true, beq_iff_eq, beq_eq_false_iff_ne, ne_eq, ge_iff_le, gt_iff_lt] at *; omega)) ?_; conv => whnf)
        | (rw [St.set_same]; conv => whnf)
        | (rw [St.new_same]; conv => whnf)
        | (rw [St.set_ne _ _ (by first | assumption | omega | (simp only [St.set_n, St.new_n] at *; omega))]; conv => whnf)
        | (rw [St.new_ne _ _ (by first | assumption | omega | (simp only [St.set_n, St.new_n] at *; omega))]; conv => whnf))
    refine Fin.of ⟨rfl, ?_⟩
    unfold Lib.itoa
    rw [if_neg hn, show z.toNat = (-z).natAbs by omega]
    rfl

/-- The program's digits, of any word. -/
theorem wDig_ok (c : Int) (h0 : 0 ≤ c) (h1 : c < 9223372036854775808) (σ : St) (hB : B0 σ.base) (m) : ACalls Tryd.prog 18 [.int .u64 (2 * c + 1)] σ m (fun e σ' => σ' = σ ∧ e = .ret (.str (Lib.itoa (if c < 4611686018427387904 then c else c - 9223372036854775808)))) := by
  refine acalls_go mixed Tryd.func18 c_wdig_ok (Nat.le_of_ble_eq_true rfl) ?_
  conv => whnf
  refine ACallsW.of (wnum_ok c h0 h1 _ Non) (fun _ _ _ h => h.elim) ?_
  rintro _ σ1 _ ⟨e1, rfl⟩
  have e2 := e1.symm
  subst e2
  conv => whnf
  refine ACallsW.of (formatInt_ok _ (by split <;> omega) (by split <;> omega) _ hB Non) (fun _ _ _ h => h.elim) ?_
  rintro _ σ1 _ ⟨e1, rfl⟩
  have e2 := e1.symm
  subst e2
  conv => whnf
  exact Fin.of ⟨rfl, rfl⟩
end
end Go.Proofs.YtjeccchbeflddaaDoor.Ga
