/- The reference's lexer: letters, places, comments, forms. -/
import Derived.Test.YtjeccchbeflddaaGreatDoorLr1
import Derived.Test.YtjeccchbeflddaaGreatDoorLw
set_option linter.unusedVariables false
set_option linter.unusedSimpArgs false
namespace Go.Proofs.YtjeccchbeflddaaGreatDoor.Lx
theorem com_split : ∀ (n : Nat) (l : List UInt8), l.length = n → ∀ d, 1 ≤ d → com (d + 1) l = match com 1 l with | none => none | some r => com d r := by
  intro n
  induction n using Nat.strongRecOn with
  | _ n ih =>
    intro l hl d hd
    match l, hl with
    | [], _ => simp [com]
    | [a], _ => simp [com]
    | a :: b :: r, hl =>
      simp only [List.length_cons] at hl
      rw [com_cc, com_cc]
      by_cases h1 : (a == 40 && b == 42) = true
      · rw [if_pos h1, if_pos h1, ih r.length (by omega) r rfl (d + 1) (by omega), ih r.length (by omega) r rfl 1 (Nat.le_refl _)]
        cases hr : com 1 r with
        | none => rfl
        | some r' =>
          have := com_len r 1 r' hr
          exact ih r'.length (by omega) r' rfl d hd
      · rw [if_neg h1, if_neg h1]
        by_cases h2 : (a == 42 && b == 41) = true
        · rw [if_pos h2, if_pos h2, if_neg (by omega), if_pos rfl]; rfl
        · rw [if_neg h2, if_neg h2]
          exact ih (b :: r).length (by simp only [List.length_cons]; omega) (b :: r) rfl d hd
end Go.Proofs.YtjeccchbeflddaaGreatDoor.Lx
namespace Go.Proofs.YtjeccchbeflddaaGreatDoor.Ga
open Lx

def c_zsmall : SFun := ⟨13, (.seq (.reg [⟨(some 2), (.mov (.const (.bool false))), none⟩]) (.seq (.reg [⟨(some 3), (.mov (.tmp 0)), none⟩, ⟨(some 4), (.bin .geq .none (.tmp 3) (.const (.int .u8 97))), none⟩, ⟨(some 5), (.mov (.tmp 4)), none⟩, ⟨(some 6), (.mov (.tmp 0)), (some (5, true))⟩, ⟨(some 7), (.bin .leq .none (.tmp 6) (.const (.int .u8 122))), (some (5, true))⟩, ⟨(some 8), (.pick (.tmp 5) (.tmp 7) (.const (.bool false))), none⟩, ⟨(some 9), (.mov (.tmp 8)), none⟩, ⟨(some 10), (.mov (.tmp 0)), (some (9, false))⟩, ⟨(some 11), (.bin .eql .none (.tmp 10) (.const (.int .u8 95))), (some (9, false))⟩, ⟨(some 12), (.pick (.tmp 9) (.const (.bool true)) (.tmp 11)), none⟩, ⟨(some 2), (.mov (.tmp 12)), none⟩]) .ret)), [(.tmp 2)]⟩
theorem c_zsmall_ok : cFun Tryz.prog Tryz.f31 = some c_zsmall := by kernel_rfl
def c_zgreat : SFun := ⟨9, (.seq (.reg [⟨(some 2), (.mov (.const (.bool false))), none⟩]) (.seq (.reg [⟨(some 3), (.mov (.tmp 0)), none⟩, ⟨(some 4), (.bin .geq .none (.tmp 3) (.const (.int .u8 65))), none⟩, ⟨(some 5), (.mov (.tmp 4)), none⟩, ⟨(some 6), (.mov (.tmp 0)), (some (5, true))⟩, ⟨(some 7), (.bin .leq .none (.tmp 6) (.const (.int .u8 90))), (some (5, true))⟩, ⟨(some 8), (.pick (.tmp 5) (.tmp 7) (.const (.bool false))), none⟩, ⟨(some 2), (.mov (.tmp 8)), none⟩]) .ret)), [(.tmp 2)]⟩
theorem c_zgreat_ok : cFun Tryz.prog Tryz.f32 = some c_zgreat := by kernel_rfl
def c_zdigit : SFun := ⟨9, (.seq (.reg [⟨(some 2), (.mov (.const (.bool false))), none⟩]) (.seq (.reg [⟨(some 3), (.mov (.tmp 0)), none⟩, ⟨(some 4), (.bin .geq .none (.tmp 3) (.const (.int .u8 48))), none⟩, ⟨(some 5), (.mov (.tmp 4)), none⟩, ⟨(some 6), (.mov (.tmp 0)), (some (5, true))⟩, ⟨(some 7), (.bin .leq .none (.tmp 6) (.const (.int .u8 57))), (some (5, true))⟩, ⟨(some 8), (.pick (.tmp 5) (.tmp 7) (.const (.bool false))), none⟩, ⟨(some 2), (.mov (.tmp 8)), none⟩]) .ret)), [(.tmp 2)]⟩
theorem c_zdigit_ok : cFun Tryz.prog Tryz.f33 = some c_zdigit := by kernel_rfl
def c_zat : SFun := ⟨25, (.seq (.reg [⟨(some 6), (.mov (.const (.bool false))), none⟩]) (.seq (.reg [⟨(some 7), (.mov (.tmp 1)), none⟩, ⟨(some 8), (.mov (.tmp 2)), none⟩, ⟨(some 9), (.len .str (.tmp 8)), none⟩, ⟨(some 10), (.bin .add .none (.tmp 7) (.tmp 9)), none⟩, ⟨(some 11), (.mov (.tmp 0)), none⟩, ⟨(some 12), (.len .str (.tmp 11)), none⟩, ⟨(some 13), (.bin .leq .none (.tmp 10) (.tmp 12)), none⟩, ⟨(some 14), (.mov (.tmp 13)), none⟩, ⟨(some 15), (.mov (.tmp 0)), (some (14, true))⟩, ⟨(some 16), (.mov (.tmp 1)), (some (14, true))⟩, ⟨(some 17), (.mov (.tmp 1)), (some (14, true))⟩, ⟨(some 18), (.mov (.tmp 2)), (some (14, true))⟩, ⟨(some 19), (.len .str (.tmp 18)), (some (14, true))⟩, ⟨(some 20), (.bin .add .none (.tmp 17) (.tmp 19)), (some (14, true))⟩, ⟨(some 21), (.sliceStr (.tmp 15) (some (.tmp 16)) (some (.tmp 20))), (some (14, true))⟩, ⟨(some 22), (.mov (.tmp 2)), (some (14, true))⟩, ⟨(some 23), (.bin .eql .none (.tmp 21) (.tmp 22)), (some (14, true))⟩, ⟨(some 24), (.pick (.tmp 14) (.tmp 23) (.const (.bool false))), none⟩, ⟨(some 6), (.mov (.tmp 24)), none⟩]) .ret)), [(.tmp 6)]⟩
theorem c_zat_ok : cFun Tryz.prog Tryz.f14 = some c_zat := by kernel_rfl
def c_zcomment : SFun := ⟨33, (.seq (.reg [⟨(some 4), (.mov (.const (.int .i64 0))), none⟩, ⟨(some 5), (.mov (.const (.bool false))), none⟩]) (.seq (.reg [⟨(some 8), (.mov (.tmp 1)), none⟩, ⟨(some 9), (.bin .add .none (.tmp 8) (.const (.int .i64 2))), none⟩, ⟨(some 1), (.mov (.tmp 9)), none⟩]) (.seq (.block 0 (.loop (.seq (.seq (.reg [⟨(some 10), (.mov (.tmp 1)), none⟩, ⟨(some 11), (.mov (.tmp 0)), none⟩, ⟨(some 12), (.len .str (.tmp 11)), none⟩, ⟨(some 13), (.bin .lss .none (.tmp 10) (.tmp 12)), none⟩]) (.cond (.tmp 13) .skip (.exit 0))) (.block 1 (.seq (.seq (.reg [⟨(some 14), (.mov (.tmp 0)), none⟩, ⟨(some 15), (.mov (.tmp 1)), none⟩, ⟨(some 16), (.call 14 [(.tmp 14), (.tmp 15), (.const (.str [42, 41]))]), none⟩]) (.cond (.tmp 16) (.seq (.reg [⟨(some 17), (.mov (.tmp 1)), none⟩, ⟨(some 18), (.bin .add .none (.tmp 17) (.const (.int .i64 2))), none⟩, ⟨(some 4), (.mov (.tmp 18)), none⟩, ⟨(some 5), (.mov (.const (.bool true))), none⟩]) .ret) .skip)) (.seq (.seq (.reg [⟨(some 19), (.mov (.tmp 0)), none⟩, ⟨(some 20), (.mov (.tmp 1)), none⟩, ⟨(some 21), (.call 14 [(.tmp 19), (.tmp 20), (.const (.str [40, 42]))]), none⟩]) (.cond (.tmp 21) (.seq (.reg [⟨(some 23), (.mov (.tmp 0)), none⟩, ⟨(some 24), (.mov (.tmp 1)), none⟩, ⟨(some 25), (.call 15 [(.tmp 23), (.tmp 24)]), none⟩, ⟨(some 22), (.mov (.tmp 25)), none⟩, ⟨(some 26), (.extract (.tmp 22) 0), none⟩, ⟨(some 27), (.extract (.tmp 22) 1), none⟩, ⟨(some 6), (.mov (.tmp 26)), none⟩, ⟨(some 7), (.mov (.tmp 27)), none⟩]) (.seq (.seq (.reg [⟨(some 28), (.mov (.tmp 7)), none⟩, ⟨(some 29), (.un .not (.tmp 28)), none⟩]) (.cond (.tmp 29) (.seq (.reg [⟨(some 4), (.mov (.const (.int .i64 0))), none⟩, ⟨(some 5), (.mov (.const (.bool false))), none⟩]) .ret) .skip)) (.seq (.reg [⟨(some 30), (.mov (.tmp 6)), none⟩, ⟨(some 1), (.mov (.tmp 30)), none⟩]) (.exit 1)))) .skip)) (.reg [⟨(some 31), (.mov (.tmp 1)), none⟩, ⟨(some 32), (.bin .add .none (.tmp 31) (.const (.int .i64 1))), none⟩, ⟨(some 1), (.mov (.tmp 32)), none⟩]))))))) (.seq (.reg [⟨(some 4), (.mov (.const (.int .i64 0))), none⟩, ⟨(some 5), (.mov (.const (.bool false))), none⟩]) .ret)))), [(.tmp 4), (.tmp 5)]⟩
theorem c_zcomment_ok : cFun Tryz.prog Tryz.f15 = some c_zcomment := by kernel_rfl
def c_zhex : SFun := ⟨18, (.seq (.reg [⟨(some 2), (.mov (.const (.int .i64 0))), none⟩]) (.seq (.seq (.reg [⟨(some 3), (.mov (.tmp 0)), none⟩, ⟨(some 4), (.call 33 [(.tmp 3)]), none⟩]) (.cond (.tmp 4) (.seq (.reg [⟨(some 5), (.mov (.tmp 0)), none⟩, ⟨(some 6), (.bin .sub .none (.tmp 5) (.const (.int .u8 48))), none⟩, ⟨(some 7), (.toInt .i64 (.tmp 6)), none⟩, ⟨(some 2), (.mov (.tmp 7)), none⟩]) .ret) .skip)) (.seq (.seq (.reg [⟨(some 8), (.mov (.tmp 0)), none⟩, ⟨(some 9), (.bin .geq .none (.tmp 8) (.const (.int .u8 97))), none⟩, ⟨(some 10), (.mov (.tmp 9)), none⟩, ⟨(some 11), (.mov (.tmp 0)), (some (10, true))⟩, ⟨(some 12), (.bin .leq .none (.tmp 11) (.const (.int .u8 102))), (some (10, true))⟩, ⟨(some 13), (.pick (.tmp 10) (.tmp 12) (.const (.bool false))), none⟩]) (.cond (.tmp 13) (.seq (.reg [⟨(some 14), (.mov (.tmp 0)), none⟩, ⟨(some 15), (.bin .sub .none (.tmp 14) (.const (.int .u8 97))), none⟩, ⟨(some 16), (.toInt .i64 (.tmp 15)), none⟩, ⟨(some 17), (.bin .add .none (.tmp 16) (.const (.int .i64 10))), none⟩, ⟨(some 2), (.mov (.tmp 17)), none⟩]) .ret) .skip)) (.seq (.reg [⟨(some 2), (.mov (.const (.int .i64 (-1)))), none⟩]) .ret)))), [(.tmp 2)]⟩
theorem c_zhex_ok : cFun Tryz.prog Tryz.f61 = some c_zhex := by kernel_rfl

def comA (s : List UInt8) (i : Nat) : A := match com 1 (s.drop (i + 2)) with
  | none => .tup [.int .i64 0, .bool false]
  | some r => .tup [.int .i64 (s.length - r.length : Nat), .bool true]

def hexA (c : UInt8) : Int := match hexVal c with | some x => x | none => -1

section
attribute [local irreducible] Bc ACallsW ALoop Fin St.set St.new
theorem zsmall_ok (b : UInt8) (σ : St) (m) : ACalls Tryz.prog 31 [.int .u8 b.toNat] σ m (fun e σ' => σ' = σ ∧ e = .ret (.bool (isSmall b))) := by
  refine acalls_go mixed Tryz.func31 c_zsmall_ok (Nat.le_of_ble_eq_true rfl) ?_
  conv => whnf
  repeat' (first
      | (refine Bc_t ?_; conv => whnf)
      | (refine Bc_f ?_; conv => whnf)
      | (rw [g1]; conv => whnf)
      | (rw [g2]; conv => whnf)
      | (rw [g3]; conv => whnf)
      | (rw [g4]; conv => whnf)
      | (rw [g5]; conv => whnf)
      | (rw [g6]; conv => whnf)
      | (rw [hr]; conv => whnf)
      | (refine Bc_split (fun hb => ?_) (fun hb => ?_) <;> (rw [hb]; conv => whnf))
      | (refine And.intro (by first
          | omega
          | assumption
          | (simp only [St.set_n, St.new_n] at *; omega)
          | (simp; done)
          | (simp; omega)
          | (intro _; exact trivial)
          | (intro _; intro _ _; exact trivial)
          | (intro _; intro j hj; first | rfl | (have hj' : j < 1 := hj
                                                 obtain rfl : j = 0 := by omega
                                                 exact ⟨rfl, rfl⟩))
          | (intro j hj; obtain rfl : j = 0 := by omega
             first | exact ⟨rfl, rfl⟩ | exact .inl ⟨rfl, rfl⟩ | exact .inr (by omega) | exact ⟨by assumption, by assumption⟩ | assumption | trivial)
          | exact .inr (by assumption)
          | (intro j hj; exact .inr (by simp only [St.set_n, St.new_n] at *; omega))
          | (intro e he; rcases List.mem_singleton.1 he with rfl; exact ⟨rfl, rfl⟩)
          | (rw [St.set_ne _ _ (by first | assumption | omega | (simp only [St.set_n, St.new_n] at *; omega))]; assumption)
          | (rw [St.set_ne _ _ (by first | assumption | omega | (simp only [St.set_n, St.new_n] at *; omega)), St.set_ne _ _ (by first | assumption | omega | (simp only [St.set_n, St.new_n] at *; omega))]; assumption)
          | (simp only [decide_eq_true_eq, decide_eq_false_iff_not, Bool.not_eq_true, beq_iff_eq, beq_eq_false_iff_ne, ne_eq, ge_iff_le, gt_iff_lt] at *; omega)) ?_; conv => whnf)
      | (rw [St.set_same]; conv => whnf)
      | (rw [St.new_same]; conv => whnf)
      | (rw [St.set_ne _ _ (by first | assumption | omega | (simp only [St.set_n, St.new_n] at *; omega))]; conv => whnf)
      | (rw [St.new_ne _ _ (by first | assumption | omega | (simp only [St.set_n, St.new_n] at *; omega))]; conv => whnf))
  all_goals refine Fin.of ⟨rfl, congrArg (fun z => AEnd.ret (A.bool z)) (Bool.eq_iff_iff.2 ?_)⟩
  all_goals simp [isSmall] at *
  all_goals omega
theorem zgreat_ok (b : UInt8) (σ : St) (m) : ACalls Tryz.prog 32 [.int .u8 b.toNat] σ m (fun e σ' => σ' = σ ∧ e = .ret (.bool (isGreat b))) := by
  refine acalls_go mixed Tryz.func32 c_zgreat_ok (Nat.le_of_ble_eq_true rfl) ?_
  conv => whnf
  repeat' (first
      | (refine Bc_t ?_; conv => whnf)
      | (refine Bc_f ?_; conv => whnf)
      | (rw [g1]; conv => whnf)
      | (rw [g2]; conv => whnf)
      | (rw [g3]; conv => whnf)
      | (rw [g4]; conv => whnf)
      | (rw [g5]; conv => whnf)
      | (rw [g6]; conv => whnf)
      | (rw [hr]; conv => whnf)
      | (refine Bc_split (fun hb => ?_) (fun hb => ?_) <;> (rw [hb]; conv => whnf))
      | (refine And.intro (by first
          | omega
          | assumption
          | (simp only [St.set_n, St.new_n] at *; omega)
          | (simp; done)
          | (simp; omega)
          | (intro _; exact trivial)
          | (intro _; intro _ _; exact trivial)
          | (intro _; intro j hj; first | rfl | (have hj' : j < 1 := hj
                                                 obtain rfl : j = 0 := by omega
                                                 exact ⟨rfl, rfl⟩))
          | (intro j hj; obtain rfl : j = 0 := by omega
             first | exact ⟨rfl, rfl⟩ | exact .inl ⟨rfl, rfl⟩ | exact .inr (by omega) | exact ⟨by assumption, by assumption⟩ | assumption | trivial)
          | exact .inr (by assumption)
          | (intro j hj; exact .inr (by simp only [St.set_n, St.new_n] at *; omega))
          | (intro e he; rcases List.mem_singleton.1 he with rfl; exact ⟨rfl, rfl⟩)
          | (rw [St.set_ne _ _ (by first | assumption | omega | (simp only [St.set_n, St.new_n] at *; omega))]; assumption)
          | (rw [St.set_ne _ _ (by first | assumption | omega | (simp only [St.set_n, St.new_n] at *; omega)), St.set_ne _ _ (by first | assumption | omega | (simp only [St.set_n, St.new_n] at *; omega))]; assumption)
          | (simp only [decide_eq_true_eq, decide_eq_false_iff_not, Bool.not_eq_true, beq_iff_eq, beq_eq_false_iff_ne, ne_eq, ge_iff_le, gt_iff_lt] at *; omega)) ?_; conv => whnf)
      | (rw [St.set_same]; conv => whnf)
      | (rw [St.new_same]; conv => whnf)
      | (rw [St.set_ne _ _ (by first | assumption | omega | (simp only [St.set_n, St.new_n] at *; omega))]; conv => whnf)
      | (rw [St.new_ne _ _ (by first | assumption | omega | (simp only [St.set_n, St.new_n] at *; omega))]; conv => whnf))
  all_goals refine Fin.of ⟨rfl, congrArg (fun z => AEnd.ret (A.bool z)) (Bool.eq_iff_iff.2 ?_)⟩
  all_goals simp [isGreat] at *
  all_goals omega
theorem zdigit_ok (b : UInt8) (σ : St) (m) : ACalls Tryz.prog 33 [.int .u8 b.toNat] σ m (fun e σ' => σ' = σ ∧ e = .ret (.bool (isDigit b))) := by
  refine acalls_go mixed Tryz.func33 c_zdigit_ok (Nat.le_of_ble_eq_true rfl) ?_
  conv => whnf
  repeat' (first
      | (refine Bc_t ?_; conv => whnf)
      | (refine Bc_f ?_; conv => whnf)
      | (rw [g1]; conv => whnf)
      | (rw [g2]; conv => whnf)
      | (rw [g3]; conv => whnf)
      | (rw [g4]; conv => whnf)
      | (rw [g5]; conv => whnf)
      | (rw [g6]; conv => whnf)
      | (rw [hr]; conv => whnf)
      | (refine Bc_split (fun hb => ?_) (fun hb => ?_) <;> (rw [hb]; conv => whnf))
      | (refine And.intro (by first
          | omega
          | assumption
          | (simp only [St.set_n, St.new_n] at *; omega)
          | (simp; done)
          | (simp; omega)
          | (intro _; exact trivial)
          | (intro _; intro _ _; exact trivial)
          | (intro _; intro j hj; first | rfl | (have hj' : j < 1 := hj
                                                 obtain rfl : j = 0 := by omega
                                                 exact ⟨rfl, rfl⟩))
          | (intro j hj; obtain rfl : j = 0 := by omega
             first | exact ⟨rfl, rfl⟩ | exact .inl ⟨rfl, rfl⟩ | exact .inr (by omega) | exact ⟨by assumption, by assumption⟩ | assumption | trivial)
          | exact .inr (by assumption)
          | (intro j hj; exact .inr (by simp only [St.set_n, St.new_n] at *; omega))
          | (intro e he; rcases List.mem_singleton.1 he with rfl; exact ⟨rfl, rfl⟩)
          | (rw [St.set_ne _ _ (by first | assumption | omega | (simp only [St.set_n, St.new_n] at *; omega))]; assumption)
          | (rw [St.set_ne _ _ (by first | assumption | omega | (simp only [St.set_n, St.new_n] at *; omega)), St.set_ne _ _ (by first | assumption | omega | (simp only [St.set_n, St.new_n] at *; omega))]; assumption)
          | (simp only [decide_eq_true_eq, decide_eq_false_iff_not, Bool.not_eq_true, beq_iff_eq, beq_eq_false_iff_ne, ne_eq, ge_iff_le, gt_iff_lt] at *; omega)) ?_; conv => whnf)
      | (rw [St.set_same]; conv => whnf)
      | (rw [St.new_same]; conv => whnf)
      | (rw [St.set_ne _ _ (by first | assumption | omega | (simp only [St.set_n, St.new_n] at *; omega))]; conv => whnf)
      | (rw [St.new_ne _ _ (by first | assumption | omega | (simp only [St.set_n, St.new_n] at *; omega))]; conv => whnf))
  all_goals refine Fin.of ⟨rfl, congrArg (fun z => AEnd.ret (A.bool z)) (Bool.eq_iff_iff.2 ?_)⟩
  all_goals simp [isDigit] at *
  all_goals omega

theorem zat_ok (s t : List UInt8) (i : Nat) (hs : s.length ≤ 10000) (ht : t.length ≤ 100) (hi : i ≤ s.length) (σ : St) (m) : ACalls Tryz.prog 14 [.str s, .int .i64 i, .str t] σ m (fun e σ' => σ' = σ ∧ e = .ret (.bool (t.isPrefixOf (s.drop i)))) := by
  refine acalls_go mixed Tryz.func14 c_zat_ok (Nat.le_of_ble_eq_true rfl) ?_
  have hr : IntKind.i64.wrap ((i : Int) + (t.length : Int)) = ((i + t.length : Nat) : Int) := by rw [w64 (by omega) (by omega)]; omega
  by_cases hle : i + t.length ≤ s.length
  · have g1 : decide (((i + t.length : Nat) : Int) ≤ (s.length : Int)) = true := decide_eq_true (by omega)
    conv => whnf
    repeat' (first
        | (refine Bc_t ?_; conv => whnf)
        | (refine Bc_f ?_; conv => whnf)
        | (rw [g1]; conv => whnf)
        | (rw [g2]; conv => whnf)
        | (rw [g3]; conv => whnf)
        | (rw [g4]; conv => whnf)
        | (rw [g5]; conv => whnf)
        | (rw [g6]; conv => whnf)
        | (rw [g7]; conv => whnf)
        | (rw [g8]; conv => whnf)
        | (rw [g9]; conv => whnf)
        | (rw [hr]; conv => whnf)
        | (refine Bc_split (fun hb => ?_) (fun hb => ?_) <;> (rw [hb]; conv => whnf))
        | (refine And.intro (by first
            | omega
            | assumption
            | (simp only [St.set_n, St.new_n] at *; omega)
            | (simp; done)
            | (simp; omega)
            | (intro _ _; first | assumption | (simp only [St.set_n, St.new_n] at *; omega))
            | (intro _; exact trivial)
            | (intro _; intro _ _; exact trivial)
            | (intro _; intro j hj; first | rfl | (have hj' : j < 1 := hj
                                                   obtain rfl : j = 0 := by omega
                                                   exact ⟨rfl, rfl⟩))
            | (intro j hj; obtain rfl : j = 0 := by omega
               first | exact ⟨rfl, rfl⟩ | exact .inl ⟨rfl, rfl⟩ | exact .inr (by omega) | exact ⟨by assumption, by assumption⟩ | assumption | trivial)
            | exact .inr (by assumption)
            | (intro j hj; exact .inr (by simp only [St.set_n, St.new_n] at *; omega))
            | (intro e he; rcases List.mem_singleton.1 he with rfl; exact ⟨rfl, rfl⟩)
            | (rw [St.set_ne _ _ (by first | assumption | omega | (simp only [St.set_n, St.new_n] at *; omega))]; assumption)
            | (rw [St.set_ne _ _ (by first | assumption | omega | (simp only [St.set_n, St.new_n] at *; omega)), St.set_ne _ _ (by first | assumption | omega | (simp only [St.set_n, St.new_n] at *; omega))]; assumption)
            | (simp only [decide_eq_true_eq, decide_eq_false_iff_not, Bool.not_eq_true, beq_iff_eq, beq_eq_false_iff_ne, ne_eq, ge_iff_le, gt_iff_lt] at *; omega)) ?_; conv => whnf)
        | (rw [St.set_same]; conv => whnf)
        | (rw [St.new_same]; conv => whnf)
        | (rw [St.set_ne _ _ (by first | assumption | omega | (simp only [St.set_n, St.new_n] at *; omega))]; conv => whnf)
        | (rw [St.new_ne _ _ (by first | assumption | omega | (simp only [St.set_n, St.new_n] at *; omega))]; conv => whnf))
    refine Fin.of ⟨rfl, congrArg (fun z => AEnd.ret (A.bool z)) ?_⟩
    show ((s.take (i + t.length)).drop i == t) = _
    rw [List.drop_take, show i + t.length - i = t.length by omega, Bool.eq_iff_iff, beq_iff_eq, List.isPrefixOf_iff_prefix, List.prefix_iff_eq_take]
    exact eq_comm
  · have g1 : decide (((i + t.length : Nat) : Int) ≤ (s.length : Int)) = false := decide_eq_false (by omega)
    conv => whnf
    repeat' (first
        | (refine Bc_t ?_; conv => whnf)
        | (refine Bc_f ?_; conv => whnf)
        | (rw [g1]; conv => whnf)
        | (rw [g2]; conv => whnf)
        | (rw [g3]; conv => whnf)
        | (rw [g4]; conv => whnf)
        | (rw [g5]; conv => whnf)
        | (rw [g6]; conv => whnf)
        | (rw [g7]; conv => whnf)
        | (rw [g8]; conv => whnf)
        | (rw [g9]; conv => whnf)
        | (rw [hr]; conv => whnf)
        | (refine Bc_split (fun hb => ?_) (fun hb => ?_) <;> (rw [hb]; conv => whnf))
        | (refine And.intro (by first
            | omega
            | assumption
            | (simp only [St.set_n, St.new_n] at *; omega)
            | (simp; done)
            | (simp; omega)
            | (intro _ _; first | assumption | (simp only [St.set_n, St.new_n] at *; omega))
            | (intro _; exact trivial)
            | (intro _; intro _ _; exact trivial)
            | (intro _; intro j hj; first | rfl | (have hj' : j < 1 := hj
                                                   obtain rfl : j = 0 := by omega
                                                   exact ⟨rfl, rfl⟩))
            | (intro j hj; obtain rfl : j = 0 := by omega
               first | exact ⟨rfl, rfl⟩ | exact .inl ⟨rfl, rfl⟩ | exact .inr (by omega) | exact ⟨by assumption, by assumption⟩ | assumption | trivial)
            | exact .inr (by assumption)
            | (intro j hj; exact .inr (by simp only [St.set_n, St.new_n] at *; omega))
            | (intro e he; rcases List.mem_singleton.1 he with rfl; exact ⟨rfl, rfl⟩)
            | (rw [St.set_ne _ _ (by first | assumption | omega | (simp only [St.set_n, St.new_n] at *; omega))]; assumption)
            | (rw [St.set_ne _ _ (by first | assumption | omega | (simp only [St.set_n, St.new_n] at *; omega)), St.set_ne _ _ (by first | assumption | omega | (simp only [St.set_n, St.new_n] at *; omega))]; assumption)
            | (simp only [decide_eq_true_eq, decide_eq_false_iff_not, Bool.not_eq_true, beq_iff_eq, beq_eq_false_iff_ne, ne_eq, ge_iff_le, gt_iff_lt] at *; omega)) ?_; conv => whnf)
        | (rw [St.set_same]; conv => whnf)
        | (rw [St.new_same]; conv => whnf)
        | (rw [St.set_ne _ _ (by first | assumption | omega | (simp only [St.set_n, St.new_n] at *; omega))]; conv => whnf)
        | (rw [St.new_ne _ _ (by first | assumption | omega | (simp only [St.set_n, St.new_n] at *; omega))]; conv => whnf))
    refine Fin.of ⟨rfl, congrArg (fun z => AEnd.ret (A.bool z)) ?_⟩
    refine (Bool.eq_false_iff.2 fun q => ?_).symm
    have := (List.isPrefixOf_iff_prefix.1 q).length_le
    rw [List.length_drop] at this
    omega

theorem zhex_ok (c : UInt8) (σ : St) (m) : ACalls Tryz.prog 61 [.int .u8 c.toNat] σ m (fun e σ' => σ' = σ ∧ e = .ret (.int .i64 (hexA c))) := by
  refine acalls_go mixed Tryz.func61 c_zhex_ok (Nat.le_of_ble_eq_true rfl) ?_
  conv => whnf
  refine ACallsW.of (zdigit_ok c _ Non) (fun _ _ _ h => h.elim) ?_
  rintro _ σ1 _ ⟨e1, rfl⟩
  have e2 := e1.symm
  subst e2
  have hcl := c.toNat_lt
  cases hd : isDigit c with
  | true =>
    have hd' := hd
    simp only [isDigit, Bool.and_eq_true, decide_eq_true_eq] at hd'
    conv => whnf
    repeat' (first
        | (refine Bc_t ?_; conv => whnf)
        | (refine Bc_f ?_; conv => whnf)
        | (rw [g1]; conv => whnf)
        | (rw [g2]; conv => whnf)
        | (rw [g3]; conv => whnf)
        | (rw [g4]; conv => whnf)
        | (rw [g5]; conv => whnf)
        | (rw [g6]; conv => whnf)
        | (rw [g7]; conv => whnf)
        | (rw [g8]; conv => whnf)
        | (rw [g9]; conv => whnf)
        | (rw [hr]; conv => whnf)
        | (refine Bc_split (fun hb => ?_) (fun hb => ?_) <;> (rw [hb]; conv => whnf))
        | (refine And.intro (by first
            | omega
            | assumption
            | (simp only [St.set_n, St.new_n] at *; omega)
            | (simp; done)
            | (simp; omega)
            | (intro _ _; first | assumption | (simp only [St.set_n, St.new_n] at *; omega))
            | (intro _; exact trivial)
            | (intro _; intro _ _; exact trivial)
            | (intro _; intro j hj; first | rfl | (have hj' : j < 1 := hj
                                                   obtain rfl : j = 0 := by omega
                                                   exact ⟨rfl, rfl⟩))
            | (intro j hj; obtain rfl : j = 0 := by omega
               first | exact ⟨rfl, rfl⟩ | exact .inl ⟨rfl, rfl⟩ | exact .inr (by omega) | exact ⟨by assumption, by assumption⟩ | assumption | trivial)
            | exact .inr (by assumption)
            | (intro j hj; exact .inr (by simp only [St.set_n, St.new_n] at *; omega))
            | (intro e he; rcases List.mem_singleton.1 he with rfl; exact ⟨rfl, rfl⟩)
            | (rw [St.set_ne _ _ (by first | assumption | omega | (simp only [St.set_n, St.new_n] at *; omega))]; assumption)
            | (rw [St.set_ne _ _ (by first | assumption | omega | (simp only [St.set_n, St.new_n] at *; omega)), St.set_ne _ _ (by first | assumption | omega | (simp only [St.set_n, St.new_n] at *; omega))]; assumption)
            | (simp only [decide_eq_true_eq, decide_eq_false_iff_not, Bool.not_eq_true, beq_iff_eq, beq_eq_false_iff_ne, ne_eq, ge_iff_le, gt_iff_lt] at *; omega)) ?_; conv => whnf)
        | (rw [St.set_same]; conv => whnf)
        | (rw [St.new_same]; conv => whnf)
        | (rw [St.set_ne _ _ (by first | assumption | omega | (simp only [St.set_n, St.new_n] at *; omega))]; conv => whnf)
        | (rw [St.new_ne _ _ (by first | assumption | omega | (simp only [St.set_n, St.new_n] at *; omega))]; conv => whnf))
    refine Fin.of ⟨rfl, congrArg (fun z => AEnd.ret (A.int .i64 z)) ?_⟩
    show IntKind.i64.wrap (IntKind.u8.wrap ((c.toNat : Int) - 48)) = hexA c
    rw [hexA, hexVal, if_pos hd, wu8 (by omega) (by omega), w64 (by omega) (by omega)]
    show _ = ((c.toNat - 48 : Nat) : Int)
    omega
  | false =>
    by_cases h1 : 97 ≤ c.toNat
    · have g1 : decide ((c.toNat : Int) ≥ 97) = true := decide_eq_true (by omega)
      by_cases h2 : c.toNat ≤ 102
      · have g2 : decide ((c.toNat : Int) ≤ 102) = true := decide_eq_true (by omega)
        conv => whnf
        repeat' (first
            | (refine Bc_t ?_; conv => whnf)
            | (refine Bc_f ?_; conv => whnf)
            | (rw [g1]; conv => whnf)
            | (rw [g2]; conv => whnf)
            | (rw [g3]; conv => whnf)
            | (rw [g4]; conv => whnf)
            | (rw [g5]; conv => whnf)
            | (rw [g6]; conv => whnf)
            | (rw [g7]; conv => whnf)
            | (rw [g8]; conv => whnf)
            | (rw [g9]; conv => whnf)
            | (rw [hr]; conv => whnf)
            | (refine Bc_split (fun hb => ?_) (fun hb => ?_) <;> (rw [hb]; conv => whnf))
            | (refine And.intro (by first
                | omega
                | assumption
                | (simp only [St.set_n, St.new_n] at *; omega)
                | (simp; done)
                | (simp; omega)
                | (intro _ _; first | assumption | (simp only [St.set_n, St.new_n] at *; omega))
                | (intro _; exact trivial)
                | (intro _; intro _ _; exact trivial)
                | (intro _; intro j hj; first | rfl | (have hj' : j < 1 := hj
                                                       obtain rfl : j = 0 := by omega
                                                       exact ⟨rfl, rfl⟩))
                | (intro j hj; obtain rfl : j = 0 := by omega
                   first | exact ⟨rfl, rfl⟩ | exact .inl ⟨rfl, rfl⟩ | exact .inr (by omega) | exact ⟨by assumption, by assumption⟩ | assumption | trivial)
                | exact .inr (by assumption)
                | (intro j hj; exact .inr (by simp only [St.set_n, St.new_n] at *; omega))
                | (intro e he; rcases List.mem_singleton.1 he with rfl; exact ⟨rfl, rfl⟩)
                | (rw [St.set_ne _ _ (by first | assumption | omega | (simp only [St.set_n, St.new_n] at *; omega))]; assumption)
                | (rw [St.set_ne _ _ (by first | assumption | omega | (simp only [St.set_n, St.new_n] at *; omega)), St.set_ne _ _ (by first | assumption | omega | (simp only [St.set_n, St.new_n] at *; omega))]; assumption)
                | (simp only [decide_eq_true_eq, decide_eq_false_iff_not, Bool.not_eq_true, beq_iff_eq, beq_eq_false_iff_ne, ne_eq, ge_iff_le, gt_iff_lt] at *; omega)) ?_; conv => whnf)
            | (rw [St.set_same]; conv => whnf)
            | (rw [St.new_same]; conv => whnf)
            | (rw [St.set_ne _ _ (by first | assumption | omega | (simp only [St.set_n, St.new_n] at *; omega))]; conv => whnf)
            | (rw [St.new_ne _ _ (by first | assumption | omega | (simp only [St.set_n, St.new_n] at *; omega))]; conv => whnf))
        refine Fin.of ⟨rfl, congrArg (fun z => AEnd.ret (A.int .i64 z)) ?_⟩
        show IntKind.i64.wrap (IntKind.i64.wrap (IntKind.u8.wrap ((c.toNat : Int) - 97)) + 10) = hexA c
        rw [hexA, hexVal, if_neg (by rw [hd]; simp), if_pos (by simp; omega), wu8 (by omega) (by omega), w64 (n := (c.toNat : Int) - 97) (by omega) (by omega), w64 (by omega) (by omega)]
        show _ = ((c.toNat - 87 : Nat) : Int)
        omega
      · have g2 : decide ((c.toNat : Int) ≤ 102) = false := decide_eq_false (by omega)
        conv => whnf
        repeat' (first
            | (refine Bc_t ?_; conv => whnf)
            | (refine Bc_f ?_; conv => whnf)
            | (rw [g1]; conv => whnf)
            | (rw [g2]; conv => whnf)
            | (rw [g3]; conv => whnf)
            | (rw [g4]; conv => whnf)
            | (rw [g5]; conv => whnf)
            | (rw [g6]; conv => whnf)
            | (rw [g7]; conv => whnf)
            | (rw [g8]; conv => whnf)
            | (rw [g9]; conv => whnf)
            | (rw [hr]; conv => whnf)
            | (refine Bc_split (fun hb => ?_) (fun hb => ?_) <;> (rw [hb]; conv => whnf))
            | (refine And.intro (by first
                | omega
                | assumption
                | (simp only [St.set_n, St.new_n] at *; omega)
                | (simp; done)
                | (simp; omega)
                | (intro _ _; first | assumption | (simp only [St.set_n, St.new_n] at *; omega))
                | (intro _; exact trivial)
                | (intro _; intro _ _; exact trivial)
                | (intro _; intro j hj; first | rfl | (have hj' : j < 1 := hj
                                                       obtain rfl : j = 0 := by omega
                                                       exact ⟨rfl, rfl⟩))
                | (intro j hj; obtain rfl : j = 0 := by omega
                   first | exact ⟨rfl, rfl⟩ | exact .inl ⟨rfl, rfl⟩ | exact .inr (by omega) | exact ⟨by assumption, by assumption⟩ | assumption | trivial)
                | exact .inr (by assumption)
                | (intro j hj; exact .inr (by simp only [St.set_n, St.new_n] at *; omega))
                | (intro e he; rcases List.mem_singleton.1 he with rfl; exact ⟨rfl, rfl⟩)
                | (rw [St.set_ne _ _ (by first | assumption | omega | (simp only [St.set_n, St.new_n] at *; omega))]; assumption)
                | (rw [St.set_ne _ _ (by first | assumption | omega | (simp only [St.set_n, St.new_n] at *; omega)), St.set_ne _ _ (by first | assumption | omega | (simp only [St.set_n, St.new_n] at *; omega))]; assumption)
                | (simp only [decide_eq_true_eq, decide_eq_false_iff_not, Bool.not_eq_true, beq_iff_eq, beq_eq_false_iff_ne, ne_eq, ge_iff_le, gt_iff_lt] at *; omega)) ?_; conv => whnf)
            | (rw [St.set_same]; conv => whnf)
            | (rw [St.new_same]; conv => whnf)
            | (rw [St.set_ne _ _ (by first | assumption | omega | (simp only [St.set_n, St.new_n] at *; omega))]; conv => whnf)
            | (rw [St.new_ne _ _ (by first | assumption | omega | (simp only [St.set_n, St.new_n] at *; omega))]; conv => whnf))
        refine Fin.of ⟨rfl, congrArg (fun z => AEnd.ret (A.int .i64 z)) ?_⟩
        rw [hexA, hexVal, if_neg (by rw [hd]; simp), if_neg (by simp; omega)]
    · have g1 : decide ((c.toNat : Int) ≥ 97) = false := decide_eq_false (by omega)
      conv => whnf
      repeat' (first
          | (refine Bc_t ?_; conv => whnf)
          | (refine Bc_f ?_; conv => whnf)
          | (rw [g1]; conv => whnf)
          | (rw [g2]; conv => whnf)
          | (rw [g3]; conv => whnf)
          | (rw [g4]; conv => whnf)
          | (rw [g5]; conv => whnf)
          | (rw [g6]; conv => whnf)
          | (rw [g7]; conv => whnf)
          | (rw [g8]; conv => whnf)
          | (rw [g9]; conv => whnf)
          | (rw [hr]; conv => whnf)
          | (refine Bc_split (fun hb => ?_) (fun hb => ?_) <;> (rw [hb]; conv => whnf))
          | (refine And.intro (by first
              | omega
              | assumption
              | (simp only [St.set_n, St.new_n] at *; omega)
              | (simp; done)
              | (simp; omega)
              | (intro _ _; first | assumption | (simp only [St.set_n, St.new_n] at *; omega))
              | (intro _; exact trivial)
              | (intro _; intro _ _; exact trivial)
              | (intro _; intro j hj; first | rfl | (have hj' : j < 1 := hj
                                                     obtain rfl : j = 0 := by omega
                                                     exact ⟨rfl, rfl⟩))
              | (intro j hj; obtain rfl : j = 0 := by omega
                 first | exact ⟨rfl, rfl⟩ | exact .inl ⟨rfl, rfl⟩ | exact .inr (by omega) | exact ⟨by assumption, by assumption⟩ | assumption | trivial)
              | exact .inr (by assumption)
              | (intro j hj; exact .inr (by simp only [St.set_n, St.new_n] at *; omega))
              | (intro e he; rcases List.mem_singleton.1 he with rfl; exact ⟨rfl, rfl⟩)
              | (rw [St.set_ne _ _ (by first | assumption | omega | (simp only [St.set_n, St.new_n] at *; omega))]; assumption)
              | (rw [St.set_ne _ _ (by first | assumption | omega | (simp only [St.set_n, St.new_n] at *; omega)), St.set_ne _ _ (by first | assumption | omega | (simp only [St.set_n, St.new_n] at *; omega))]; assumption)
              | (simp only [decide_eq_true_eq, decide_eq_false_iff_not, Bool.not_eq_true, beq_iff_eq, beq_eq_false_iff_ne, ne_eq, ge_iff_le, gt_iff_lt] at *; omega)) ?_; conv => whnf)
          | (rw [St.set_same]; conv => whnf)
          | (rw [St.new_same]; conv => whnf)
          | (rw [St.set_ne _ _ (by first | assumption | omega | (simp only [St.set_n, St.new_n] at *; omega))]; conv => whnf)
          | (rw [St.new_ne _ _ (by first | assumption | omega | (simp only [St.set_n, St.new_n] at *; omega))]; conv => whnf))
      refine Fin.of ⟨rfl, congrArg (fun z => AEnd.ret (A.int .i64 z)) ?_⟩
      rw [hexA, hexVal, if_neg (by rw [hd]; simp), if_neg (by simp; omega)]

theorem zcomment_ok (s : List UInt8) (hs : s.length ≤ 10000) : ∀ (k i : Nat), s.length - i = k → i + 2 ≤ s.length → ∀ (σ : St) (m), ACalls Tryz.prog 15 [.str s, .int .i64 i] σ m (fun e σ' => σ' = σ ∧ e = .ret (comA s i)) := by
  intro k
  induction k using Nat.strongRecOn with
  | _ k ih =>
    intro i hk hi σ m
    refine acalls_go mixed Tryz.func15 c_zcomment_ok (Nat.le_of_ble_eq_true rfl) ?_
    have hr : IntKind.i64.wrap ((i : Int) + 2) = ((i + 2 : Nat) : Int) := by rw [w64 (by omega) (by omega)]; omega
    conv => whnf
    repeat' (first
        | (refine Bc_t ?_; conv => whnf)
        | (refine Bc_f ?_; conv => whnf)
        | (rw [g1]; conv => whnf)
        | (rw [g2]; conv => whnf)
        | (rw [g3]; conv => whnf)
        | (rw [g4]; conv => whnf)
        | (rw [g5]; conv => whnf)
        | (rw [g6]; conv => whnf)
        | (rw [g7]; conv => whnf)
        | (rw [g8]; conv => whnf)
        | (rw [g9]; conv => whnf)
        | (rw [hr]; conv => whnf)
        | (refine Bc_split (fun hb => ?_) (fun hb => ?_) <;> (rw [hb]; conv => whnf))
        | (refine And.intro (by first
            | omega
            | assumption
            | (simp only [St.set_n, St.new_n] at *; omega)
            | (simp; done)
            | (simp; omega)
            | (intro _ _; first | assumption | (simp only [St.set_n, St.new_n] at *; omega))
            | (intro _; exact trivial)
            | (intro _; intro _ _; exact trivial)
            | (intro _; intro j hj; first | rfl | (have hj' : j < 1 := hj
                                                   obtain rfl : j = 0 := by omega
                                                   exact ⟨rfl, rfl⟩))
            | (intro j hj; obtain rfl : j = 0 := by omega
               first | exact ⟨rfl, rfl⟩ | exact .inl ⟨rfl, rfl⟩ | exact .inr (by omega) | exact ⟨by assumption, by assumption⟩ | assumption | trivial)
            | exact .inr (by assumption)
            | (intro j hj; exact .inr (by simp only [St.set_n, St.new_n] at *; omega))
            | (intro e he; rcases List.mem_singleton.1 he with rfl; exact ⟨rfl, rfl⟩)
            | (rw [St.set_ne _ _ (by first | assumption | omega | (simp only [St.set_n, St.new_n] at *; omega))]; assumption)
            | (rw [St.set_ne _ _ (by first | assumption | omega | (simp only [St.set_n, St.new_n] at *; omega)), St.set_ne _ _ (by first | assumption | omega | (simp only [St.set_n, St.new_n] at *; omega))]; assumption)
            | (simp only [decide_eq_true_eq, decide_eq_false_iff_not, Bool.not_eq_true, beq_iff_eq, beq_eq_false_iff_ne, ne_eq, ge_iff_le, gt_iff_lt] at *; omega)) ?_; conv => whnf)
        | (rw [St.set_same]; conv => whnf)
        | (rw [St.new_same]; conv => whnf)
        | (rw [St.set_ne _ _ (by first | assumption | omega | (simp only [St.set_n, St.new_n] at *; omega))]; conv => whnf)
        | (rw [St.new_ne _ _ (by first | assumption | omega | (simp only [St.set_n, St.new_n] at *; omega))]; conv => whnf))
    clear hr
    unfold ALoop
    refine ⟨fun k env σ1 => ∃ j : Nat, k = s.length - j ∧ i + 2 ≤ j ∧ j ≤ s.length ∧ com 1 (s.drop (i + 2)) = com 1 (s.drop j) ∧ σ1 = σ ∧ env = [(0, .str s), (1, .int .i64 j)], _,
      [(0, .str s), (1, .int .i64 (i + 2 : Nat))], ⟨rfl, rfl, trivial⟩, ⟨i + 2, rfl, by omega, hi, rfl, rfl, rfl⟩, ?_⟩
    rintro k' env σ1 ⟨j, rfl, hij, hj, hcom, rfl, rfl⟩
    by_cases hlt : j < s.length
    · have g1 : decide ((j : Int) < s.length) = true := decide_eq_true (by omega)
      conv => whnf
      repeat' (first
          | (refine Bc_t ?_; conv => whnf)
          | (refine Bc_f ?_; conv => whnf)
          | (rw [g1]; conv => whnf)
          | (rw [g2]; conv => whnf)
          | (rw [g3]; conv => whnf)
          | (rw [g4]; conv => whnf)
          | (rw [g5]; conv => whnf)
          | (rw [g6]; conv => whnf)
          | (rw [g7]; conv => whnf)
          | (rw [g8]; conv => whnf)
          | (rw [g9]; conv => whnf)
          | (rw [hr]; conv => whnf)
          | (refine Bc_split (fun hb => ?_) (fun hb => ?_) <;> (rw [hb]; conv => whnf))
          | (refine And.intro (by first
              | omega
              | assumption
              | (simp only [St.set_n, St.new_n] at *; omega)
              | (simp; done)
              | (simp; omega)
              | (intro _ _; first | assumption | (simp only [St.set_n, St.new_n] at *; omega))
              | (intro _; exact trivial)
              | (intro _; intro _ _; exact trivial)
              | (intro _; intro j hj; first | rfl | (have hj' : j < 1 := hj
                                                     obtain rfl : j = 0 := by omega
                                                     exact ⟨rfl, rfl⟩))
              | (intro j hj; obtain rfl : j = 0 := by omega
                 first | exact ⟨rfl, rfl⟩ | exact .inl ⟨rfl, rfl⟩ | exact .inr (by omega) | exact ⟨by assumption, by assumption⟩ | assumption | trivial)
              | exact .inr (by assumption)
              | (intro j hj; exact .inr (by simp only [St.set_n, St.new_n] at *; omega))
              | (intro e he; rcases List.mem_singleton.1 he with rfl; exact ⟨rfl, rfl⟩)
              | (rw [St.set_ne _ _ (by first | assumption | omega | (simp only [St.set_n, St.new_n] at *; omega))]; assumption)
              | (rw [St.set_ne _ _ (by first | assumption | omega | (simp only [St.set_n, St.new_n] at *; omega)), St.set_ne _ _ (by first | assumption | omega | (simp only [St.set_n, St.new_n] at *; omega))]; assumption)
              | (simp only [decide_eq_true_eq, decide_eq_false_iff_not, Bool.not_eq_true, beq_iff_eq, beq_eq_false_iff_ne, ne_eq, ge_iff_le, gt_iff_lt] at *; omega)) ?_; conv => whnf)
          | (rw [St.set_same]; conv => whnf)
          | (rw [St.new_same]; conv => whnf)
          | (rw [St.set_ne _ _ (by first | assumption | omega | (simp only [St.set_n, St.new_n] at *; omega))]; conv => whnf)
          | (rw [St.new_ne _ _ (by first | assumption | omega | (simp only [St.set_n, St.new_n] at *; omega))]; conv => whnf))
      refine ACallsW.of (zat_ok s [42, 41] j hs (by decide) hj _ Non) (fun _ _ _ h => h.elim) ?_
      rintro _ σ2 _ ⟨e1, rfl⟩
      have e2 := e1.symm
      subst e2
      cases h1 : [42, 41].isPrefixOf (s.drop j) with
      | true =>
        obtain ⟨q1, q2⟩ := two_drop h1
        conv => whnf
        repeat' (first
            | (refine Bc_t ?_; conv => whnf)
            | (refine Bc_f ?_; conv => whnf)
            | (rw [g1]; conv => whnf)
            | (rw [g2]; conv => whnf)
            | (rw [g3]; conv => whnf)
            | (rw [g4]; conv => whnf)
            | (rw [g5]; conv => whnf)
            | (rw [g6]; conv => whnf)
            | (rw [g7]; conv => whnf)
            | (rw [g8]; conv => whnf)
            | (rw [g9]; conv => whnf)
            | (rw [hr]; conv => whnf)
            | (refine Bc_split (fun hb => ?_) (fun hb => ?_) <;> (rw [hb]; conv => whnf))
            | (refine And.intro (by first
                | omega
                | assumption
                | (simp only [St.set_n, St.new_n] at *; omega)
                | (simp; done)
                | (simp; omega)
                | (intro _ _; first | assumption | (simp only [St.set_n, St.new_n] at *; omega))
                | (intro _; exact trivial)
                | (intro _; intro _ _; exact trivial)
                | (intro _; intro j hj; first | rfl | (have hj' : j < 1 := hj
                                                       obtain rfl : j = 0 := by omega
                                                       exact ⟨rfl, rfl⟩))
                | (intro j hj; obtain rfl : j = 0 := by omega
                   first | exact ⟨rfl, rfl⟩ | exact .inl ⟨rfl, rfl⟩ | exact .inr (by omega) | exact ⟨by assumption, by assumption⟩ | assumption | trivial)
                | exact .inr (by assumption)
                | (intro j hj; exact .inr (by simp only [St.set_n, St.new_n] at *; omega))
                | (intro e he; rcases List.mem_singleton.1 he with rfl; exact ⟨rfl, rfl⟩)
                | (rw [St.set_ne _ _ (by first | assumption | omega | (simp only [St.set_n, St.new_n] at *; omega))]; assumption)
                | (rw [St.set_ne _ _ (by first | assumption | omega | (simp only [St.set_n, St.new_n] at *; omega)), St.set_ne _ _ (by first | assumption | omega | (simp only [St.set_n, St.new_n] at *; omega))]; assumption)
                | (simp only [decide_eq_true_eq, decide_eq_false_iff_not, Bool.not_eq_true, beq_iff_eq, beq_eq_false_iff_ne, ne_eq, ge_iff_le, gt_iff_lt] at *; omega)) ?_; conv => whnf)
            | (rw [St.set_same]; conv => whnf)
            | (rw [St.new_same]; conv => whnf)
            | (rw [St.set_ne _ _ (by first | assumption | omega | (simp only [St.set_n, St.new_n] at *; omega))]; conv => whnf)
            | (rw [St.new_ne _ _ (by first | assumption | omega | (simp only [St.set_n, St.new_n] at *; omega))]; conv => whnf))
        refine Fin.of ⟨rfl, ?_⟩
        have : comA s i = .tup [.int .i64 (j + 2 : Nat), .bool true] := by
          rw [comA, hcom, q1, com_close, if_pos rfl]
          show A.tup [.int .i64 ((s.length - (s.drop (j + 2)).length : Nat) : Int), .bool true] = _
          rw [List.length_drop, show s.length - (s.length - (j + 2)) = j + 2 by omega]
        rw [this]
        show AEnd.ret (A.tup [.int .i64 (IntKind.i64.wrap ((j : Int) + 2)), .bool true]) = _
        rw [w64 (by omega) (by omega)]
        rfl
      | false =>
        conv => whnf
        repeat' (first
            | (refine Bc_t ?_; conv => whnf)
            | (refine Bc_f ?_; conv => whnf)
            | (rw [g1]; conv => whnf)
            | (rw [g2]; conv => whnf)
            | (rw [g3]; conv => whnf)
            | (rw [g4]; conv => whnf)
            | (rw [g5]; conv => whnf)
            | (rw [g6]; conv => whnf)
            | (rw [g7]; conv => whnf)
            | (rw [g8]; conv => whnf)
            | (rw [g9]; conv => whnf)
            | (rw [hr]; conv => whnf)
            | (refine Bc_split (fun hb => ?_) (fun hb => ?_) <;> (rw [hb]; conv => whnf))
            | (refine And.intro (by first
                | omega
                | assumption
                | (simp only [St.set_n, St.new_n] at *; omega)
                | (simp; done)
                | (simp; omega)
                | (intro _ _; first | assumption | (simp only [St.set_n, St.new_n] at *; omega))
                | (intro _; exact trivial)
                | (intro _; intro _ _; exact trivial)
                | (intro _; intro j hj; first | rfl | (have hj' : j < 1 := hj
                                                       obtain rfl : j = 0 := by omega
                                                       exact ⟨rfl, rfl⟩))
                | (intro j hj; obtain rfl : j = 0 := by omega
                   first | exact ⟨rfl, rfl⟩ | exact .inl ⟨rfl, rfl⟩ | exact .inr (by omega) | exact ⟨by assumption, by assumption⟩ | assumption | trivial)
                | exact .inr (by assumption)
                | (intro j hj; exact .inr (by simp only [St.set_n, St.new_n] at *; omega))
                | (intro e he; rcases List.mem_singleton.1 he with rfl; exact ⟨rfl, rfl⟩)
                | (rw [St.set_ne _ _ (by first | assumption | omega | (simp only [St.set_n, St.new_n] at *; omega))]; assumption)
                | (rw [St.set_ne _ _ (by first | assumption | omega | (simp only [St.set_n, St.new_n] at *; omega)), St.set_ne _ _ (by first | assumption | omega | (simp only [St.set_n, St.new_n] at *; omega))]; assumption)
                | (simp only [decide_eq_true_eq, decide_eq_false_iff_not, Bool.not_eq_true, beq_iff_eq, beq_eq_false_iff_ne, ne_eq, ge_iff_le, gt_iff_lt] at *; omega)) ?_; conv => whnf)
            | (rw [St.set_same]; conv => whnf)
            | (rw [St.new_same]; conv => whnf)
            | (rw [St.set_ne _ _ (by first | assumption | omega | (simp only [St.set_n, St.new_n] at *; omega))]; conv => whnf)
            | (rw [St.new_ne _ _ (by first | assumption | omega | (simp only [St.set_n, St.new_n] at *; omega))]; conv => whnf))
        refine ACallsW.of (zat_ok s [40, 42] j hs (by decide) hj _ Non) (fun _ _ _ h => h.elim) ?_
        rintro _ σ2 _ ⟨e1, rfl⟩
        have e2 := e1.symm
        subst e2
        cases h2 : [40, 42].isPrefixOf (s.drop j) with
        | true =>
          obtain ⟨q1, q2⟩ := two_drop h2
          conv => whnf
          repeat' (first
              | (refine Bc_t ?_; conv => whnf)
              | (refine Bc_f ?_; conv => whnf)
              | (rw [g1]; conv => whnf)
              | (rw [g2]; conv => whnf)
              | (rw [g3]; conv => whnf)
              | (rw [g4]; conv => whnf)
              | (rw [g5]; conv => whnf)
              | (rw [g6]; conv => whnf)
              | (rw [g7]; conv => whnf)
              | (rw [g8]; conv => whnf)
              | (rw [g9]; conv => whnf)
              | (rw [hr]; conv => whnf)
              | (refine Bc_split (fun hb => ?_) (fun hb => ?_) <;> (rw [hb]; conv => whnf))
              | (refine And.intro (by first
                  | omega
                  | assumption
                  | (simp only [St.set_n, St.new_n] at *; omega)
                  | (simp; done)
                  | (simp; omega)
                  | (intro _ _; first | assumption | (simp only [St.set_n, St.new_n] at *; omega))
                  | (intro _; exact trivial)
                  | (intro _; intro _ _; exact trivial)
                  | (intro _; intro j hj; first | rfl | (have hj' : j < 1 := hj
                                                         obtain rfl : j = 0 := by omega
                                                         exact ⟨rfl, rfl⟩))
                  | (intro j hj; obtain rfl : j = 0 := by omega
                     first | exact ⟨rfl, rfl⟩ | exact .inl ⟨rfl, rfl⟩ | exact .inr (by omega) | exact ⟨by assumption, by assumption⟩ | assumption | trivial)
                  | exact .inr (by assumption)
                  | (intro j hj; exact .inr (by simp only [St.set_n, St.new_n] at *; omega))
                  | (intro e he; rcases List.mem_singleton.1 he with rfl; exact ⟨rfl, rfl⟩)
                  | (rw [St.set_ne _ _ (by first | assumption | omega | (simp only [St.set_n, St.new_n] at *; omega))]; assumption)
                  | (rw [St.set_ne _ _ (by first | assumption | omega | (simp only [St.set_n, St.new_n] at *; omega)), St.set_ne _ _ (by first | assumption | omega | (simp only [St.set_n, St.new_n] at *; omega))]; assumption)
                  | (simp only [decide_eq_true_eq, decide_eq_false_iff_not, Bool.not_eq_true, beq_iff_eq, beq_eq_false_iff_ne, ne_eq, ge_iff_le, gt_iff_lt] at *; omega)) ?_; conv => whnf)
              | (rw [St.set_same]; conv => whnf)
              | (rw [St.new_same]; conv => whnf)
              | (rw [St.set_ne _ _ (by first | assumption | omega | (simp only [St.set_n, St.new_n] at *; omega))]; conv => whnf)
              | (rw [St.new_ne _ _ (by first | assumption | omega | (simp only [St.set_n, St.new_n] at *; omega))]; conv => whnf))
          refine ACallsW.of (ih (s.length - j) (by omega) j rfl q2 _ Non) (fun _ _ _ h => h.elim) ?_
          rintro _ σ2 _ ⟨e1, rfl⟩
          have e2 := e1.symm
          subst e2
          have hc2 : com 1 (s.drop (i + 2)) = match com 1 (s.drop (j + 2)) with | none => none | some r => com 1 r := by
            rw [hcom, q1, com_open]; exact com_split _ _ rfl 1 (Nat.le_refl _)
          cases hc : com 1 (s.drop (j + 2)) with
          | none =>
            rw [hc] at hc2
            have e3 : comA s j = .tup [.int .i64 0, .bool false] := by rw [comA, hc]
            have e4 : comA s i = .tup [.int .i64 0, .bool false] := by rw [comA, hc2]
            rw [e3, e4]
            conv => whnf
            repeat' (first
                | (refine Bc_t ?_; conv => whnf)
                | (refine Bc_f ?_; conv => whnf)
                | (rw [g1]; conv => whnf)
                | (rw [g2]; conv => whnf)
                | (rw [g3]; conv => whnf)
                | (rw [g4]; conv => whnf)
                | (rw [g5]; conv => whnf)
                | (rw [g6]; conv => whnf)
                | (rw [g7]; conv => whnf)
                | (rw [g8]; conv => whnf)
                | (rw [g9]; conv => whnf)
                | (rw [hr]; conv => whnf)
                | (refine Bc_split (fun hb => ?_) (fun hb => ?_) <;> (rw [hb]; conv => whnf))
                | (refine And.intro (by first
                    | omega
                    | assumption
                    | (simp only [St.set_n, St.new_n] at *; omega)
                    | (simp; done)
                    | (simp; omega)
                    | (intro _ _; first | assumption | (simp only [St.set_n, St.new_n] at *; omega))
                    | (intro _; exact trivial)
                    | (intro _; intro _ _; exact trivial)
                    | (intro _; intro j hj; first | rfl | (have hj' : j < 1 := hj
                                                           obtain rfl : j = 0 := by omega
                                                           exact ⟨rfl, rfl⟩))
                    | (intro j hj; obtain rfl : j = 0 := by omega
                       first | exact ⟨rfl, rfl⟩ | exact .inl ⟨rfl, rfl⟩ | exact .inr (by omega) | exact ⟨by assumption, by assumption⟩ | assumption | trivial)
                    | exact .inr (by assumption)
                    | (intro j hj; exact .inr (by simp only [St.set_n, St.new_n] at *; omega))
                    | (intro e he; rcases List.mem_singleton.1 he with rfl; exact ⟨rfl, rfl⟩)
                    | (rw [St.set_ne _ _ (by first | assumption | omega | (simp only [St.set_n, St.new_n] at *; omega))]; assumption)
                    | (rw [St.set_ne _ _ (by first | assumption | omega | (simp only [St.set_n, St.new_n] at *; omega)), St.set_ne _ _ (by first | assumption | omega | (simp only [St.set_n, St.new_n] at *; omega))]; assumption)
                    | (simp only [decide_eq_true_eq, decide_eq_false_iff_not, Bool.not_eq_true, beq_iff_eq, beq_eq_false_iff_ne, ne_eq, ge_iff_le, gt_iff_lt] at *; omega)) ?_; conv => whnf)
                | (rw [St.set_same]; conv => whnf)
                | (rw [St.new_same]; conv => whnf)
                | (rw [St.set_ne _ _ (by first | assumption | omega | (simp only [St.set_n, St.new_n] at *; omega))]; conv => whnf)
                | (rw [St.new_ne _ _ (by first | assumption | omega | (simp only [St.set_n, St.new_n] at *; omega))]; conv => whnf))
            exact Fin.of ⟨rfl, rfl⟩
          | some r =>
            rw [hc] at hc2
            have e3 : comA s j = .tup [.int .i64 (s.length - r.length : Nat), .bool true] := by rw [comA, hc]
            rw [e3]
            have hsuf := (com_suf _ _ _ hc).trans (List.drop_suffix (j + 2) s)
            have hlen := com_len _ _ _ hc
            rw [List.length_drop] at hlen
            conv => whnf
            repeat' (first
                | (refine Bc_t ?_; conv => whnf)
                | (refine Bc_f ?_; conv => whnf)
                | (rw [g1]; conv => whnf)
                | (rw [g2]; conv => whnf)
                | (rw [g3]; conv => whnf)
                | (rw [g4]; conv => whnf)
                | (rw [g5]; conv => whnf)
                | (rw [g6]; conv => whnf)
                | (rw [g7]; conv => whnf)
                | (rw [g8]; conv => whnf)
                | (rw [g9]; conv => whnf)
                | (rw [hr]; conv => whnf)
                | (refine Bc_split (fun hb => ?_) (fun hb => ?_) <;> (rw [hb]; conv => whnf))
                | (refine And.intro (by first
                    | omega
                    | assumption
                    | (simp only [St.set_n, St.new_n] at *; omega)
                    | (simp; done)
                    | (simp; omega)
                    | (intro _ _; first | assumption | (simp only [St.set_n, St.new_n] at *; omega))
                    | (intro _; exact trivial)
                    | (intro _; intro _ _; exact trivial)
                    | (intro _; intro j hj; first | rfl | (have hj' : j < 1 := hj
                                                           obtain rfl : j = 0 := by omega
                                                           exact ⟨rfl, rfl⟩))
                    | (intro j hj; obtain rfl : j = 0 := by omega
                       first | exact ⟨rfl, rfl⟩ | exact .inl ⟨rfl, rfl⟩ | exact .inr (by omega) | exact ⟨by assumption, by assumption⟩ | assumption | trivial)
                    | exact .inr (by assumption)
                    | (intro j hj; exact .inr (by simp only [St.set_n, St.new_n] at *; omega))
                    | (intro e he; rcases List.mem_singleton.1 he with rfl; exact ⟨rfl, rfl⟩)
                    | (rw [St.set_ne _ _ (by first | assumption | omega | (simp only [St.set_n, St.new_n] at *; omega))]; assumption)
                    | (rw [St.set_ne _ _ (by first | assumption | omega | (simp only [St.set_n, St.new_n] at *; omega)), St.set_ne _ _ (by first | assumption | omega | (simp only [St.set_n, St.new_n] at *; omega))]; assumption)
                    | (simp only [decide_eq_true_eq, decide_eq_false_iff_not, Bool.not_eq_true, beq_iff_eq, beq_eq_false_iff_ne, ne_eq, ge_iff_le, gt_iff_lt] at *; omega)) ?_; conv => whnf)
                | (rw [St.set_same]; conv => whnf)
                | (rw [St.new_same]; conv => whnf)
                | (rw [St.set_ne _ _ (by first | assumption | omega | (simp only [St.set_n, St.new_n] at *; omega))]; conv => whnf)
                | (rw [St.new_ne _ _ (by first | assumption | omega | (simp only [St.set_n, St.new_n] at *; omega))]; conv => whnf))
            refine ⟨_, [(0, .str s), (1, .int .i64 (s.length - r.length : Nat))], ?_, ⟨rfl, rfl, trivial⟩, s.length - r.length, rfl, by omega, by omega, ?_, rfl, rfl⟩
            · omega
            · rw [hc2, suf_drop hsuf]
        | false =>
          conv => whnf
          repeat' (first
              | (refine Bc_t ?_; conv => whnf)
              | (refine Bc_f ?_; conv => whnf)
              | (rw [g1]; conv => whnf)
              | (rw [g2]; conv => whnf)
              | (rw [g3]; conv => whnf)
              | (rw [g4]; conv => whnf)
              | (rw [g5]; conv => whnf)
              | (rw [g6]; conv => whnf)
              | (rw [g7]; conv => whnf)
              | (rw [g8]; conv => whnf)
              | (rw [g9]; conv => whnf)
              | (rw [hr]; conv => whnf)
              | (refine Bc_split (fun hb => ?_) (fun hb => ?_) <;> (rw [hb]; conv => whnf))
              | (refine And.intro (by first
                  | omega
                  | assumption
                  | (simp only [St.set_n, St.new_n] at *; omega)
                  | (simp; done)
                  | (simp; omega)
                  | (intro _ _; first | assumption | (simp only [St.set_n, St.new_n] at *; omega))
                  | (intro _; exact trivial)
                  | (intro _; intro _ _; exact trivial)
                  | (intro _; intro j hj; first | rfl | (have hj' : j < 1 := hj
                                                         obtain rfl : j = 0 := by omega
                                                         exact ⟨rfl, rfl⟩))
                  | (intro j hj; obtain rfl : j = 0 := by omega
                     first | exact ⟨rfl, rfl⟩ | exact .inl ⟨rfl, rfl⟩ | exact .inr (by omega) | exact ⟨by assumption, by assumption⟩ | assumption | trivial)
                  | exact .inr (by assumption)
                  | (intro j hj; exact .inr (by simp only [St.set_n, St.new_n] at *; omega))
                  | (intro e he; rcases List.mem_singleton.1 he with rfl; exact ⟨rfl, rfl⟩)
                  | (rw [St.set_ne _ _ (by first | assumption | omega | (simp only [St.set_n, St.new_n] at *; omega))]; assumption)
                  | (rw [St.set_ne _ _ (by first | assumption | omega | (simp only [St.set_n, St.new_n] at *; omega)), St.set_ne _ _ (by first | assumption | omega | (simp only [St.set_n, St.new_n] at *; omega))]; assumption)
                  | (simp only [decide_eq_true_eq, decide_eq_false_iff_not, Bool.not_eq_true, beq_iff_eq, beq_eq_false_iff_ne, ne_eq, ge_iff_le, gt_iff_lt] at *; omega)) ?_; conv => whnf)
              | (rw [St.set_same]; conv => whnf)
              | (rw [St.new_same]; conv => whnf)
              | (rw [St.set_ne _ _ (by first | assumption | omega | (simp only [St.set_n, St.new_n] at *; omega))]; conv => whnf)
              | (rw [St.new_ne _ _ (by first | assumption | omega | (simp only [St.set_n, St.new_n] at *; omega))]; conv => whnf))
          refine ⟨_, [(0, .str s), (1, .int .i64 (j + 1 : Nat))], ?_, ⟨rfl, int_eq (by rw [w64 (by omega) (by omega)]; omega), trivial⟩, j + 1, rfl, by omega, by omega, ?_, rfl, rfl⟩
          · omega
          · rw [hcom, one_drop hlt] at *
            exact com_on 1 _ _ h2 h1
    · obtain rfl : j = s.length := by omega
      have g1 : decide ((s.length : Int) < s.length) = false := by simp
      conv => whnf
      repeat' (first
          | (refine Bc_t ?_; conv => whnf)
          | (refine Bc_f ?_; conv => whnf)
          | (rw [g1]; conv => whnf)
          | (rw [g2]; conv => whnf)
          | (rw [g3]; conv => whnf)
          | (rw [g4]; conv => whnf)
          | (rw [g5]; conv => whnf)
          | (rw [g6]; conv => whnf)
          | (rw [g7]; conv => whnf)
          | (rw [g8]; conv => whnf)
          | (rw [g9]; conv => whnf)
          | (rw [hr]; conv => whnf)
          | (refine Bc_split (fun hb => ?_) (fun hb => ?_) <;> (rw [hb]; conv => whnf))
          | (refine And.intro (by first
              | omega
              | assumption
              | (simp only [St.set_n, St.new_n] at *; omega)
              | (simp; done)
              | (simp; omega)
              | (intro _ _; first | assumption | (simp only [St.set_n, St.new_n] at *; omega))
              | (intro _; exact trivial)
              | (intro _; intro _ _; exact trivial)
              | (intro _; intro j hj; first | rfl | (have hj' : j < 1 := hj
                                                     obtain rfl : j = 0 := by omega
                                                     exact ⟨rfl, rfl⟩))
              | (intro j hj; obtain rfl : j = 0 := by omega
                 first | exact ⟨rfl, rfl⟩ | exact .inl ⟨rfl, rfl⟩ | exact .inr (by omega) | exact ⟨by assumption, by assumption⟩ | assumption | trivial)
              | exact .inr (by assumption)
              | (intro j hj; exact .inr (by simp only [St.set_n, St.new_n] at *; omega))
              | (intro e he; rcases List.mem_singleton.1 he with rfl; exact ⟨rfl, rfl⟩)
              | (rw [St.set_ne _ _ (by first | assumption | omega | (simp only [St.set_n, St.new_n] at *; omega))]; assumption)
              | (rw [St.set_ne _ _ (by first | assumption | omega | (simp only [St.set_n, St.new_n] at *; omega)), St.set_ne _ _ (by first | assumption | omega | (simp only [St.set_n, St.new_n] at *; omega))]; assumption)
              | (simp only [decide_eq_true_eq, decide_eq_false_iff_not, Bool.not_eq_true, beq_iff_eq, beq_eq_false_iff_ne, ne_eq, ge_iff_le, gt_iff_lt] at *; omega)) ?_; conv => whnf)
          | (rw [St.set_same]; conv => whnf)
          | (rw [St.new_same]; conv => whnf)
          | (rw [St.set_ne _ _ (by first | assumption | omega | (simp only [St.set_n, St.new_n] at *; omega))]; conv => whnf)
          | (rw [St.new_ne _ _ (by first | assumption | omega | (simp only [St.set_n, St.new_n] at *; omega))]; conv => whnf))
      refine Fin.of ⟨rfl, ?_⟩
      rw [comA, hcom, List.drop_length]
      rfl
end
end Go.Proofs.YtjeccchbeflddaaGreatDoor.Ga
