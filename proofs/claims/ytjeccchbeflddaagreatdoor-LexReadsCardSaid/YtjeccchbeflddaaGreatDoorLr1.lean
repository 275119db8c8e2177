/- Numbers of whatever size, and the reference's numbers. -/
import Derived.Test.YtjeccchbeflddaaGreatDoorLa11
import Derived.Lib.ItoaNum
set_option linter.unusedVariables false
set_option linter.unusedSimpArgs false
namespace Go.Proofs.YtjeccchbeflddaaGreatDoor.Ga
open Lx

def c_rcut : SFun := ⟨16, (.seq (.reg [⟨(some 2), (.mov (.const (.int .i64 0))), none⟩]) (.seq (.seq (.reg [⟨(some 3), (.mov (.tmp 0)), none⟩, ⟨(some 4), (.bin .gtr .none (.tmp 3) (.const (.int .i64 4611686018427387903))), none⟩]) (.cond (.tmp 4) (.seq (.reg [⟨(some 5), (.mov (.tmp 0)), none⟩, ⟨(some 6), (.bin .sub .none (.tmp 5) (.const (.int .i64 4611686018427387903))), none⟩, ⟨(some 7), (.bin .sub .none (.tmp 6) (.const (.int .i64 4611686018427387903))), none⟩, ⟨(some 8), (.bin .sub .none (.tmp 7) (.const (.int .i64 2))), none⟩, ⟨(some 2), (.mov (.tmp 8)), none⟩]) .ret) .skip)) (.seq (.seq (.reg [⟨(some 9), (.mov (.tmp 0)), none⟩, ⟨(some 10), (.bin .lss .none (.tmp 9) (.const (.int .i64 (-4611686018427387904)))), none⟩]) (.cond (.tmp 10) (.seq (.reg [⟨(some 11), (.mov (.tmp 0)), none⟩, ⟨(some 12), (.bin .add .none (.tmp 11) (.const (.int .i64 4611686018427387903))), none⟩, ⟨(some 13), (.bin .add .none (.tmp 12) (.const (.int .i64 4611686018427387903))), none⟩, ⟨(some 14), (.bin .add .none (.tmp 13) (.const (.int .i64 2))), none⟩, ⟨(some 2), (.mov (.tmp 14)), none⟩]) .ret) .skip)) (.seq (.reg [⟨(some 15), (.mov (.tmp 0)), none⟩, ⟨(some 2), (.mov (.tmp 15)), none⟩]) .ret)))), [(.tmp 2)]⟩
theorem c_rcut_ok : cFun Tryz.prog Tryz.f60 = some c_rcut := by kernel_rfl
def c_rint : SFun := ⟨17, (.seq (.reg [⟨(some 2), (.mov (.const (.int .u64 0))), none⟩]) (.seq (.reg [⟨(some 3), (.mov (.tmp 0)), none⟩, ⟨(some 4), (.call 60 [(.tmp 3)]), none⟩, ⟨(some 0), (.mov (.tmp 4)), none⟩]) (.seq (.seq (.reg [⟨(some 5), (.mov (.tmp 0)), none⟩, ⟨(some 6), (.bin .lss .none (.tmp 5) (.const (.int .i64 0))), none⟩]) (.cond (.tmp 6) (.seq (.reg [⟨(some 7), (.mov (.tmp 0)), none⟩, ⟨(some 8), (.bin .sub .none (.const (.int .i64 0)) (.tmp 7)), none⟩, ⟨(some 9), (.toInt .u64 (.tmp 8)), none⟩, ⟨(some 10), (.bin .mul .none (.tmp 9) (.const (.int .u64 2))), none⟩, ⟨(some 11), (.bin .sub .none (.const (.int .u64 0)) (.tmp 10)), none⟩, ⟨(some 12), (.bin .add .none (.tmp 11) (.const (.int .u64 1))), none⟩, ⟨(some 2), (.mov (.tmp 12)), none⟩]) .ret) .skip)) (.seq (.reg [⟨(some 13), (.mov (.tmp 0)), none⟩, ⟨(some 14), (.toInt .u64 (.tmp 13)), none⟩, ⟨(some 15), (.bin .mul .none (.tmp 14) (.const (.int .u64 2))), none⟩, ⟨(some 16), (.bin .add .none (.tmp 15) (.const (.int .u64 1))), none⟩, ⟨(some 2), (.mov (.tmp 16)), none⟩]) .ret)))), [(.tmp 2)]⟩
theorem c_rint_ok : cFun Tryz.prog Tryz.f49 = some c_rint := by kernel_rfl
def c_rnum : SFun := ⟨14, (.seq (.reg [⟨(some 2), (.mov (.const (.int .i64 0))), none⟩]) (.seq (.reg [⟨(some 4), (.mov (.tmp 0)), none⟩, ⟨(some 5), (.bin .quo .none (.tmp 4) (.const (.int .u64 2))), none⟩, ⟨(some 6), (.toInt .i64 (.tmp 5)), none⟩, ⟨(some 3), (.mov (.tmp 6)), none⟩]) (.seq (.seq (.reg [⟨(some 7), (.mov (.tmp 3)), none⟩, ⟨(some 8), (.bin .gtr .none (.tmp 7) (.const (.int .i64 4611686018427387903))), none⟩]) (.cond (.tmp 8) (.seq (.reg [⟨(some 9), (.mov (.tmp 3)), none⟩, ⟨(some 10), (.bin .sub .none (.tmp 9) (.const (.int .i64 4611686018427387903))), none⟩, ⟨(some 11), (.bin .sub .none (.tmp 10) (.const (.int .i64 4611686018427387903))), none⟩, ⟨(some 12), (.bin .sub .none (.tmp 11) (.const (.int .i64 2))), none⟩, ⟨(some 2), (.mov (.tmp 12)), none⟩]) .ret) .skip)) (.seq (.reg [⟨(some 13), (.mov (.tmp 3)), none⟩, ⟨(some 2), (.mov (.tmp 13)), none⟩]) .ret)))), [(.tmp 2)]⟩
theorem c_rnum_ok : cFun Tryz.prog Tryz.f36 = some c_rnum := by kernel_rfl

/-- A number's 63 bits, from 0 on; as a number of 63 bits. -/
def c63 (n : Int) : Int := n % 9223372036854775808
def cutN (n : Int) : Int := if c63 n < 4611686018427387904 then c63 n else c63 n - 9223372036854775808
theorem c63_lo (n : Int) : 0 ≤ c63 n := Int.emod_nonneg _ (by decide)
theorem c63_hi (n : Int) : c63 n < 9223372036854775808 := Int.emod_lt_of_pos _ (by decide)

theorem wrapu (x : Int) : IntKind.u64.wrap x = x % 18446744073709551616 := by
  unfold IntKind.wrap; simp [IntKind.bits, IntKind.signed]
theorem wrapi_big {x : Int} (h0 : 9223372036854775808 ≤ x) (h1 : x < 18446744073709551616) : IntKind.i64.wrap x = x - 18446744073709551616 := by
  unfold IntKind.wrap; simp [IntKind.bits, IntKind.signed]; omega

theorem or_one63 (n : Nat) (h : n < 9223372036854775808) : ((BitVec.ofInt 64 (2 * (n : Int)) ||| BitVec.ofInt 64 1).toNat : Int) = 2 * n + 1 := by
  have e1 : BitVec.ofInt 64 (2 * (n : Int)) = BitVec.ofNat 64 (2 * n) := by
    rw [show (2 * (n : Int)) = ((2 * n : Nat) : Int) by omega]; rfl
  have e2 : BitVec.ofInt 64 1 = BitVec.ofNat 64 1 := rfl
  rw [e1, e2, BitVec.toNat_or, BitVec.toNat_ofNat, BitVec.toNat_ofNat, Nat.mod_eq_of_lt (by omega), Nat.mod_eq_of_lt (by omega)]
  have := Nat.shiftLeft_add_eq_or_of_lt (i := 1) (b := 1) (by decide) n
  rw [Nat.shiftLeft_eq] at this
  have h2 : 2 * n ||| 1 = 2 * n + 1 := by rw [show 2 * n = n * 2 ^ 1 by omega]; omega
  omega

section
attribute [local irreducible] Bc ACallsW ALoop Fin St.set St.new
theorem wint_ok (n : Int) (σ : St) (m) : ACalls Tryz.prog 19 [.int .i64 n] σ m (fun e σ' => σ' = σ ∧ e = .ret (.int .u64 (2 * c63 n + 1))) := by
  refine acalls_go mixed Tryz.func19 c_int_ok (Nat.le_of_ble_eq_true rfl) ?_
  conv => whnf
  repeat' (first
      | (refine Bc_t ?_; conv => whnf)
      | (refine Bc_f ?_; conv => whnf)
      | (rw [g1]; conv => whnf)
      | (rw [g2]; conv => whnf)
      | (rw [g3]; conv => whnf)
      | (rw [g4]; conv => whnf)
      | (rw [g5]; conv => whnf)
      | (rw [g6]; conv => whnf)
      | (rw [g7]; conv => whnf)
      | (rw [g8]; conv => whnf)
      | (rw [g9]; conv => whnf)
      | (rw [hr]; conv => whnf)
      | (refine Bc_split (fun hb => ?_) (fun hb => ?_) <;> (rw [hb]; conv => whnf))
      | (refine And.intro (by first
          | omega
          | assumption
          | (simp only [St.set_n, St.new_n] at *; omega)
          | (simp; done)
          | (simp; omega)
          | (intro _ _; first | assumption | (simp only [St.set_n, St.new_n] at *; omega))
          | (intro _; exact trivial)
          | (intro _; intro _ _; exact trivial)
          | (intro _; intro j hj; first | rfl | (have hj' : j < 1 := hj
                                                 obtain rfl : j = 0 := by omega
                                                 exact ⟨rfl, rfl⟩))
          | (intro j hj; obtain rfl : j = 0 := by omega
             first | exact ⟨rfl, rfl⟩ | exact .inl ⟨rfl, rfl⟩ | exact .inr (by omega) | exact ⟨by assumption, by assumption⟩ | assumption | trivial)
          | exact .inr (by assumption)
          | (intro j hj; exact .inr (by simp only [St.set_n, St.new_n] at *; omega))
          | (intro e he; rcases List.mem_singleton.1 he with rfl; exact ⟨rfl, rfl⟩)
          | (rw [St.set_ne _ _ (by first | assumption | omega | (simp only [St.set_n, St.new_n] at *; omega))]; assumption)
          | (rw [St.set_ne _ _ (by first | assumption | omega | (simp only [St.set_n, St.new_n] at *; omega)), St.set_ne _ _ (by first | assumption | omega | (simp only [St.set_n, St.new_n] at *; omega))]; assumption)
          | (simp only [decide_eq_true_eq, decide_eq_false_iff_not, Bool.not_eq_true, beq_iff_eq, beq_eq_false_iff_ne, ne_eq, ge_iff_le, gt_iff_lt] at *; omega)) ?_; conv => whnf)
      | (rw [St.set_same]; conv => whnf)
      | (rw [St.new_same]; conv => whnf)
      | (rw [St.set_ne _ _ (by first | assumption | omega | (simp only [St.set_n, St.new_n] at *; omega))]; conv => whnf)
      | (rw [St.new_ne _ _ (by first | assumption | omega | (simp only [St.set_n, St.new_n] at *; omega))]; conv => whnf))
  refine Fin.of ⟨rfl, congrArg (fun z => AEnd.ret (A.int .u64 z)) ?_⟩
  show IntKind.u64.wrap ((BitVec.ofInt 64 (IntKind.u64.wrap (IntKind.u64.wrap n * 2 ^ 1)) ||| BitVec.ofInt 64 1).toNat : Int) = 2 * c63 n + 1
  have h0 := c63_lo n
  have h1 := c63_hi n
  have e : IntKind.u64.wrap (IntKind.u64.wrap n * 2 ^ 1) = 2 * ((c63 n).toNat : Int) := by
    rw [wrapu, wrapu, Int.toNat_of_nonneg h0]
    unfold c63
    omega
  rw [e, or_one63 _ (by omega), wrapu, Int.toNat_of_nonneg h0]
  omega

theorem wnum_ok (c : Int) (h0 : 0 ≤ c) (h1 : c < 9223372036854775808) (σ : St) (m) : ACalls Tryz.prog 41 [.int .u64 (2 * c + 1)] σ m (fun e σ' => σ' = σ ∧ e = .ret (.int .i64 (if c < 4611686018427387904 then c else c - 9223372036854775808))) := by
  refine acalls_go mixed Tryz.func41 c_num_ok (Nat.le_of_ble_eq_true rfl) ?_
  conv => whnf
  repeat' (first
      | (refine Bc_t ?_; conv => whnf)
      | (refine Bc_f ?_; conv => whnf)
      | (rw [g1]; conv => whnf)
      | (rw [g2]; conv => whnf)
      | (rw [g3]; conv => whnf)
      | (rw [g4]; conv => whnf)
      | (rw [g5]; conv => whnf)
      | (rw [g6]; conv => whnf)
      | (rw [g7]; conv => whnf)
      | (rw [g8]; conv => whnf)
      | (rw [g9]; conv => whnf)
      | (rw [hr]; conv => whnf)
      | (refine Bc_split (fun hb => ?_) (fun hb => ?_) <;> (rw [hb]; conv => whnf))
      | (refine And.intro (by first
          | omega
          | assumption
          | (simp only [St.set_n, St.new_n] at *; omega)
          | (simp; done)
          | (simp; omega)
          | (intro _ _; first | assumption | (simp only [St.set_n, St.new_n] at *; omega))
          | (intro _; exact trivial)
          | (intro _; intro _ _; exact trivial)
          | (intro _; intro j hj; first | rfl | (have hj' : j < 1 := hj
                                                 obtain rfl : j = 0 := by omega
                                                 exact ⟨rfl, rfl⟩))
          | (intro j hj; obtain rfl : j = 0 := by omega
             first | exact ⟨rfl, rfl⟩ | exact .inl ⟨rfl, rfl⟩ | exact .inr (by omega) | exact ⟨by assumption, by assumption⟩ | assumption | trivial)
          | exact .inr (by assumption)
          | (intro j hj; exact .inr (by simp only [St.set_n, St.new_n] at *; omega))
          | (intro e he; rcases List.mem_singleton.1 he with rfl; exact ⟨rfl, rfl⟩)
          | (rw [St.set_ne _ _ (by first | assumption | omega | (simp only [St.set_n, St.new_n] at *; omega))]; assumption)
          | (rw [St.set_ne _ _ (by first | assumption | omega | (simp only [St.set_n, St.new_n] at *; omega)), St.set_ne _ _ (by first | assumption | omega | (simp only [St.set_n, St.new_n] at *; omega))]; assumption)
          | (simp only [decide_eq_true_eq, decide_eq_false_iff_not, Bool.not_eq_true, beq_iff_eq, beq_eq_false_iff_ne, ne_eq, ge_iff_le, gt_iff_lt] at *; omega)) ?_; conv => whnf)
      | (rw [St.set_same]; conv => whnf)
      | (rw [St.new_same]; conv => whnf)
      | (rw [St.set_ne _ _ (by first | assumption | omega | (simp only [St.set_n, St.new_n] at *; omega))]; conv => whnf)
      | (rw [St.new_ne _ _ (by first | assumption | omega | (simp only [St.set_n, St.new_n] at *; omega))]; conv => whnf))
  refine Fin.of ⟨rfl, congrArg (fun z => AEnd.ret (A.int .i64 z)) ?_⟩
  show Int.fdiv (IntKind.i64.wrap (2 * c + 1)) (2 ^ 1) = _
  rw [Int.fdiv_eq_ediv_of_nonneg _ (by decide)]
  split
  · rw [w64 (by omega) (by omega)]; omega
  · rw [wrapi_big (by omega) (by omega)]; omega

theorem rcut_ok (n : Int) (h0 : -9223372036854775808 ≤ n) (h1 : n < 9223372036854775808) (σ : St) (m) : ACalls Tryz.prog 60 [.int .i64 n] σ m (fun e σ' => σ' = σ ∧ e = .ret (.int .i64 (cutN n))) := by
  refine acalls_go mixed Tryz.func60 c_rcut_ok (Nat.le_of_ble_eq_true rfl) ?_
  conv => whnf
  repeat' (first
      | (refine Bc_t ?_; conv => whnf)
      | (refine Bc_f ?_; conv => whnf)
      | (rw [g1]; conv => whnf)
      | (rw [g2]; conv => whnf)
      | (rw [g3]; conv => whnf)
      | (rw [g4]; conv => whnf)
      | (rw [g5]; conv => whnf)
      | (rw [g6]; conv => whnf)
      | (rw [g7]; conv => whnf)
      | (rw [g8]; conv => whnf)
      | (rw [g9]; conv => whnf)
      | (rw [hr]; conv => whnf)
      | (refine Bc_split (fun hb => ?_) (fun hb => ?_) <;> (rw [hb]; conv => whnf))
      | (refine And.intro (by first
          | omega
          | assumption
          | (simp only [St.set_n, St.new_n] at *; omega)
          | (simp; done)
          | (simp; omega)
          | (intro _ _; first | assumption | (simp only [St.set_n, St.new_n] at *; omega))
          | (intro _; exact trivial)
          | (intro _; intro _ _; exact trivial)
          | (intro _; intro j hj; first | rfl | (have hj' : j < 1 := hj
                                                 obtain rfl : j = 0 := by omega
                                                 exact ⟨rfl, rfl⟩))
          | (intro j hj; obtain rfl : j = 0 := by omega
             first | exact ⟨rfl, rfl⟩ | exact .inl ⟨rfl, rfl⟩ | exact .inr (by omega) | exact ⟨by assumption, by assumption⟩ | assumption | trivial)
          | exact .inr (by assumption)
          | (intro j hj; exact .inr (by simp only [St.set_n, St.new_n] at *; omega))
          | (intro e he; rcases List.mem_singleton.1 he with rfl; exact ⟨rfl, rfl⟩)
          | (rw [St.set_ne _ _ (by first | assumption | omega | (simp only [St.set_n, St.new_n] at *; omega))]; assumption)
          | (rw [St.set_ne _ _ (by first | assumption | omega | (simp only [St.set_n, St.new_n] at *; omega)), St.set_ne _ _ (by first | assumption | omega | (simp only [St.set_n, St.new_n] at *; omega))]; assumption)
          | (simp only [decide_eq_true_eq, decide_eq_false_iff_not, Bool.not_eq_true, beq_iff_eq, beq_eq_false_iff_ne, ne_eq, ge_iff_le, gt_iff_lt] at *; omega)) ?_; conv => whnf)
      | (rw [St.set_same]; conv => whnf)
      | (rw [St.new_same]; conv => whnf)
      | (rw [St.set_ne _ _ (by first | assumption | omega | (simp only [St.set_n, St.new_n] at *; omega))]; conv => whnf)
      | (rw [St.new_ne _ _ (by first | assumption | omega | (simp only [St.set_n, St.new_n] at *; omega))]; conv => whnf))
  · have hb := of_decide_eq_true hb
    refine Fin.of ⟨rfl, congrArg (fun z => AEnd.ret (A.int .i64 z)) ?_⟩
    show IntKind.i64.wrap (IntKind.i64.wrap (IntKind.i64.wrap (n - 4611686018427387903) - 4611686018427387903) - 2) = _
    rw [w64 (n := n - 4611686018427387903) (by omega) (by omega), w64 (n := n - 4611686018427387903 - 4611686018427387903) (by omega) (by omega), w64 (by omega) (by omega)]
    unfold cutN c63
    split <;> omega
  · rename_i h2
    have h2 := of_decide_eq_false h2
    have hb := of_decide_eq_true hb
    refine Fin.of ⟨rfl, congrArg (fun z => AEnd.ret (A.int .i64 z)) ?_⟩
    show IntKind.i64.wrap (IntKind.i64.wrap (IntKind.i64.wrap (n + 4611686018427387903) + 4611686018427387903) + 2) = _
    rw [w64 (n := n + 4611686018427387903) (by omega) (by omega), w64 (n := n + 4611686018427387903 + 4611686018427387903) (by omega) (by omega), w64 (by omega) (by omega)]
    unfold cutN c63
    split <;> omega
  · rename_i h2
    have h2 := of_decide_eq_false h2
    have hb := of_decide_eq_false hb
    refine Fin.of ⟨rfl, congrArg (fun z => AEnd.ret (A.int .i64 z)) ?_⟩
    show n = _
    unfold cutN c63
    split <;> omega

theorem rint_ok (n : Int) (h0 : -9223372036854775808 ≤ n) (h1 : n < 9223372036854775808) (σ : St) (m) : ACalls Tryz.prog 49 [.int .i64 n] σ m (fun e σ' => σ' = σ ∧ e = .ret (.int .u64 (2 * c63 n + 1))) := by
  refine acalls_go mixed Tryz.func49 c_rint_ok (Nat.le_of_ble_eq_true rfl) ?_
  conv => whnf
  refine ACallsW.of (rcut_ok n h0 h1 _ Non) (fun _ _ _ h => h.elim) ?_
  rintro _ σ1 _ ⟨e1, rfl⟩
  have e2 := e1.symm
  subst e2
  have hc0 := c63_lo n
  have hc1 := c63_hi n
  have hcut : (c63 n < 4611686018427387904 ∧ cutN n = c63 n) ∨ (4611686018427387904 ≤ c63 n ∧ cutN n = c63 n - 9223372036854775808) := by
    unfold cutN
    split
    · exact .inl ⟨by assumption, rfl⟩
    · exact .inr ⟨by omega, rfl⟩
  generalize cutN n = z at hcut ⊢
  generalize c63 n = c at hcut hc0 hc1 ⊢
  conv => whnf
  repeat' (first
      | (refine Bc_t ?_; conv => whnf)
      | (refine Bc_f ?_; conv => whnf)
      | (rw [g1]; conv => whnf)
      | (rw [g2]; conv => whnf)
      | (rw [g3]; conv => whnf)
      | (rw [g4]; conv => whnf)
      | (rw [g5]; conv => whnf)
      | (rw [g6]; conv => whnf)
      | (rw [g7]; conv => whnf)
      | (rw [g8]; conv => whnf)
      | (rw [g9]; conv => whnf)
      | (rw [hr]; conv => whnf)
      | (refine Bc_split (fun hb => ?_) (fun hb => ?_) <;> (rw [hb]; conv => whnf))
      | (refine And.intro (by first
          | omega
          | assumption
          | (simp only [St.set_n, St.new_n] at *; omega)
          | (simp; done)
          | (simp; omega)
          | (intro _ _; first | assumption | (simp only [St.set_n, St.new_n] at *; omega))
          | (intro _; exact trivial)
          | (intro _; intro _ _; exact trivial)
          | (intro _; intro j hj; first | rfl | (have hj' : j < 1 := hj
                                                 obtain rfl : j = 0 := by omega
                                                 exact ⟨rfl, rfl⟩))
          | (intro j hj; obtain rfl : j = 0 := by omega
             first | exact ⟨rfl, rfl⟩ | exact .inl ⟨rfl, rfl⟩ | exact .inr (by omega) | exact ⟨by assumption, by assumption⟩ | assumption | trivial)
          | exact .inr (by assumption)
          | (intro j hj; exact .inr (by simp only [St.set_n, St.new_n] at *; omega))
          | (intro e he; rcases List.mem_singleton.1 he with rfl; exact ⟨rfl, rfl⟩)
          | (rw [St.set_ne _ _ (by first | assumption | omega | (simp only [St.set_n, St.new_n] at *; omega))]; assumption)
          | (rw [St.set_ne _ _ (by first | assumption | omega | (simp only [St.set_n, St.new_n] at *; omega)), St.set_ne _ _ (by first | assumption | omega | (simp only [St.set_n, St.new_n] at *; omega))]; assumption)
          | (simp only [decide_eq_true_eq, decide_eq_false_iff_not, Bool.not_eq_true, beq_iff_eq, beq_eq_false_iff_ne, ne_eq, ge_iff_le, gt_iff_lt] at *; omega)) ?_; conv => whnf)
      | (rw [St.set_same]; conv => whnf)
      | (rw [St.new_same]; conv => whnf)
      | (rw [St.set_ne _ _ (by first | assumption | omega | (simp only [St.set_n, St.new_n] at *; omega))]; conv => whnf)
      | (rw [St.new_ne _ _ (by first | assumption | omega | (simp only [St.set_n, St.new_n] at *; omega))]; conv => whnf))
  · have hb := of_decide_eq_true hb
    refine Fin.of ⟨rfl, congrArg (fun z => AEnd.ret (A.int .u64 z)) ?_⟩
    show IntKind.u64.wrap (IntKind.u64.wrap (0 - IntKind.u64.wrap (IntKind.u64.wrap (IntKind.i64.wrap (0 - z)) * 2)) + 1) = _
    rw [w64 (n := 0 - z) (by omega) (by omega)]
    simp only [wrapu]
    omega
  · have hb := of_decide_eq_false hb
    refine Fin.of ⟨rfl, congrArg (fun z => AEnd.ret (A.int .u64 z)) ?_⟩
    show IntKind.u64.wrap (IntKind.u64.wrap (IntKind.u64.wrap z * 2) + 1) = _
    simp only [wrapu]
    omega

theorem rnum_ok (c : Int) (h0 : 0 ≤ c) (h1 : c < 9223372036854775808) (σ : St) (m) : ACalls Tryz.prog 36 [.int .u64 (2 * c + 1)] σ m (fun e σ' => σ' = σ ∧ e = .ret (.int .i64 (if c < 4611686018427387904 then c else c - 9223372036854775808))) := by
  have e0 : IntKind.i64.wrap (IntKind.u64.wrap ((2 * c + 1).tdiv 2)) = c := by
    rw [Int.tdiv_eq_ediv_of_nonneg (by omega), wrapu, w64 (by omega) (by omega)]; omega
  refine acalls_go mixed Tryz.func36 c_rnum_ok (Nat.le_of_ble_eq_true rfl) ?_
  conv => whnf
  have hr := e0
  repeat' (first
      | (refine Bc_t ?_; conv => whnf)
      | (refine Bc_f ?_; conv => whnf)
      | (rw [g1]; conv => whnf)
      | (rw [g2]; conv => whnf)
      | (rw [g3]; conv => whnf)
      | (rw [g4]; conv => whnf)
      | (rw [g5]; conv => whnf)
      | (rw [g6]; conv => whnf)
      | (rw [g7]; conv => whnf)
      | (rw [g8]; conv => whnf)
      | (rw [g9]; conv => whnf)
      | (rw [hr]; conv => whnf)
      | (refine Bc_split (fun hb => ?_) (fun hb => ?_) <;> (rw [hb]; conv => whnf))
      | (refine And.intro (by first
          | omega
          | assumption
          | (simp only [St.set_n, St.new_n] at *; omega)
          | (simp; done)
          | (simp; omega)
          | (intro _ _; first | assumption | (simp only [St.set_n, St.new_n] at *; omega))
          | (intro _; exact trivial)
          | (intro _; intro _ _; exact trivial)
          | (intro _; intro j hj; first | rfl | (have hj' : j < 1 := hj
                                                 obtain rfl : j = 0 := by omega
                                                 exact ⟨rfl, rfl⟩))
          | (intro j hj; obtain rfl : j = 0 := by omega
             first | exact ⟨rfl, rfl⟩ | exact .inl ⟨rfl, rfl⟩ | exact .inr (by omega) | exact ⟨by assumption, by assumption⟩ | assumption | trivial)
          | exact .inr (by assumption)
          | (intro j hj; exact .inr (by simp only [St.set_n, St.new_n] at *; omega))
          | (intro e he; rcases List.mem_singleton.1 he with rfl; exact ⟨rfl, rfl⟩)
          | (rw [St.set_ne _ _ (by first | assumption | omega | (simp only [St.set_n, St.new_n] at *; omega))]; assumption)
          | (rw [St.set_ne _ _ (by first | assumption | omega | (simp only [St.set_n, St.new_n] at *; omega)), St.set_ne _ _ (by first | assumption | omega | (simp only [St.set_n, St.new_n] at *; omega))]; assumption)
          | (simp only [decide_eq_true_eq, decide_eq_false_iff_not, Bool.not_eq_true, beq_iff_eq, beq_eq_false_iff_ne, ne_eq, ge_iff_le, gt_iff_lt] at *; omega)) ?_; conv => whnf)
      | (rw [St.set_same]; conv => whnf)
      | (rw [St.new_same]; conv => whnf)
      | (rw [St.set_ne _ _ (by first | assumption | omega | (simp only [St.set_n, St.new_n] at *; omega))]; conv => whnf)
      | (rw [St.new_ne _ _ (by first | assumption | omega | (simp only [St.set_n, St.new_n] at *; omega))]; conv => whnf))
  · have hb := of_decide_eq_true hb
    refine Fin.of ⟨rfl, congrArg (fun z => AEnd.ret (A.int .i64 z)) ?_⟩
    show IntKind.i64.wrap (IntKind.i64.wrap (IntKind.i64.wrap (c - 4611686018427387903) - 4611686018427387903) - 2) = _
    rw [w64 (n := c - 4611686018427387903) (by omega) (by omega), w64 (n := c - 4611686018427387903 - 4611686018427387903) (by omega) (by omega), w64 (by omega) (by omega), if_neg (by omega)]
    omega
  · have hb := of_decide_eq_false hb
    exact Fin.of ⟨rfl, congrArg (fun z => AEnd.ret (A.int .i64 z)) (by rw [if_pos (by omega)])⟩
end
end Go.Proofs.YtjeccchbeflddaaGreatDoor.Ga
