/- The reference's digits. -/
import Derived.Test.YtkpijfgananjjaaDoorTb
import Derived.Lib.ItoaNum
set_option linter.unusedVariables false
set_option linter.unusedSimpArgs false
namespace Go.Proofs.YtkpijfgananjjaaDoor.Ga

def c_rcut : SFun := ⟨16, (.seq (.reg [⟨(some 2), (.mov (.const (.int .i64 0))), none⟩]) (.seq (.seq (.reg [⟨(some 3), (.mov (.tmp 0)), none⟩, ⟨(some 4), (.bin .gtr .none (.tmp 3) (.const (.int .i64 4611686018427387903))), none⟩]) (.cond (.tmp 4) (.seq (.reg [⟨(some 5), (.mov (.tmp 0)), none⟩, ⟨(some 6), (.bin .sub .none (.tmp 5) (.const (.int .i64 4611686018427387903))), none⟩, ⟨(some 7), (.bin .sub .none (.tmp 6) (.const (.int .i64 4611686018427387903))), none⟩, ⟨(some 8), (.bin .sub .none (.tmp 7) (.const (.int .i64 2))), none⟩, ⟨(some 2), (.mov (.tmp 8)), none⟩]) .ret) .skip)) (.seq (.seq (.reg [⟨(some 9), (.mov (.tmp 0)), none⟩, ⟨(some 10), (.bin .lss .none (.tmp 9) (.const (.int .i64 (-4611686018427387904)))), none⟩]) (.cond (.tmp 10) (.seq (.reg [⟨(some 11), (.mov (.tmp 0)), none⟩, ⟨(some 12), (.bin .add .none (.tmp 11) (.const (.int .i64 4611686018427387903))), none⟩, ⟨(some 13), (.bin .add .none (.tmp 12) (.const (.int .i64 4611686018427387903))), none⟩, ⟨(some 14), (.bin .add .none (.tmp 13) (.const (.int .i64 2))), none⟩, ⟨(some 2), (.mov (.tmp 14)), none⟩]) .ret) .skip)) (.seq (.reg [⟨(some 15), (.mov (.tmp 0)), none⟩, ⟨(some 2), (.mov (.tmp 15)), none⟩]) .ret)))), [(.tmp 2)]⟩
theorem c_rcut_ok : cFun Tryd.prog Tryd.f48 = some c_rcut := by kernel_rfl
def c_rint : SFun := ⟨17, (.seq (.reg [⟨(some 2), (.mov (.const (.int .u64 0))), none⟩]) (.seq (.reg [⟨(some 3), (.mov (.tmp 0)), none⟩, ⟨(some 4), (.call 48 [(.tmp 3)]), none⟩, ⟨(some 0), (.mov (.tmp 4)), none⟩]) (.seq (.seq (.reg [⟨(some 5), (.mov (.tmp 0)), none⟩, ⟨(some 6), (.bin .lss .none (.tmp 5) (.const (.int .i64 0))), none⟩]) (.cond (.tmp 6) (.seq (.reg [⟨(some 7), (.mov (.tmp 0)), none⟩, ⟨(some 8), (.bin .sub .none (.const (.int .i64 0)) (.tmp 7)), none⟩, ⟨(some 9), (.toInt .u64 (.tmp 8)), none⟩, ⟨(some 10), (.bin .mul .none (.tmp 9) (.const (.int .u64 2))), none⟩, ⟨(some 11), (.bin .sub .none (.const (.int .u64 0)) (.tmp 10)), none⟩, ⟨(some 12), (.bin .add .none (.tmp 11) (.const (.int .u64 1))), none⟩, ⟨(some 2), (.mov (.tmp 12)), none⟩]) .ret) .skip)) (.seq (.reg [⟨(some 13), (.mov (.tmp 0)), none⟩, ⟨(some 14), (.toInt .u64 (.tmp 13)), none⟩, ⟨(some 15), (.bin .mul .none (.tmp 14) (.const (.int .u64 2))), none⟩, ⟨(some 16), (.bin .add .none (.tmp 15) (.const (.int .u64 1))), none⟩, ⟨(some 2), (.mov (.tmp 16)), none⟩]) .ret)))), [(.tmp 2)]⟩
theorem c_rint_ok : cFun Tryd.prog Tryd.f39 = some c_rint := by kernel_rfl
def c_rnum : SFun := ⟨14, (.seq (.reg [⟨(some 2), (.mov (.const (.int .i64 0))), none⟩]) (.seq (.reg [⟨(some 4), (.mov (.tmp 0)), none⟩, ⟨(some 5), (.bin .quo .none (.tmp 4) (.const (.int .u64 2))), none⟩, ⟨(some 6), (.toInt .i64 (.tmp 5)), none⟩, ⟨(some 3), (.mov (.tmp 6)), none⟩]) (.seq (.seq (.reg [⟨(some 7), (.mov (.tmp 3)), none⟩, ⟨(some 8), (.bin .gtr .none (.tmp 7) (.const (.int .i64 4611686018427387903))), none⟩]) (.cond (.tmp 8) (.seq (.reg [⟨(some 9), (.mov (.tmp 3)), none⟩, ⟨(some 10), (.bin .sub .none (.tmp 9) (.const (.int .i64 4611686018427387903))), none⟩, ⟨(some 11), (.bin .sub .none (.tmp 10) (.const (.int .i64 4611686018427387903))), none⟩, ⟨(some 12), (.bin .sub .none (.tmp 11) (.const (.int .i64 2))), none⟩, ⟨(some 2), (.mov (.tmp 12)), none⟩]) .ret) .skip)) (.seq (.reg [⟨(some 13), (.mov (.tmp 3)), none⟩, ⟨(some 2), (.mov (.tmp 13)), none⟩]) .ret)))), [(.tmp 2)]⟩
theorem c_rnum_ok : cFun Tryd.prog Tryd.f46 = some c_rnum := by kernel_rfl
def c_rdigs : SFun := ⟨18, (.seq (.reg [⟨(some 2), (.mov (.const (.str []))), none⟩]) (.seq (.reg [⟨(some 4), (.mov (.tmp 0)), none⟩, ⟨(some 5), (.bin .rem .none (.tmp 4) (.const (.int .i64 10))), none⟩, ⟨(some 6), (.bin .sub .none (.const (.int .i64 48)) (.tmp 5)), none⟩, ⟨(some 7), (.toInt .u8 (.tmp 6)), none⟩, ⟨(some 8), (.buildSl 1 (.int .u8 0) 1 [(0, (.tmp 7))]), none⟩, ⟨(some 9), (.toStr (.tmp 8)), none⟩, ⟨(some 3), (.mov (.tmp 9)), none⟩]) (.seq (.seq (.reg [⟨(some 10), (.mov (.tmp 0)), none⟩, ⟨(some 11), (.bin .gtr .none (.tmp 10) (.const (.int .i64 (-10)))), none⟩]) (.cond (.tmp 11) (.seq (.reg [⟨(some 12), (.mov (.tmp 3)), none⟩, ⟨(some 2), (.mov (.tmp 12)), none⟩]) .ret) .skip)) (.seq (.reg [⟨(some 13), (.mov (.tmp 0)), none⟩, ⟨(some 14), (.bin .quo .none (.tmp 13) (.const (.int .i64 10))), none⟩, ⟨(some 15), (.call 47 [(.tmp 14)]), none⟩, ⟨(some 16), (.mov (.tmp 3)), none⟩, ⟨(some 17), (.bin .add .none (.tmp 15) (.tmp 16)), none⟩, ⟨(some 2), (.mov (.tmp 17)), none⟩]) .ret)))), [(.tmp 2)]⟩
theorem c_rdigs_ok : cFun Tryd.prog Tryd.f47 = some c_rdigs := by kernel_rfl
def c_rDig : SFun := ⟨14, (.seq (.reg [⟨(some 2), (.mov (.const (.str []))), none⟩]) (.seq (.reg [⟨(some 4), (.mov (.tmp 0)), none⟩, ⟨(some 5), (.call 46 [(.tmp 4)]), none⟩, ⟨(some 3), (.mov (.tmp 5)), none⟩]) (.seq (.seq (.reg [⟨(some 6), (.mov (.tmp 3)), none⟩, ⟨(some 7), (.bin .lss .none (.tmp 6) (.const (.int .i64 0))), none⟩]) (.cond (.tmp 7) (.seq (.reg [⟨(some 8), (.mov (.tmp 3)), none⟩, ⟨(some 9), (.call 47 [(.tmp 8)]), none⟩, ⟨(some 10), (.bin .add .none (.const (.str [45])) (.tmp 9)), none⟩, ⟨(some 2), (.mov (.tmp 10)), none⟩]) .ret) .skip)) (.seq (.reg [⟨(some 11), (.mov (.tmp 3)), none⟩, ⟨(some 12), (.bin .sub .none (.const (.int .i64 0)) (.tmp 11)), none⟩, ⟨(some 13), (.call 47 [(.tmp 12)]), none⟩, ⟨(some 2), (.mov (.tmp 13)), none⟩]) .ret)))), [(.tmp 2)]⟩
theorem c_rDig_ok : cFun Tryd.prog Tryd.f38 = some c_rDig := by kernel_rfl
def c_digits : SFun := ⟨25, (.seq (.reg [⟨(some 2), (.mov (.const (.str []))), none⟩]) (.seq (.seq (.reg [⟨(some 4), (.mov (.tmp 0)), none⟩, ⟨(some 5), (.bin .gtr .none (.tmp 4) (.const (.int .i64 (-4611686018427387904)))), none⟩, ⟨(some 6), (.mov (.tmp 5)), none⟩, ⟨(some 7), (.mov (.tmp 0)), (some (6, true))⟩, ⟨(some 8), (.bin .lss .none (.tmp 7) (.const (.int .i64 4611686018427387904))), (some (6, true))⟩, ⟨(some 9), (.pick (.tmp 6) (.tmp 8) (.const (.bool false))), none⟩]) (.cond (.tmp 9) (.seq (.reg [⟨(some 10), (.mov (.tmp 0)), none⟩, ⟨(some 11), (.call 39 [(.tmp 10)]), none⟩, ⟨(some 12), (.call 38 [(.tmp 11)]), none⟩, ⟨(some 2), (.mov (.tmp 12)), none⟩]) .ret) .skip)) (.seq (.reg [⟨(some 13), (.mov (.tmp 0)), none⟩, ⟨(some 14), (.bin .rem .none (.tmp 13) (.const (.int .i64 10))), none⟩, ⟨(some 3), (.mov (.tmp 14)), none⟩]) (.seq (.seq (.reg [⟨(some 15), (.mov (.tmp 3)), none⟩, ⟨(some 16), (.bin .lss .none (.tmp 15) (.const (.int .i64 0))), none⟩]) (.cond (.tmp 16) (.reg [⟨(some 17), (.mov (.tmp 3)), none⟩, ⟨(some 18), (.bin .sub .none (.const (.int .i64 0)) (.tmp 17)), none⟩, ⟨(some 3), (.mov (.tmp 18)), none⟩]) .skip)) (.seq (.reg [⟨(some 19), (.mov (.tmp 0)), none⟩, ⟨(some 20), (.bin .quo .none (.tmp 19) (.const (.int .i64 10))), none⟩, ⟨(some 21), (.call 24 [(.tmp 20)]), none⟩, ⟨(some 22), (.mov (.tmp 3)), none⟩, ⟨(some 23), (.call 24 [(.tmp 22)]), none⟩, ⟨(some 24), (.bin .add .none (.tmp 21) (.tmp 23)), none⟩, ⟨(some 2), (.mov (.tmp 24)), none⟩]) .ret))))), [(.tmp 2)]⟩
theorem c_digits_ok : cFun Tryd.prog Tryd.f24 = some c_digits := by kernel_rfl

theorem wu8 {n : Int} (h0 : 0 ≤ n) (h1 : n < 256) : IntKind.u8.wrap n = n := by
  unfold IntKind.wrap; simp [IntKind.bits, IntKind.signed]; omega
/-- A number's 63 bits, from 0 on; as a number of 63 bits. -/
def c63 (n : Int) : Int := n % 9223372036854775808
def cutN (n : Int) : Int := if c63 n < 4611686018427387904 then c63 n else c63 n - 9223372036854775808
theorem c63_lo (n : Int) : 0 ≤ c63 n := Int.emod_nonneg _ (by decide)
theorem c63_hi (n : Int) : c63 n < 9223372036854775808 := Int.emod_lt_of_pos _ (by decide)

theorem wrapu (x : Int) : IntKind.u64.wrap x = x % 18446744073709551616 := by
  unfold IntKind.wrap; simp [IntKind.bits, IntKind.signed]
theorem wrapi_big {x : Int} (h0 : 9223372036854775808 ≤ x) (h1 : x < 18446744073709551616) : IntKind.i64.wrap x = x - 18446744073709551616 := by
  unfold IntKind.wrap; simp [IntKind.bits, IntKind.signed]; omega

section
attribute [local irreducible] Bc ACallsW ALoop Fin St.set St.new
theorem rcut_ok (n : Int) (h0 : -9223372036854775808 ≤ n) (h1 : n < 9223372036854775808) (σ : St) (m) : ACalls Tryd.prog 48 [.int .i64 n] σ m (fun e σ' => σ' = σ ∧ e = .ret (.int .i64 (cutN n))) := by
  refine acalls_go mixed Tryd.func48 c_rcut_ok (Nat.le_of_ble_eq_true rfl) ?_
  conv => whnf
  repeat' (first
      | (refine Bc_t ?_; conv => whnf)
      | (refine Bc_f ?_; conv => whnf)
      | (rw [g1]; conv => whnf)
      | (rw [g2]; conv => whnf)
      | (rw [g3]; conv => whnf)
      | (rw [g4]; conv => whnf)
      | (rw [g5]; conv => whnf)
      | (rw [g6]; conv => whnf)
      | (rw [g7]; conv => whnf)
      | (rw [g8]; conv => whnf)
      | (rw [g9]; conv => whnf)
      | (rw [hr]; conv => whnf)
      | (refine Bc_split (fun hb => ?_) (fun hb => ?_) <;> (rw [hb]; conv => whnf))
      | (refine And.intro (by first
          | omega
          | assumption
          | (simp only [St.set_n, St.new_n] at *; omega)
          | (simp; done)
          | (simp; omega)
          | (intro _ _; first | assumption | (simp only [St.set_n, St.new_n] at *; omega))
          | (intro _; exact trivial)
          | (intro _; intro _ _; exact trivial)
          | (intro _; intro j hj; first | rfl | (have hj' : j < 1 := hj
                                                 obtain rfl : j = 0 := by omega
                                                 exact ⟨rfl, rfl⟩))
          | (intro j hj; obtain rfl : j = 0 := by omega
             first | exact ⟨rfl, rfl⟩ | exact .inl ⟨rfl, rfl⟩ | exact .inr (by omega) | exact ⟨by assumption, by assumption⟩ | assumption | trivial)
          | exact .inr (by assumption)
          | (intro j hj; exact .inr (by simp only [St.set_n, St.new_n] at *; omega))
          | (intro e he; rcases List.mem_singleton.1 he with rfl; exact ⟨rfl, rfl⟩)
          | (rw [St.set_ne _ _ (by first | assumption | omega | (simp only [St.set_n, St.new_n] at *; omega))]; assumption)
          | (rw [St.set_ne _ _ (by first | assumption | omega | (simp only [St.set_n, St.new_n] at *; omega)), St.set_ne _ _ (by first | assumption | omega | (simp only [St.set_n, St.new_n] at *; omega))]; assumption)
          | (simp only [decide_eq_true_eq, decide_eq_false_iff_not, Bool.not_eq_true, beq_iff_eq, beq_eq_false_iff_ne, ne_eq, ge_iff_le, gt_iff_lt] at *; omega)) ?_; conv => whnf)
      | (rw [St.set_same]; conv => whnf)
      | (rw [St.new_same]; conv => whnf)
      | (rw [St.set_ne _ _ (by first | assumption | omega | (simp only [St.set_n, St.new_n] at *; omega))]; conv => whnf)
      | (rw [St.new_ne _ _ (by first | assumption | omega | (simp only [St.set_n, St.new_n] at *; omega))]; conv => whnf))
  · have hb := of_decide_eq_true hb
    refine Fin.of ⟨rfl, congrArg (fun z => AEnd.ret (A.int .i64 z)) ?_⟩
    show IntKind.i64.wrap (IntKind.i64.wrap (IntKind.i64.wrap (n - 4611686018427387903) - 4611686018427387903) - 2) = _
    rw [w64 (n := n - 4611686018427387903) (by omega) (by omega), w64 (n := n - 4611686018427387903 - 4611686018427387903) (by omega) (by omega), w64 (by omega) (by omega)]
    unfold cutN c63
    split <;> omega
  · rename_i h2
    have h2 := of_decide_eq_false h2
    have hb := of_decide_eq_true hb
    refine Fin.of ⟨rfl, congrArg (fun z => AEnd.ret (A.int .i64 z)) ?_⟩
    show IntKind.i64.wrap (IntKind.i64.wrap (IntKind.i64.wrap (n + 4611686018427387903) + 4611686018427387903) + 2) = _
    rw [w64 (n := n + 4611686018427387903) (by omega) (by omega), w64 (n := n + 4611686018427387903 + 4611686018427387903) (by omega) (by omega), w64 (by omega) (by omega)]
    unfold cutN c63
    split <;> omega
  · rename_i h2
    have h2 := of_decide_eq_false h2
    have hb := of_decide_eq_false hb
    refine Fin.of ⟨rfl, congrArg (fun z => AEnd.ret (A.int .i64 z)) ?_⟩
    show n = _
    unfold cutN c63
    split <;> omega

theorem rint_ok (n : Int) (h0 : -9223372036854775808 ≤ n) (h1 : n < 9223372036854775808) (σ : St) (m) : ACalls Tryd.prog 39 [.int .i64 n] σ m (fun e σ' => σ' = σ ∧ e = .ret (.int .u64 (2 * c63 n + 1))) := by
  refine acalls_go mixed Tryd.func39 c_rint_ok (Nat.le_of_ble_eq_true rfl) ?_
  conv => whnf
  refine ACallsW.of (rcut_ok n h0 h1 _ Non) (fun _ _ _ h => h.elim) ?_
  rintro _ σ1 _ ⟨e1, rfl⟩
  have e2 := e1.symm
  subst e2
  have hc0 := c63_lo n
  have hc1 := c63_hi n
  have hcut : (c63 n < 4611686018427387904 ∧ cutN n = c63 n) ∨ (4611686018427387904 ≤ c63 n ∧ cutN n = c63 n - 9223372036854775808) := by
    unfold cutN
    split
    · exact .inl ⟨by assumption, rfl⟩
    · exact .inr ⟨by omega, rfl⟩
  generalize cutN n = z at hcut ⊢
  generalize c63 n = c at hcut hc0 hc1 ⊢
  conv => whnf
  repeat' (first
      | (refine Bc_t ?_; conv => whnf)
      | (refine Bc_f ?_; conv => whnf)
      | (rw [g1]; conv => whnf)
      | (rw [g2]; conv => whnf)
      | (rw [g3]; conv => whnf)
      | (rw [g4]; conv => whnf)
      | (rw [g5]; conv => whnf)
      | (rw [g6]; conv => whnf)
      | (rw [g7]; conv => whnf)
      | (rw [g8]; conv => whnf)
      | (rw [g9]; conv => whnf)
      | (rw [hr]; conv => whnf)
      | (refine Bc_split (fun hb => ?_) (fun hb => ?_) <;> (rw [hb]; conv => whnf))
      | (refine And.intro (by first
          | omega
          | assumption
          | (simp only [St.set_n, St.new_n] at *; omega)
          | (simp; done)
          | (simp; omega)
          | (intro _ _; first | assumption | (simp only [St.set_n, St.new_n] at *; omega))
          | (intro _; exact trivial)
          | (intro _; intro _ _; exact trivial)
          | (intro _; intro j hj; first | rfl | (have hj' : j < 1 := hj
                                                 obtain rfl : j = 0 := by omega
                                                 exact ⟨rfl, rfl⟩))
          | (intro j hj; obtain rfl : j = 0 := by omega
             first | exact ⟨rfl, rfl⟩ | exact .inl ⟨rfl, rfl⟩ | exact .inr (by omega) | exact ⟨by assumption, by assumption⟩ | assumption | trivial)
          | exact .inr (by assumption)
          | (intro j hj; exact .inr (by simp only [St.set_n, St.new_n] at *; omega))
          | (intro e he; rcases List.mem_singleton.1 he with rfl; exact ⟨rfl, rfl⟩)
          | (rw [St.set_ne _ _ (by first | assumption | omega | (simp only [St.set_n, St.new_n] at *; omega))]; assumption)
          | (rw [St.set_ne _ _ (by first | assumption | omega | (simp only [St.set_n, St.new_n] at *; omega)), St.set_ne _ _ (by first | assumption | omega | (simp only [St.set_n, St.new_n] at *; omega))]; assumption)
          | (simp only [decide_eq_true_eq, decide_eq_false_iff_not, Bool.not_eq_true, beq_iff_eq, beq_eq_false_iff_ne, ne_eq, ge_iff_le, gt_iff_lt] at *; omega)) ?_; conv => whnf)
      | (rw [St.set_same]; conv => whnf)
      | (rw [St.new_same]; conv => whnf)
      | (rw [St.set_ne _ _ (by first | assumption | omega | (simp only [St.set_n, St.new_n] at *; omega))]; conv => whnf)
      | (rw [St.new_ne _ _ (by first | assumption | omega | (simp only [St.set_n, St.new_n] at *; omega))]; conv => whnf))
  · have hb := of_decide_eq_true hb
    refine Fin.of ⟨rfl, congrArg (fun z => AEnd.ret (A.int .u64 z)) ?_⟩
    show IntKind.u64.wrap (IntKind.u64.wrap (0 - IntKind.u64.wrap (IntKind.u64.wrap (IntKind.i64.wrap (0 - z)) * 2)) + 1) = _
    rw [w64 (n := 0 - z) (by omega) (by omega)]
    simp only [wrapu]
    omega
  · have hb := of_decide_eq_false hb
    refine Fin.of ⟨rfl, congrArg (fun z => AEnd.ret (A.int .u64 z)) ?_⟩
    show IntKind.u64.wrap (IntKind.u64.wrap (IntKind.u64.wrap z * 2) + 1) = _
    simp only [wrapu]
    omega

theorem rnum_ok (c : Int) (h0 : 0 ≤ c) (h1 : c < 9223372036854775808) (σ : St) (m) : ACalls Tryd.prog 46 [.int .u64 (2 * c + 1)] σ m (fun e σ' => σ' = σ ∧ e = .ret (.int .i64 (if c < 4611686018427387904 then c else c - 9223372036854775808))) := by
  have e0 : IntKind.i64.wrap (IntKind.u64.wrap ((2 * c + 1).tdiv 2)) = c := by
    rw [Int.tdiv_eq_ediv_of_nonneg (by omega), wrapu, w64 (by omega) (by omega)]; omega
  refine acalls_go mixed Tryd.func46 c_rnum_ok (Nat.le_of_ble_eq_true rfl) ?_
  conv => whnf
  have hr := e0
  repeat' (first
      | (refine Bc_t ?_; conv => whnf)
      | (refine Bc_f ?_; conv => whnf)
      | (rw [g1]; conv => whnf)
      | (rw [g2]; conv => whnf)
      | (rw [g3]; conv => whnf)
      | (rw [g4]; conv => whnf)
      | (rw [g5]; conv => whnf)
      | (rw [g6]; conv => whnf)
      | (rw [g7]; conv => whnf)
      | (rw [g8]; conv => whnf)
      | (rw [g9]; conv => whnf)
      | (rw [hr]; conv => whnf)
      | (refine Bc_split (fun hb => ?_) (fun hb => ?_) <;> (rw [hb]; conv => whnf))
      | (refine And.intro (by first
          | omega
          | assumption
          | (simp only [St.set_n, St.new_n] at *; omega)
          | (simp; done)
          | (simp; omega)
          | (intro _ _; first | assumption | (simp only [St.set_n, St.new_n] at *; omega))
          | (intro _; exact trivial)
          | (intro _; intro _ _; exact trivial)
          | (intro _; intro j hj; first | rfl | (have hj' : j < 1 := hj
                                                 obtain rfl : j = 0 := by omega
                                                 exact ⟨rfl, rfl⟩))
          | (intro j hj; obtain rfl : j = 0 := by omega
             first | exact ⟨rfl, rfl⟩ | exact .inl ⟨rfl, rfl⟩ | exact .inr (by omega) | exact ⟨by assumption, by assumption⟩ | assumption | trivial)
          | exact .inr (by assumption)
          | (intro j hj; exact .inr (by simp only [St.set_n, St.new_n] at *; omega))
          | (intro e he; rcases List.mem_singleton.1 he with rfl; exact ⟨rfl, rfl⟩)
          | (rw [St.set_ne _ _ (by first | assumption | omega | (simp only [St.set_n, St.new_n] at *; omega))]; assumption)
          | (rw [St.set_ne _ _ (by first | assumption | omega | (simp only [St.set_n, St.new_n] at *; omega)), St.set_ne _ _ (by first | assumption | omega | (simp only [St.set_n, St.new_n] at *; omega))]; assumption)
          | (simp only [decide_eq_true_eq, decide_eq_false_iff_not, Bool.not_eq_true, beq_iff_eq, beq_eq_false_iff_ne, ne_eq, ge_iff_le, gt_iff_lt] at *; omega)) ?_; conv => whnf)
      | (rw [St.set_same]; conv => whnf)
      | (rw [St.new_same]; conv => whnf)
      | (rw [St.set_ne _ _ (by first | assumption | omega | (simp only [St.set_n, St.new_n] at *; omega))]; conv => whnf)
      | (rw [St.new_ne _ _ (by first | assumption | omega | (simp only [St.set_n, St.new_n] at *; omega))]; conv => whnf))
  · have hb := of_decide_eq_true hb
    refine Fin.of ⟨rfl, congrArg (fun z => AEnd.ret (A.int .i64 z)) ?_⟩
    show IntKind.i64.wrap (IntKind.i64.wrap (IntKind.i64.wrap (c - 4611686018427387903) - 4611686018427387903) - 2) = _
    rw [w64 (n := c - 4611686018427387903) (by omega) (by omega), w64 (n := c - 4611686018427387903 - 4611686018427387903) (by omega) (by omega), w64 (by omega) (by omega), if_neg (by omega)]
    omega
  · have hb := of_decide_eq_false hb
    exact Fin.of ⟨rfl, congrArg (fun z => AEnd.ret (A.int .i64 z)) (by rw [if_pos (by omega)])⟩
end

theorem decDigits_small {u : Nat} (h : u < 10) : Lib.decDigits u = [UInt8.ofNat (48 + u)] := by rw [Lib.decDigits, dif_pos h]
theorem decDigits_big {u : Nat} (h : ¬ u < 10) : Lib.decDigits u = Lib.decDigits (u / 10) ++ [UInt8.ofNat (48 + u % 10)] := by rw [Lib.decDigits, dif_neg h]
theorem decDigits_len (u : Nat) : (Lib.decDigits u).length ≤ u + 1 := by
  induction u using Nat.strongRecOn with
  | _ u ih =>
    by_cases h : u < 10
    · rw [decDigits_small h]; simp
    · rw [decDigits_big h, List.length_append]
      have := ih (u / 10) (by omega)
      simp only [List.length_singleton]
      omega

section
attribute [local irreducible] Bc ACallsW ALoop Fin St.set St.new
theorem rdigs_ok : ∀ (k : Nat) (n : Int), n.natAbs = k → n ≤ 0 → -4611686018427387904 ≤ n → ∀ (σ : St) (m), ACalls Tryd.prog 47 [.int .i64 n] σ m (fun e σ' => σ' = σ ∧ e = .ret (.str (Lib.decDigits n.natAbs))) := by
  intro k
  induction k using Nat.strongRecOn with
  | _ k ih =>
    intro n hk hn0 hn1 σ m
    obtain ⟨a, rfl⟩ : ∃ a : Nat, n = -(a : Int) := ⟨n.natAbs, by omega⟩
    have hna : (-(a : Int)).natAbs = a := by omega
    have e0 : IntKind.u8.wrap (IntKind.i64.wrap (48 - (-(a : Int)).tmod 10)) = (((UInt8.ofNat (48 + a % 10)).toNat : Nat) : Int) := by
      have : (-(a : Int)).tmod 10 = -((a % 10 : Nat) : Int) := by rw [Int.neg_tmod]; rfl
      rw [this, w64 (by omega) (by omega), wu8 (by omega) (by omega), UInt8.toNat_ofNat']
      have : (48 + a % 10) % 2 ^ 8 = 48 + a % 10 := Nat.mod_eq_of_lt (by omega)
      omega
    have eq : IntKind.i64.wrap ((-(a : Int)).tdiv 10) = -((a / 10 : Nat) : Int) := by
      have : (-(a : Int)).tdiv 10 = -((a / 10 : Nat) : Int) := by rw [Int.neg_tdiv]; rfl
      rw [this, w64 (by omega) (by omega)]
    rw [hna]
    refine acalls_go mixed Tryd.func47 c_rdigs_ok (Nat.le_of_ble_eq_true rfl) ?_
    conv => whnf
    repeat' (first
        | (refine Bc_t ?_; conv => whnf)
        | (refine Bc_f ?_; conv => whnf)
        | (rw [g1]; conv => whnf)
        | (rw [g2]; conv => whnf)
        | (rw [g3]; conv => whnf)
        | (rw [g4]; conv => whnf)
        | (rw [g5]; conv => whnf)
        | (rw [g6]; conv => whnf)
        | (rw [g7]; conv => whnf)
        | (rw [g8]; conv => whnf)
        | (rw [g9]; conv => whnf)
        | (rw [hr]; conv => whnf)
        | (refine Bc_split (fun hb => ?_) (fun hb => ?_) <;> (rw [hb]; conv => whnf))
        | (refine And.intro (by first
            | omega
            | assumption
            | (simp only [St.set_n, St.new_n] at *; omega)
            | (simp; done)
            | (simp; omega)
            | (intro _ _; first | assumption | (simp only [St.set_n, St.new_n] at *; omega))
            | (intro _; exact trivial)
            | (intro _; intro _ _; exact trivial)
            | (intro _; intro j hj; first | rfl | (have hj' : j < 1 := hj
                                                   obtain rfl : j = 0 := by omega
                                                   exact ⟨rfl, rfl⟩))
            | (intro j hj; obtain rfl : j = 0 := by omega
               first | exact ⟨rfl, rfl⟩ | exact .inl ⟨rfl, rfl⟩ | exact .inr (by omega) | exact ⟨by assumption, by assumption⟩ | assumption | trivial)
            | exact .inr (by assumption)
            | (intro j hj; exact .inr (by simp only [St.set_n, St.new_n] at *; omega))
            | (intro e he; rcases List.mem_singleton.1 he with rfl; exact ⟨rfl, rfl⟩)
            | (rw [St.set_ne _ _ (by first | assumption | omega | (simp only [St.set_n, St.new_n] at *; omega))]; assumption)
            | (rw [St.set_ne _ _ (by first | assumption | omega | (simp only [St.set_n, St.new_n] at *; omega)), St.set_ne _ _ (by first | assumption | omega | (simp only [St.set_n, St.new_n] at *; omega))]; assumption)
            | (simp only [decide_eq_true_eq, decide_eq_false_iff_not, Bool.not_eq_true, beq_iff_eq, beq_eq_false_iff_ne, ne_eq, ge_iff_le, gt_iff_lt] at *; omega)) ?_; conv => whnf)
        | (rw [St.set_same]; conv => whnf)
        | (rw [St.new_same]; conv => whnf)
        | (rw [St.set_ne _ _ (by first | assumption | omega | (simp only [St.set_n, St.new_n] at *; omega))]; conv => whnf)
        | (rw [St.new_ne _ _ (by first | assumption | omega | (simp only [St.set_n, St.new_n] at *; omega))]; conv => whnf))
    refine ⟨[UInt8.ofNat (48 + a % 10)], ?_, ?_⟩
    · show [A.int .u8 _] = [A.int .u8 _]
      rw [e0]
    by_cases ha : a < 10
    · have g1 : decide (-(a : Int) > -10) = true := decide_eq_true (by omega)
      conv => whnf
      repeat' (first
          | (refine Bc_t ?_; conv => whnf)
          | (refine Bc_f ?_; conv => whnf)
          | (rw [g1]; conv => whnf)
          | (rw [g2]; conv => whnf)
          | (rw [g3]; conv => whnf)
          | (rw [g4]; conv => whnf)
          | (rw [g5]; conv => whnf)
          | (rw [g6]; conv => whnf)
          | (rw [g7]; conv => whnf)
          | (rw [g8]; conv => whnf)
          | (rw [g9]; conv => whnf)
          | (rw [hr]; conv => whnf)
          | (refine Bc_split (fun hb => ?_) (fun hb => ?_) <;> (rw [hb]; conv => whnf))
          | (refine And.intro (by first
              | omega
              | assumption
              | (simp only [St.set_n, St.new_n] at *; omega)
              | (simp; done)
              | (simp; omega)
              | (intro _ _; first | assumption | (simp only [St.set_n, St.new_n] at *; omega))
              | (intro _; exact trivial)
              | (intro _; intro _ _; exact trivial)
              | (intro _; intro j hj; first | rfl | (have hj' : j < 1 := hj
                                                     obtain rfl : j = 0 := by omega
                                                     exact ⟨rfl, rfl⟩))
              | (intro j hj; obtain rfl : j = 0 := by omega
                 first | exact ⟨rfl, rfl⟩ | exact .inl ⟨rfl, rfl⟩ | exact .inr (by omega) | exact ⟨by assumption, by assumption⟩ | assumption | trivial)
              | exact .inr (by assumption)
              | (intro j hj; exact .inr (by simp only [St.set_n, St.new_n] at *; omega))
              | (intro e he; rcases List.mem_singleton.1 he with rfl; exact ⟨rfl, rfl⟩)
              | (rw [St.set_ne _ _ (by first | assumption | omega | (simp only [St.set_n, St.new_n] at *; omega))]; assumption)
              | (rw [St.set_ne _ _ (by first | assumption | omega | (simp only [St.set_n, St.new_n] at *; omega)), St.set_ne _ _ (by first | assumption | omega | (simp only [St.set_n, St.new_n] at *; omega))]; assumption)
              | (simp only [decide_eq_true_eq, decide_eq_false_iff_not, Bool.not_eq_true, beq_iff_eq, beq_eq_false_iff_ne, ne_eq, ge_iff_le, gt_iff_lt] at *; omega)) ?_; conv => whnf)
          | (rw [St.set_same]; conv => whnf)
          | (rw [St.new_same]; conv => whnf)
          | (rw [St.set_ne _ _ (by first | assumption | omega | (simp only [St.set_n, St.new_n] at *; omega))]; conv => whnf)
          | (rw [St.new_ne _ _ (by first | assumption | omega | (simp only [St.set_n, St.new_n] at *; omega))]; conv => whnf))
      exact Fin.of ⟨rfl, by rw [decDigits_small ha, Nat.mod_eq_of_lt ha]; rfl⟩
    · have g1 : decide (-(a : Int) > -10) = false := decide_eq_false (by omega)
      have hr := eq
      conv => whnf
      repeat' (first
          | (refine Bc_t ?_; conv => whnf)
          | (refine Bc_f ?_; conv => whnf)
          | (rw [g1]; conv => whnf)
          | (rw [g2]; conv => whnf)
          | (rw [g3]; conv => whnf)
          | (rw [g4]; conv => whnf)
          | (rw [g5]; conv => whnf)
          | (rw [g6]; conv => whnf)
          | (rw [g7]; conv => whnf)
          | (rw [g8]; conv => whnf)
          | (rw [g9]; conv => whnf)
          | (rw [hr]; conv => whnf)
          | (refine Bc_split (fun hb => ?_) (fun hb => ?_) <;> (rw [hb]; conv => whnf))
          | (refine And.intro (by first
              | omega
              | assumption
              | (simp only [St.set_n, St.new_n] at *; omega)
              | (simp; done)
              | (simp; omega)
              | (intro _ _; first | assumption | (simp only [St.set_n, St.new_n] at *; omega))
              | (intro _; exact trivial)
              | (intro _; intro _ _; exact trivial)
              | (intro _; intro j hj; first | rfl | (have hj' : j < 1 := hj
                                                     obtain rfl : j = 0 := by omega
                                                     exact ⟨rfl, rfl⟩))
              | (intro j hj; obtain rfl : j = 0 := by omega
                 first | exact ⟨rfl, rfl⟩ | exact .inl ⟨rfl, rfl⟩ | exact .inr (by omega) | exact ⟨by assumption, by assumption⟩ | assumption | trivial)
              | exact .inr (by assumption)
              | (intro j hj; exact .inr (by simp only [St.set_n, St.new_n] at *; omega))
              | (intro e he; rcases List.mem_singleton.1 he with rfl; exact ⟨rfl, rfl⟩)
              | (rw [St.set_ne _ _ (by first | assumption | omega | (simp only [St.set_n, St.new_n] at *; omega))]; assumption)
              | (rw [St.set_ne _ _ (by first | assumption | omega | (simp only [St.set_n, St.new_n] at *; omega)), St.set_ne _ _ (by first | assumption | omega | (simp only [St.set_n, St.new_n] at *; omega))]; assumption)
              | (simp only [decide_eq_true_eq, decide_eq_false_iff_not, Bool.not_eq_true, beq_iff_eq, beq_eq_false_iff_ne, ne_eq, ge_iff_le, gt_iff_lt] at *; omega)) ?_; conv => whnf)
          | (rw [St.set_same]; conv => whnf)
          | (rw [St.new_same]; conv => whnf)
          | (rw [St.set_ne _ _ (by first | assumption | omega | (simp only [St.set_n, St.new_n] at *; omega))]; conv => whnf)
          | (rw [St.new_ne _ _ (by first | assumption | omega | (simp only [St.set_n, St.new_n] at *; omega))]; conv => whnf))
      refine ACallsW.of (ih (a / 10) (by omega) (-((a / 10 : Nat) : Int)) (by omega) (by omega) (by omega) _ Non) (fun _ _ _ h => h.elim) ?_
      rintro _ σ1 _ ⟨e1, rfl⟩
      have e2 := e1.symm
      subst e2
      have hl := decDigits_len (a / 10)
      rw [show (-((a / 10 : Nat) : Int)).natAbs = a / 10 by omega]
      conv => whnf
      repeat' (first
          | (refine Bc_t ?_; conv => whnf)
          | (refine Bc_f ?_; conv => whnf)
          | (rw [g1]; conv => whnf)
          | (rw [g2]; conv => whnf)
          | (rw [g3]; conv => whnf)
          | (rw [g4]; conv => whnf)
          | (rw [g5]; conv => whnf)
          | (rw [g6]; conv => whnf)
          | (rw [g7]; conv => whnf)
          | (rw [g8]; conv => whnf)
          | (rw [g9]; conv => whnf)
          | (rw [hr]; conv => whnf)
          | (refine Bc_split (fun hb => ?_) (fun hb => ?_) <;> (rw [hb]; conv => whnf))
          | (refine And.intro (by first
              | omega
              | assumption
              | (simp only [St.set_n, St.new_n] at *; omega)
              | (simp; done)
              | (simp; omega)
              | (intro _ _; first | assumption | (simp only [St.set_n, St.new_n] at *; omega))
              | (intro _; exact trivial)
              | (intro _; intro _ _; exact trivial)
              | (intro _; intro j hj; first | rfl | (have hj' : j < 1 := hj
                                                     obtain rfl : j = 0 := by omega
                                                     exact ⟨rfl, rfl⟩))
              | (intro j hj; obtain rfl : j = 0 := by omega
                 first | exact ⟨rfl, rfl⟩ | exact .inl ⟨rfl, rfl⟩ | exact .inr (by omega) | exact ⟨by assumption, by assumption⟩ | assumption | trivial)
              | exact .inr (by assumption)
              | (intro j hj; exact .inr (by simp only [St.set_n, St.new_n] at *; omega))
              | (intro e he; rcases List.mem_singleton.1 he with rfl; exact ⟨rfl, rfl⟩)
              | (rw [St.set_ne _ _ (by first | assumption | omega | (simp only [St.set_n, St.new_n] at *; omega))]; assumption)
              | (rw [St.set_ne _ _ (by first | assumption | omega | (simp only [St.set_n, St.new_n] at *; omega)), St.set_ne _ _ (by first | assumption | omega | (simp only [St.set_n, St.new_n] at *; omega))]; assumption)
              | (simp only [decide_eq_true_eq, decide_eq_false_iff_not, Bool.not_eq_true, beq_iff_eq, beq_eq_false_iff_ne, ne_eq, ge_iff_le, gt_iff_lt] at *; omega)) ?_; conv => whnf)
          | (rw [St.set_same]; conv => whnf)
          | (rw [St.new_same]; conv => whnf)
          | (rw [St.set_ne _ _ (by first | assumption | omega | (simp only [St.set_n, St.new_n] at *; omega))]; conv => whnf)
          | (rw [St.new_ne _ _ (by first | assumption | omega | (simp only [St.set_n, St.new_n] at *; omega))]; conv => whnf))
      exact Fin.of ⟨rfl, by rw [decDigits_big ha]; rfl⟩

theorem itoa_cut_len (z : Int) : (Lib.itoa z).length ≤ z.natAbs + 2 := by
  unfold Lib.itoa
  split
  · have := decDigits_len z.natAbs; simp only [List.length_cons]; omega
  · have := decDigits_len z.toNat; omega

/-- The reference's digits, of a word. -/
theorem rDig_ok (c : Int) (h0 : 0 ≤ c) (h1 : c < 9223372036854775808) (σ : St) (m) : ACalls Tryd.prog 38 [.int .u64 (2 * c + 1)] σ m (fun e σ' => σ' = σ ∧ e = .ret (.str (Lib.itoa (if c < 4611686018427387904 then c else c - 9223372036854775808)))) := by
  refine acalls_go mixed Tryd.func38 c_rDig_ok (Nat.le_of_ble_eq_true rfl) ?_
  conv => whnf
  refine ACallsW.of (rnum_ok c h0 h1 _ Non) (fun _ _ _ h => h.elim) ?_
  rintro _ σ1 _ ⟨e1, rfl⟩
  have e2 := e1.symm
  subst e2
  have hz : -4611686018427387904 ≤ (if c < 4611686018427387904 then c else c - 9223372036854775808) ∧ (if c < 4611686018427387904 then c else c - 9223372036854775808) < 4611686018427387904 := by split <;> omega
  generalize (if c < 4611686018427387904 then c else c - 9223372036854775808) = z at hz ⊢
  by_cases hn : z < 0
  · have g1 : decide (z < 0) = true := decide_eq_true hn
    conv => whnf
    repeat' (first
        | (refine Bc_t ?_; conv => whnf)
        | (refine Bc_f ?_; conv => whnf)
        | (rw [g1]; conv => whnf)
        | (rw [g2]; conv => whnf)
        | (rw [g3]; conv => whnf)
        | (rw [g4]; conv => whnf)
        | (rw [g5]; conv => whnf)
        | (rw [g6]; conv => whnf)
        | (rw [g7]; conv => whnf)
        | (rw [g8]; conv => whnf)
        | (rw [g9]; conv => whnf)
        | (rw [hr]; conv => whnf)
        | (refine Bc_split (fun hb => ?_) (fun hb => ?_) <;> (rw [hb]; conv => whnf))
        | (refine And.intro (by first
            | omega
            | assumption
            | (simp only [St.set_n, St.new_n] at *; omega)
            | (simp; done)
            | (simp; omega)
            | (intro _ _; first | assumption | (simp only [St.set_n, St.new_n] at *; omega))
            | (intro _; exact trivial)
            | (intro _; intro _ _; exact trivial)
            | (intro _; intro j hj; first | rfl | (have hj' : j < 1 := hj
                                                   obtain rfl : j = 0 := by omega
                                                   exact ⟨rfl, rfl⟩))
            | (intro j hj; obtain rfl : j = 0 := by omega
               first | exact ⟨rfl, rfl⟩ | exact .inl ⟨rfl, rfl⟩ | exact .inr (by omega) | exact ⟨by assumption, by assumption⟩ | assumption | trivial)
            | exact .inr (by assumption)
            | (intro j hj; exact .inr (by simp only [St.set_n, St.new_n] at *; omega))
            | (intro e he; rcases List.mem_singleton.1 he with rfl; exact ⟨rfl, rfl⟩)
            | (rw [St.set_ne _ _ (by first | assumption | omega | (simp only [St.set_n, St.new_n] at *; omega))]; assumption)
            | (rw [St.set_ne _ _ (by first | assumption | omega | (simp only [St.set_n, St.new_n] at *; omega)), St.set_ne _ _ (by first | assumption | omega | (simp only [St.set_n, St.new_n] at *; omega))]; assumption)
            | (simp only [decide_eq_true_eq, decide_eq_false_iff_not, Bool.not_eq_true, beq_iff_eq, beq_eq_false_iff_ne, ne_eq, ge_iff_le, gt_iff_lt] at *; omega)) ?_; conv => whnf)
        | (rw [St.set_same]; conv => whnf)
        | (rw [St.new_same]; conv => whnf)
        | (rw [St.set_ne _ _ (by first | assumption | omega | (simp only [St.set_n, St.new_n] at *; omega))]; conv => whnf)
        | (rw [St.new_ne _ _ (by first | assumption | omega | (simp only [St.set_n, St.new_n] at *; omega))]; conv => whnf))
    refine ACallsW.of (rdigs_ok z.natAbs z rfl (by omega) (by omega) _ Non) (fun _ _ _ h => h.elim) ?_
    rintro _ σ1 _ ⟨e1, rfl⟩
    have e2 := e1.symm
    subst e2
    have hl := decDigits_len z.natAbs
    conv => whnf
    repeat' (first
        | (refine Bc_t ?_; conv => whnf)
        | (refine Bc_f ?_; conv => whnf)
        | (rw [g1]; conv => whnf)
        | (rw [g2]; conv => whnf)
        | (rw [g3]; conv => whnf)
        | (rw [g4]; conv => whnf)
        | (rw [g5]; conv => whnf)
        | (rw [g6]; conv => whnf)
        | (rw [g7]; conv => whnf)
        | (rw [g8]; conv => whnf)
        | (rw [g9]; conv => whnf)
        | (rw [hr]; conv => whnf)
        | (refine Bc_split (fun hb => ?_) (fun hb => ?_) <;> (rw [hb]; conv => whnf))
        | (refine And.intro (by first
            | omega
            | assumption
            | (simp only [St.set_n, St.new_n] at *; omega)
            | (simp; done)
            | (simp; omega)
            | (intro _ _; first | assumption | (simp only [St.set_n, St.new_n] at *; omega))
            | (intro _; exact trivial)
            | (intro _; intro _ _; exact trivial)
            | (intro _; intro j hj; first | rfl | (have hj' : j < 1 := hj
                                                   obtain rfl : j = 0 := by omega
                                                   exact ⟨rfl, rfl⟩))
            | (intro j hj; obtain rfl : j = 0 := by omega
               first | exact ⟨rfl, rfl⟩ | exact .inl ⟨rfl, rfl⟩ | exact .inr (by omega) | exact ⟨by assumption, by assumption⟩ | assumption | trivial)
            | exact .inr (by assumption)
            | (intro j hj; exact .inr (by simp only [St.set_n, St.new_n] at *; omega))
            | (intro e he; rcases List.mem_singleton.1 he with rfl; exact ⟨rfl, rfl⟩)
            | (rw [St.set_ne _ _ (by first | assumption | omega | (simp only [St.set_n, St.new_n] at *; omega))]; assumption)
            | (rw [St.set_ne _ _ (by first | assumption | omega | (simp only [St.set_n, St.new_n] at *; omega)), St.set_ne _ _ (by first | assumption | omega | (simp only [St.set_n, St.new_n] at *; omega))]; assumption)
            | (simp only [decide_eq_true_eq, decide_eq_false_iff_not, Bool.not_eq_true, beq_iff_eq, beq_eq_false_iff_ne, ne_eq, ge_iff_le, gt_iff_lt] at *; omega)) ?_; conv => whnf)
        | (rw [St.set_same]; conv => whnf)
        | (rw [St.new_same]; conv => whnf)
        | (rw [St.set_ne _ _ (by first | assumption | omega | (simp only [St.set_n, St.new_n] at *; omega))]; conv => whnf)
        | (rw [St.new_ne _ _ (by first | assumption | omega | (simp only [St.set_n, St.new_n] at *; omega))]; conv => whnf))
    exact Fin.of ⟨rfl, by unfold Lib.itoa; rw [if_pos hn]; rfl⟩
  · have g1 : decide (z < 0) = false := decide_eq_false hn
    have hr : IntKind.i64.wrap (0 - z) = -z := by rw [w64 (by omega) (by omega)]; omega
    conv => whnf
    repeat' (first
        | (refine Bc_t ?_; conv => whnf)
        | (refine Bc_f ?_; conv => whnf)
        | (rw [g1]; conv => whnf)
        | (rw [g2]; conv => whnf)
        | (rw [g3]; conv => whnf)
        | (rw [g4]; conv => whnf)
        | (rw [g5]; conv => whnf)
        | (rw [g6]; conv => whnf)
        | (rw [g7]; conv => whnf)
        | (rw [g8]; conv => whnf)
        | (rw [g9]; conv => whnf)
        | (rw [hr]; conv => whnf)
        | (refine Bc_split (fun hb => ?_) (fun hb => ?_) <;> (rw [hb]; conv => whnf))
        | (refine And.intro (by first
            | omega
            | assumption
            | (simp only [St.set_n, St.new_n] at *; omega)
            | (simp; done)
            | (simp; omega)
            | (intro _ _; first | assumption | (simp only [St.set_n, St.new_n] at *; omega))
            | (intro _; exact trivial)
            | (intro _; intro _ _; exact trivial)
            | (intro _; intro j hj; first | rfl | (have hj' : j < 1 := hj
                                                   obtain rfl : j = 0 := by omega
                                                   exact ⟨rfl, rfl⟩))
            | (intro j hj; obtain rfl : j = 0 := by omega
               first | exact ⟨rfl, rfl⟩ | exact .inl ⟨rfl, rfl⟩ | exact .inr (by omega) | exact ⟨by assumption, by assumption⟩ | assumption | trivial)
            | exact .inr (by assumption)
            | (intro j hj; exact .inr (by simp only [St.set_n, St.new_n] at *; omega))
            | (intro e he; rcases List.mem_singleton.1 he with rfl; exact ⟨rfl, rfl⟩)
            | (rw [St.set_ne _ _ (by first | assumption | omega | (simp only [St.set_n, St.new_n] at *; omega))]; assumption)
            | (rw [St.set_ne _ _ (by first | assumption | omega | (simp only [St.set_n, St.new_n] at *; omega)), St.set_ne _ _ (by first | assumption | omega | (simp only [St.set_n, St.new_n] at *; omega))]; assumption)
            | (simp only [decide_eq_true_eq, decide_eq_false_iff_not, Bool.not_eq_true, beq_iff_eq, beq_eq_false_iff_ne, ne_eq, ge_iff_le, gt_iff_lt] at *; omega)) ?_; conv => whnf)
        | (rw [St.set_same]; conv => whnf)
        | (rw [St.new_same]; conv => whnf)
        | (rw [St.set_ne _ _ (by first | assumption | omega | (simp only [St.set_n, St.new_n] at *; omega))]; conv => whnf)
        | (rw [St.new_ne _ _ (by first | assumption | omega | (simp only [St.set_n, St.new_n] at *; omega))]; conv => whnf))
    refine ACallsW.of (rdigs_ok z.natAbs (-z) (by omega) (by omega) (by omega) _ Non) (fun _ _ _ h => h.elim) ?_
    rintro _ σ1 _ ⟨e1, rfl⟩
    have e2 := e1.symm
    subst e2
    conv => whnf
    repeat' (first
        | (refine Bc_t ?_; conv => whnf)
        | (refine Bc_f ?_; conv => whnf)
        | (rw [g1]; conv => whnf)
        | (rw [g2]; conv => whnf)
        | (rw [g3]; conv => whnf)
        | (rw [g4]; conv => whnf)
        | (rw [g5]; conv => whnf)
        | (rw [g6]; conv => whnf)
        | (rw [g7]; conv => whnf)
        | (rw [g8]; conv => whnf)
        | (rw [g9]; conv => whnf)
        | (rw [hr]; conv => whnf)
        | (refine Bc_split (fun hb => ?_) (fun hb => ?_) <;> (rw [hb]; conv => whnf))
        | (refine And.intro (by first
            | omega
            | assumption
            | (simp only [St.set_n, St.new_n] at *; omega)
            | (simp; done)
            | (simp; omega)
            | (intro _ _; first | assumption | (simp only [St.set_n, St.new_n] at *; omega))
            | (intro _; exact trivial)
            | (intro _; intro _ _; exact trivial)
            | (intro _; intro j hj; first | rfl | (have hj' : j < 1 := hj
                                                   obtain rfl : j = 0 := by omega
                                                   exact ⟨rfl, rfl⟩))
            | (intro j hj; obtain rfl : j = 0 := by omega
               first | exact ⟨rfl, rfl⟩ | exact .inl ⟨rfl, rfl⟩ | exact .inr (by omega) | exact ⟨by assumption, by assumption⟩ | assumption | trivial)
            | exact .inr (by assumption)
            | (intro j hj; exact .inr (by simp only [St.set_n, St.new_n] at *; omega))
            | (intro e he; rcases List.mem_singleton.1 he with rfl; exact ⟨rfl, rfl⟩)
            | (rw [St.set_ne _ _ (by first | assumption | omega | (simp only [St.set_n, St.new_n] at *; omega))]; assumption)
            | (rw [St.set_ne _ _ (by first | assumption | omega | (simp only [St.set_n, St.new_n] at *; omega)), St.set_ne _ _ (by first | assumption | omega | (simp only [St.set_n, St.new_n] at *; omega))]; assumption)
            | (simp only [decide_eq_true_eq, decide_eq_false_iff_not, Bool.not_eq_true, beq_iff_eq, beq_eq_false_iff_ne, ne_eq, ge_iff_le, gt_iff_lt] at *; omega)) ?_; conv => whnf)
        | (rw [St.set_same]; conv => whnf)
        | (rw [St.new_same]; conv => whnf)
        | (rw [St.set_ne _ _ (by first | assumption | omega | (simp only [St.set_n, St.new_n] at *; omega))]; conv => whnf)
        | (rw [St.new_ne _ _ (by first | assumption | omega | (simp only [St.set_n, St.new_n] at *; omega))]; conv => whnf))
    refine Fin.of ⟨rfl, ?_⟩
    unfold Lib.itoa
    rw [if_neg hn, show z.toNat = (-z).natAbs by omega]
    rfl


theorem c63_own {n : Int} (h0 : -4611686018427387904 ≤ n) (h1 : n < 4611686018427387904) : (if c63 n < 4611686018427387904 then c63 n else c63 n - 9223372036854775808) = n := by
  unfold c63; split <;> omega
theorem tdm (n : Int) : (0 ≤ n ∧ n.tdiv 10 = n / 10 ∧ n.tmod 10 = n % 10) ∨ (n < 0 ∧ n.tdiv 10 = -((-n) / 10) ∧ n.tmod 10 = -((-n) % 10)) := by
  by_cases h : 0 ≤ n
  · obtain ⟨a, rfl⟩ : ∃ a : Nat, n = a := ⟨n.toNat, by omega⟩
    exact .inl ⟨h, rfl, rfl⟩
  · obtain ⟨a, rfl⟩ : ∃ a : Nat, n = -(a : Int) := ⟨n.natAbs, by omega⟩
    refine .inr ⟨by omega, ?_, ?_⟩
    · rw [Int.neg_tdiv, Int.neg_neg]; rfl
    · rw [Int.neg_tmod, Int.neg_neg]; rfl
theorem itoa_rec {n : Int} (h : 10 ≤ n.natAbs) : Lib.itoa n = Lib.itoa (n.tdiv 10) ++ Lib.itoa ((n.tmod 10).natAbs : Int) := by
  have ht := tdm n
  have hm : (n.tmod 10).natAbs = n.natAbs % 10 := by rw [Int.natAbs_tmod]; rfl
  have hd : (n.tdiv 10).natAbs = n.natAbs / 10 := by rw [Int.natAbs_tdiv]; rfl
  have hq : Lib.itoa ((n.tmod 10).natAbs : Int) = [UInt8.ofNat (48 + n.natAbs % 10)] := by
    unfold Lib.itoa
    rw [if_neg (by omega), Int.toNat_natCast, hm, decDigits_small (by omega)]
  rw [hq]
  unfold Lib.itoa
  by_cases hn : n < 0
  · have h2 : n.tdiv 10 < 0 := by omega
    rw [if_pos hn, if_pos h2, hd, decDigits_big (by omega : ¬ n.natAbs < 10)]; rfl
  · have h2 : ¬ n.tdiv 10 < 0 := by omega
    rw [if_neg hn, if_neg h2, show (n.tdiv 10).toNat = n.natAbs / 10 by omega, show n.toNat = n.natAbs by omega, decDigits_big (by omega : ¬ n.natAbs < 10)]
theorem itoa_len (z : Int) (h0 : -9223372036854775808 ≤ z) (h1 : z < 9223372036854775808) : (Lib.itoa z).length ≤ 30 := by
  have key : ∀ (k u : Nat), u < 10 ^ k → 0 < k → (Lib.decDigits u).length ≤ k := by
    intro k
    induction k with
    | zero => intro u _ h; omega
    | succ k ih =>
      intro u hu _
      by_cases h : u < 10
      · rw [decDigits_small h]; simp
      · rw [decDigits_big h, List.length_append, List.length_singleton]
        have hk : 0 < k := by
          rcases Nat.eq_zero_or_pos k with rfl | q
          · simp at hu; omega
          · exact q
        have := ih (u / 10) (by rw [Nat.pow_succ] at hu; omega) hk
        omega
  unfold Lib.itoa
  split
  · have := key 20 z.natAbs (by omega) (by decide); simp only [List.length_cons]; omega
  · have := key 20 z.toNat (by omega) (by decide); omega
theorem small_ok' (n : Int) (h0 : -4611686018427387904 < n) (h1 : n < 4611686018427387904) (σ : St) (m) : ACalls Tryd.prog 24 [.int .i64 n] σ m (fun e σ' => σ' = σ ∧ e = .ret (.str (Lib.itoa n))) := by
  refine acalls_go mixed Tryd.func24 c_digits_ok (Nat.le_of_ble_eq_true rfl) ?_
  have g1 : decide (n > -4611686018427387904) = true := decide_eq_true h0
  have g2 : decide (n < 4611686018427387904) = true := decide_eq_true h1
  conv => whnf
  repeat' ((first | refine Bc_t ?_ | refine Bc_f ?_ | rw [g1] | rw [g2] | rw [g3] | rw [g4] | rw [g5] | rw [g6] | rw [g7] | rw [g8] | rw [g9] | rw [hr] | refine And.intro (by first | omega | assumption | exact Or.inl (by first | rfl | exact Or.inl rfl | exact Or.inr rfl | exact Or.inr (Or.inl rfl) | exact Or.inr (Or.inr rfl)) | (intro _ _; exact Or.inl (by first | rfl | exact Or.inl rfl | exact Or.inr rfl | exact Or.inr (Or.inl rfl) | exact Or.inr (Or.inr rfl))) | (simp only [St.set_n, St.new_n] at *; omega) | (simp; done) | (simp; omega) | (intro _ _; first | assumption | exact Or.inr (by first | omega | (simp only [St.set_n, St.new_n] at *; omega)) | (simp only [St.set_n, St.new_n] at *; omega)) | (intro _ _; exact ⟨Or.inr (by first | omega | (simp only [St.set_n, St.new_n] at *; omega)), by first | exact id | exact Nat.lt_irrefl _ | omega | (show ¬ (_ : Nat) < _; simp only [St.set_n, St.new_n]; omega)⟩) | (intro _ _; first | omega | exact Or.inl rfl) | (intro _; show (_ : Nat) < _; first | omega | (simp only [St.set_n, St.new_n] at *; omega)) | (intro _; intro _ _; show (_ : Nat) < _; first | omega | (simp only [St.set_n, St.new_n] at *; omega)) | (intro _; intro _ _; assumption) | (intro _; assumption) | (intro _; exact trivial) | (intro _; intro _ _; exact trivial) | (intro _; intro j hj; rfl) | (simp only [List.length_append, List.length_cons, List.length_nil]; omega) | (intro e he; rcases List.mem_singleton.1 he with rfl; exact ⟨rfl, rfl⟩) | exact Or.inr (by first | assumption | omega | (simp only [St.set_n, St.new_n] at *; omega)) | exact (by (repeat (first | rw [St.set_same] | rw [St.new_same] | rw [St.set_ne _ _ (by first | assumption | exact Ne.symm (by assumption) | omega | (simp only [St.set_n, St.new_n] at *; omega))] | rw [St.new_ne _ _ (by first | assumption | exact Ne.symm (by assumption) | omega | (simp only [St.set_n, St.new_n] at *; omega))])) <;> first | assumption | rfl | exact St.new_same _ _ | exact St.set_same _ _ _) | (intro h; cases h)) ?_ | (refine Dc.mk ?_ ?_; (first | rfl | assumption | exact Nat.le_refl _ | exact Nat.le_of_ble_eq_true rfl | omega | (simp; done))) | rw [mapOf_eq (by (repeat (first | rw [St.set_same] | rw [St.new_same] | rw [St.set_ne _ _ (by first | assumption | exact Ne.symm (by assumption) | omega | (simp only [St.set_n, St.new_n] at *; omega))] | rw [St.new_ne _ _ (by first | assumption | exact Ne.symm (by assumption) | omega | (simp only [St.set_n, St.new_n] at *; omega))])) <;> first | assumption | rfl | exact St.new_same _ _ | exact St.set_same _ _ _)] | rw [St.set_same] | rw [St.new_same] | rw [St.set_ne _ _ (by first | assumption | exact Ne.symm (by assumption) | omega | (simp only [St.set_n, St.new_n] at *; omega))] | rw [St.new_ne _ _ (by first | assumption | exact Ne.symm (by assumption) | omega | (simp only [St.set_n, St.new_n] at *; omega))]); conv => whnf)
  refine ACallsW.of (rint_ok n (by omega) (by omega) _ Non) (fun _ _ _ h => h.elim) ?_
  rintro _ σ1 _ ⟨e1, rfl⟩
  have e2 := e1.symm
  subst e2
  conv => whnf
  repeat' ((first | refine Bc_t ?_ | refine Bc_f ?_ | rw [g1] | rw [g2] | rw [g3] | rw [g4] | rw [g5] | rw [g6] | rw [g7] | rw [g8] | rw [g9] | rw [hr] | refine And.intro (by first | omega | assumption | exact Or.inl (by first | rfl | exact Or.inl rfl | exact Or.inr rfl | exact Or.inr (Or.inl rfl) | exact Or.inr (Or.inr rfl)) | (intro _ _; exact Or.inl (by first | rfl | exact Or.inl rfl | exact Or.inr rfl | exact Or.inr (Or.inl rfl) | exact Or.inr (Or.inr rfl))) | (simp only [St.set_n, St.new_n] at *; omega) | (simp; done) | (simp; omega) | (intro _ _; first | assumption | exact Or.inr (by first | omega | (simp only [St.set_n, St.new_n] at *; omega)) | (simp only [St.set_n, St.new_n] at *; omega)) | (intro _ _; exact ⟨Or.inr (by first | omega | (simp only [St.set_n, St.new_n] at *; omega)), by first | exact id | exact Nat.lt_irrefl _ | omega | (show ¬ (_ : Nat) < _; simp only [St.set_n, St.new_n]; omega)⟩) | (intro _ _; first | omega | exact Or.inl rfl) | (intro _; show (_ : Nat) < _; first | omega | (simp only [St.set_n, St.new_n] at *; omega)) | (intro _; intro _ _; show (_ : Nat) < _; first | omega | (simp only [St.set_n, St.new_n] at *; omega)) | (intro _; intro _ _; assumption) | (intro _; assumption) | (intro _; exact trivial) | (intro _; intro _ _; exact trivial) | (intro _; intro j hj; rfl) | (simp only [List.length_append, List.length_cons, List.length_nil]; omega) | (intro e he; rcases List.mem_singleton.1 he with rfl; exact ⟨rfl, rfl⟩) | exact Or.inr (by first | assumption | omega | (simp only [St.set_n, St.new_n] at *; omega)) | exact (by (repeat (first | rw [St.set_same] | rw [St.new_same] | rw [St.set_ne _ _ (by first | assumption | exact Ne.symm (by assumption) | omega | (simp only [St.set_n, St.new_n] at *; omega))] | rw [St.new_ne _ _ (by first | assumption | exact Ne.symm (by assumption) | omega | (simp only [St.set_n, St.new_n] at *; omega))])) <;> first | assumption | rfl | exact St.new_same _ _ | exact St.set_same _ _ _) | (intro h; cases h)) ?_ | (refine Dc.mk ?_ ?_; (first | rfl | assumption | exact Nat.le_refl _ | exact Nat.le_of_ble_eq_true rfl | omega | (simp; done))) | rw [mapOf_eq (by (repeat (first | rw [St.set_same] | rw [St.new_same] | rw [St.set_ne _ _ (by first | assumption | exact Ne.symm (by assumption) | omega | (simp only [St.set_n, St.new_n] at *; omega))] | rw [St.new_ne _ _ (by first | assumption | exact Ne.symm (by assumption) | omega | (simp only [St.set_n, St.new_n] at *; omega))])) <;> first | assumption | rfl | exact St.new_same _ _ | exact St.set_same _ _ _)] | rw [St.set_same] | rw [St.new_same] | rw [St.set_ne _ _ (by first | assumption | exact Ne.symm (by assumption) | omega | (simp only [St.set_n, St.new_n] at *; omega))] | rw [St.new_ne _ _ (by first | assumption | exact Ne.symm (by assumption) | omega | (simp only [St.set_n, St.new_n] at *; omega))]); conv => whnf)
  refine ACallsW.of (rDig_ok (c63 n) (c63_lo n) (c63_hi n) _ Non) (fun _ _ _ h => h.elim) ?_
  rintro _ σ1 _ ⟨e1, rfl⟩
  have e2 := e1.symm
  subst e2
  conv => whnf
  repeat' ((first | refine Bc_t ?_ | refine Bc_f ?_ | rw [g1] | rw [g2] | rw [g3] | rw [g4] | rw [g5] | rw [g6] | rw [g7] | rw [g8] | rw [g9] | rw [hr] | refine And.intro (by first | omega | assumption | exact Or.inl (by first | rfl | exact Or.inl rfl | exact Or.inr rfl | exact Or.inr (Or.inl rfl) | exact Or.inr (Or.inr rfl)) | (intro _ _; exact Or.inl (by first | rfl | exact Or.inl rfl | exact Or.inr rfl | exact Or.inr (Or.inl rfl) | exact Or.inr (Or.inr rfl))) | (simp only [St.set_n, St.new_n] at *; omega) | (simp; done) | (simp; omega) | (intro _ _; first | assumption | exact Or.inr (by first | omega | (simp only [St.set_n, St.new_n] at *; omega)) | (simp only [St.set_n, St.new_n] at *; omega)) | (intro _ _; exact ⟨Or.inr (by first | omega | (simp only [St.set_n, St.new_n] at *; omega)), by first | exact id | exact Nat.lt_irrefl _ | omega | (show ¬ (_ : Nat) < _; simp only [St.set_n, St.new_n]; omega)⟩) | (intro _ _; first | omega | exact Or.inl rfl) | (intro _; show (_ : Nat) < _; first | omega | (simp only [St.set_n, St.new_n] at *; omega)) | (intro _; intro _ _; show (_ : Nat) < _; first | omega | (simp only [St.set_n, St.new_n] at *; omega)) | (intro _; intro _ _; assumption) | (intro _; assumption) | (intro _; exact trivial) | (intro _; intro _ _; exact trivial) | (intro _; intro j hj; rfl) | (simp only [List.length_append, List.length_cons, List.length_nil]; omega) | (intro e he; rcases List.mem_singleton.1 he with rfl; exact ⟨rfl, rfl⟩) | exact Or.inr (by first | assumption | omega | (simp only [St.set_n, St.new_n] at *; omega)) | exact (by (repeat (first | rw [St.set_same] | rw [St.new_same] | rw [St.set_ne _ _ (by first | assumption | exact Ne.symm (by assumption) | omega | (simp only [St.set_n, St.new_n] at *; omega))] | rw [St.new_ne _ _ (by first | assumption | exact Ne.symm (by assumption) | omega | (simp only [St.set_n, St.new_n] at *; omega))])) <;> first | assumption | rfl | exact St.new_same _ _ | exact St.set_same _ _ _) | (intro h; cases h)) ?_ | (refine Dc.mk ?_ ?_; (first | rfl | assumption | exact Nat.le_refl _ | exact Nat.le_of_ble_eq_true rfl | omega | (simp; done))) | rw [mapOf_eq (by (repeat (first | rw [St.set_same] | rw [St.new_same] | rw [St.set_ne _ _ (by first | assumption | exact Ne.symm (by assumption) | omega | (simp only [St.set_n, St.new_n] at *; omega))] | rw [St.new_ne _ _ (by first | assumption | exact Ne.symm (by assumption) | omega | (simp only [St.set_n, St.new_n] at *; omega))])) <;> first | assumption | rfl | exact St.new_same _ _ | exact St.set_same _ _ _)] | rw [St.set_same] | rw [St.new_same] | rw [St.set_ne _ _ (by first | assumption | exact Ne.symm (by assumption) | omega | (simp only [St.set_n, St.new_n] at *; omega))] | rw [St.new_ne _ _ (by first | assumption | exact Ne.symm (by assumption) | omega | (simp only [St.set_n, St.new_n] at *; omega))]); conv => whnf)
  exact Fin.of ⟨rfl, by rw [c63_own (by omega) h1]; rfl⟩
theorem rdigits_ok (n : Int) (h0 : -9223372036854775808 ≤ n) (h1 : n < 9223372036854775808) (σ : St) (m) : ACalls Tryd.prog 24 [.int .i64 n] σ m (fun e σ' => σ' = σ ∧ e = .ret (.str (Lib.itoa n))) := by
  by_cases hs : -4611686018427387904 < n ∧ n < 4611686018427387904
  · exact small_ok' n hs.1 hs.2 σ m
  have ht := tdm n
  have hq : IntKind.i64.wrap (n.tdiv 10) = n.tdiv 10 := w64 (by omega) (by omega)
  have hl1 := itoa_len (n.tdiv 10) (by omega) (by omega)
  have hl2 := itoa_len ((n.tmod 10).natAbs : Int) (by omega) (by omega)
  refine acalls_go mixed Tryd.func24 c_digits_ok (Nat.le_of_ble_eq_true rfl) ?_
  have hcase : (decide (n > -4611686018427387904) = false ∨ decide (n > -4611686018427387904) = true ∧ decide (n < 4611686018427387904) = false) := by
    by_cases q : n > -4611686018427387904
    · exact .inr ⟨decide_eq_true q, decide_eq_false (by omega)⟩
    · exact .inl (decide_eq_false q)
  have hneg : decide (n.tmod 10 < 0) = true ∧ IntKind.i64.wrap (0 - n.tmod 10) = ((n.tmod 10).natAbs : Int) ∨ decide (n.tmod 10 < 0) = false ∧ n.tmod 10 = ((n.tmod 10).natAbs : Int) := by
    by_cases q : n.tmod 10 < 0
    · exact .inl ⟨decide_eq_true q, by rw [w64 (by omega) (by omega)]; omega⟩
    · exact .inr ⟨decide_eq_false q, by omega⟩
  rcases hcase with g1 | ⟨g1, g2⟩ <;> rcases hneg with ⟨g3, h4⟩ | ⟨g3, h4⟩
  all_goals
    conv => whnf
    repeat' ((first | refine Bc_t ?_ | refine Bc_f ?_ | rw [g1] | rw [g2] | rw [g3] | rw [g4] | rw [g5] | rw [g6] | rw [g7] | rw [g8] | rw [g9] | rw [hr] | refine And.intro (by first | omega | assumption | exact Or.inl (by first | rfl | exact Or.inl rfl | exact Or.inr rfl | exact Or.inr (Or.inl rfl) | exact Or.inr (Or.inr rfl)) | (intro _ _; exact Or.inl (by first | rfl | exact Or.inl rfl | exact Or.inr rfl | exact Or.inr (Or.inl rfl) | exact Or.inr (Or.inr rfl))) | (simp only [St.set_n, St.new_n] at *; omega) | (simp; done) | (simp; omega) | (intro _ _; first | assumption | exact Or.inr (by first | omega | (simp only [St.set_n, St.new_n] at *; omega)) | (simp only [St.set_n, St.new_n] at *; omega)) | (intro _ _; exact ⟨Or.inr (by first | omega | (simp only [St.set_n, St.new_n] at *; omega)), by first | exact id | exact Nat.lt_irrefl _ | omega | (show ¬ (_ : Nat) < _; simp only [St.set_n, St.new_n]; omega)⟩) | (intro _ _; first | omega | exact Or.inl rfl) | (intro _; show (_ : Nat) < _; first | omega | (simp only [St.set_n, St.new_n] at *; omega)) | (intro _; intro _ _; show (_ : Nat) < _; first | omega | (simp only [St.set_n, St.new_n] at *; omega)) | (intro _; intro _ _; assumption) | (intro _; assumption) | (intro _; exact trivial) | (intro _; intro _ _; exact trivial) | (intro _; intro j hj; rfl) | (simp only [List.length_append, List.length_cons, List.length_nil]; omega) | (intro e he; rcases List.mem_singleton.1 he with rfl; exact ⟨rfl, rfl⟩) | exact Or.inr (by first | assumption | omega | (simp only [St.set_n, St.new_n] at *; omega)) | exact (by (repeat (first | rw [St.set_same] | rw [St.new_same] | rw [St.set_ne _ _ (by first | assumption | exact Ne.symm (by assumption) | omega | (simp only [St.set_n, St.new_n] at *; omega))] | rw [St.new_ne _ _ (by first | assumption | exact Ne.symm (by assumption) | omega | (simp only [St.set_n, St.new_n] at *; omega))])) <;> first | assumption | rfl | exact St.new_same _ _ | exact St.set_same _ _ _) | (intro h; cases h)) ?_ | (refine Dc.mk ?_ ?_; (first | rfl | assumption | exact Nat.le_refl _ | exact Nat.le_of_ble_eq_true rfl | omega | (simp; done))) | rw [mapOf_eq (by (repeat (first | rw [St.set_same] | rw [St.new_same] | rw [St.set_ne _ _ (by first | assumption | exact Ne.symm (by assumption) | omega | (simp only [St.set_n, St.new_n] at *; omega))] | rw [St.new_ne _ _ (by first | assumption | exact Ne.symm (by assumption) | omega | (simp only [St.set_n, St.new_n] at *; omega))])) <;> first | assumption | rfl | exact St.new_same _ _ | exact St.set_same _ _ _)] | rw [St.set_same] | rw [St.new_same] | rw [St.set_ne _ _ (by first | assumption | exact Ne.symm (by assumption) | omega | (simp only [St.set_n, St.new_n] at *; omega))] | rw [St.new_ne _ _ (by first | assumption | exact Ne.symm (by assumption) | omega | (simp only [St.set_n, St.new_n] at *; omega))]); conv => whnf)
    rw [hq]
    refine ACallsW.of (small_ok' (n.tdiv 10) (by omega) (by omega) _ Non) (fun _ _ _ h => h.elim) ?_
    rintro _ σ1 _ ⟨e1, rfl⟩
    have e2 := e1.symm
    subst e2
    conv => whnf
    repeat' ((first | refine Bc_t ?_ | refine Bc_f ?_ | rw [g1] | rw [g2] | rw [g3] | rw [g4] | rw [g5] | rw [g6] | rw [g7] | rw [g8] | rw [g9] | rw [hr] | refine And.intro (by first | omega | assumption | exact Or.inl (by first | rfl | exact Or.inl rfl | exact Or.inr rfl | exact Or.inr (Or.inl rfl) | exact Or.inr (Or.inr rfl)) | (intro _ _; exact Or.inl (by first | rfl | exact Or.inl rfl | exact Or.inr rfl | exact Or.inr (Or.inl rfl) | exact Or.inr (Or.inr rfl))) | (simp only [St.set_n, St.new_n] at *; omega) | (simp; done) | (simp; omega) | (intro _ _; first | assumption | exact Or.inr (by first | omega | (simp only [St.set_n, St.new_n] at *; omega)) | (simp only [St.set_n, St.new_n] at *; omega)) | (intro _ _; exact ⟨Or.inr (by first | omega | (simp only [St.set_n, St.new_n] at *; omega)), by first | exact id | exact Nat.lt_irrefl _ | omega | (show ¬ (_ : Nat) < _; simp only [St.set_n, St.new_n]; omega)⟩) | (intro _ _; first | omega | exact Or.inl rfl) | (intro _; show (_ : Nat) < _; first | omega | (simp only [St.set_n, St.new_n] at *; omega)) | (intro _; intro _ _; show (_ : Nat) < _; first | omega | (simp only [St.set_n, St.new_n] at *; omega)) | (intro _; intro _ _; assumption) | (intro _; assumption) | (intro _; exact trivial) | (intro _; intro _ _; exact trivial) | (intro _; intro j hj; rfl) | (simp only [List.length_append, List.length_cons, List.length_nil]; omega) | (intro e he; rcases List.mem_singleton.1 he with rfl; exact ⟨rfl, rfl⟩) | exact Or.inr (by first | assumption | omega | (simp only [St.set_n, St.new_n] at *; omega)) | exact (by (repeat (first | rw [St.set_same] | rw [St.new_same] | rw [St.set_ne _ _ (by first | assumption | exact Ne.symm (by assumption) | omega | (simp only [St.set_n, St.new_n] at *; omega))] | rw [St.new_ne _ _ (by first | assumption | exact Ne.symm (by assumption) | omega | (simp only [St.set_n, St.new_n] at *; omega))])) <;> first | assumption | rfl | exact St.new_same _ _ | exact St.set_same _ _ _) | (intro h; cases h)) ?_ | (refine Dc.mk ?_ ?_; (first | rfl | assumption | exact Nat.le_refl _ | exact Nat.le_of_ble_eq_true rfl | omega | (simp; done))) | rw [mapOf_eq (by (repeat (first | rw [St.set_same] | rw [St.new_same] | rw [St.set_ne _ _ (by first | assumption | exact Ne.symm (by assumption) | omega | (simp only [St.set_n, St.new_n] at *; omega))] | rw [St.new_ne _ _ (by first | assumption | exact Ne.symm (by assumption) | omega | (simp only [St.set_n, St.new_n] at *; omega))])) <;> first | assumption | rfl | exact St.new_same _ _ | exact St.set_same _ _ _)] | rw [St.set_same] | rw [St.new_same] | rw [St.set_ne _ _ (by first | assumption | exact Ne.symm (by assumption) | omega | (simp only [St.set_n, St.new_n] at *; omega))] | rw [St.new_ne _ _ (by first | assumption | exact Ne.symm (by assumption) | omega | (simp only [St.set_n, St.new_n] at *; omega))]); conv => whnf)
    rw [h4]
    refine ACallsW.of (small_ok' ((n.tmod 10).natAbs : Int) (by omega) (by omega) _ Non) (fun _ _ _ h => h.elim) ?_
    rintro _ σ1 _ ⟨e1, rfl⟩
    have e2 := e1.symm
    subst e2
    conv => whnf
    repeat' ((first | refine Bc_t ?_ | refine Bc_f ?_ | rw [g1] | rw [g2] | rw [g3] | rw [g4] | rw [g5] | rw [g6] | rw [g7] | rw [g8] | rw [g9] | rw [hr] | refine And.intro (by first | omega | assumption | exact Or.inl (by first | rfl | exact Or.inl rfl | exact Or.inr rfl | exact Or.inr (Or.inl rfl) | exact Or.inr (Or.inr rfl)) | (intro _ _; exact Or.inl (by first | rfl | exact Or.inl rfl | exact Or.inr rfl | exact Or.inr (Or.inl rfl) | exact Or.inr (Or.inr rfl))) | (simp only [St.set_n, St.new_n] at *; omega) | (simp; done) | (simp; omega) | (intro _ _; first | assumption | exact Or.inr (by first | omega | (simp only [St.set_n, St.new_n] at *; omega)) | (simp only [St.set_n, St.new_n] at *; omega)) | (intro _ _; exact ⟨Or.inr (by first | omega | (simp only [St.set_n, St.new_n] at *; omega)), by first | exact id | exact Nat.lt_irrefl _ | omega | (show ¬ (_ : Nat) < _; simp only [St.set_n, St.new_n]; omega)⟩) | (intro _ _; first | omega | exact Or.inl rfl) | (intro _; show (_ : Nat) < _; first | omega | (simp only [St.set_n, St.new_n] at *; omega)) | (intro _; intro _ _; show (_ : Nat) < _; first | omega | (simp only [St.set_n, St.new_n] at *; omega)) | (intro _; intro _ _; assumption) | (intro _; assumption) | (intro _; exact trivial) | (intro _; intro _ _; exact trivial) | (intro _; intro j hj; rfl) | (simp only [List.length_append, List.length_cons, List.length_nil]; omega) | (intro e he; rcases List.mem_singleton.1 he with rfl; exact ⟨rfl, rfl⟩) | exact Or.inr (by first | assumption | omega | (simp only [St.set_n, St.new_n] at *; omega)) | exact (by (repeat (first | rw [St.set_same] | rw [St.new_same] | rw [St.set_ne _ _ (by first | assumption | exact Ne.symm (by assumption) | omega | (simp only [St.set_n, St.new_n] at *; omega))] | rw [St.new_ne _ _ (by first | assumption | exact Ne.symm (by assumption) | omega | (simp only [St.set_n, St.new_n] at *; omega))])) <;> first | assumption | rfl | exact St.new_same _ _ | exact St.set_same _ _ _) | (intro h; cases h)) ?_ | (refine Dc.mk ?_ ?_; (first | rfl | assumption | exact Nat.le_refl _ | exact Nat.le_of_ble_eq_true rfl | omega | (simp; done))) | rw [mapOf_eq (by (repeat (first | rw [St.set_same] | rw [St.new_same] | rw [St.set_ne _ _ (by first | assumption | exact Ne.symm (by assumption) | omega | (simp only [St.set_n, St.new_n] at *; omega))] | rw [St.new_ne _ _ (by first | assumption | exact Ne.symm (by assumption) | omega | (simp only [St.set_n, St.new_n] at *; omega))])) <;> first | assumption | rfl | exact St.new_same _ _ | exact St.set_same _ _ _)] | rw [St.set_same] | rw [St.new_same] | rw [St.set_ne _ _ (by first | assumption | exact Ne.symm (by assumption) | omega | (simp only [St.set_n, St.new_n] at *; omega))] | rw [St.new_ne _ _ (by first | assumption | exact Ne.symm (by assumption) | omega | (simp only [St.set_n, St.new_n] at *; omega))]); conv => whnf)
    exact Fin.of ⟨rfl, by rw [itoa_rec (n := n) (by omega)]; rfl⟩
end
end Go.Proofs.YtkpijfgananjjaaDoor.Ga
