/- The lexer's reader: comments, blanks. -/
import Derived.Test.YtjeccchbeflddaaDoorLa2
set_option linter.unusedVariables false
set_option linter.unusedSimpArgs false
namespace Go.Proofs.YtjeccchbeflddaaDoor.Ga
open Lx

def c_com : SFun := ⟨55, (.seq (.reg [⟨(some 4), (.mov (.tmp 0)), none⟩, ⟨(some 5), (.nilCheck (.tmp 4)), none⟩, ⟨(some 6), (.fieldAddr 1 (.tmp 5)), none⟩, ⟨(some 7), (.load false 1 (.tmp 6)), none⟩, ⟨(some 2), (.mov (.tmp 7)), none⟩, ⟨(some 3), (.mov (.const (.int .i64 0))), none⟩]) (.block 0 (.loop (.block 1 (.seq (.block 2 (.seq (.dreg [(0, ⟨(some 16), (.mov (.tmp 0)), none⟩), (0, ⟨(some 17), (.nilCheck (.tmp 16)), none⟩), (0, ⟨(some 18), (.fieldAddr 1 (.tmp 17)), none⟩), (0, ⟨(some 19), (.load false 1 (.tmp 18)), none⟩), (0, ⟨(some 20), (.mov (.tmp 0)), none⟩), (0, ⟨(some 21), (.nilCheck (.tmp 20)), none⟩), (0, ⟨(some 22), (.fieldAddr 0 (.tmp 21)), none⟩), (0, ⟨(some 23), (.load false 1 (.tmp 22)), none⟩), (0, ⟨(some 24), (.len .str (.tmp 23)), none⟩), (0, ⟨(some 25), (.bin .eql .none (.tmp 19) (.tmp 24)), none⟩), (0, ⟨(some 15), (.mov (.tmp 25)), none⟩)]) (.cond (.tmp 15) (.reg [⟨(some 26), (.mov (.tmp 2)), none⟩, ⟨(some 27), (.build [(.int .i64 0), (.int .i64 0)] [(0, (1, (.const (.int .i64 20)))), (1, (1, (.tmp 26)))]), none⟩, ⟨(some 28), (.mkIface 45 (.tmp 27)), none⟩, ⟨none, (.panic (.tmp 28)), none⟩]) (.seq (.reg [⟨(some 30), (.mov (.tmp 0)), none⟩, ⟨(some 31), (.call 34 [(.tmp 30), (.const (.str [40, 42]))]), none⟩, ⟨(some 29), (.mov (.tmp 31)), none⟩]) (.cond (.tmp 29) (.seq (.reg [⟨(some 32), (.mov (.tmp 3)), none⟩, ⟨(some 33), (.bin .add .none (.tmp 32) (.const (.int .i64 1))), none⟩, ⟨(some 3), (.mov (.tmp 33)), none⟩]) (.reg [⟨(some 34), (.mov (.tmp 0)), none⟩, ⟨(some 35), (.nilCheck (.tmp 34)), none⟩, ⟨(some 36), (.fieldAddr 1 (.tmp 35)), none⟩, ⟨(some 37), (.load false 1 (.tmp 36)), none⟩, ⟨(some 38), (.bin .add .none (.tmp 37) (.const (.int .i64 2))), none⟩, ⟨(some 39), (.nilCheck (.tmp 34)), none⟩, ⟨(some 40), (.fieldAddr 1 (.tmp 39)), none⟩, ⟨none, (.store 1 (.tmp 40) (.tmp 38)), none⟩])) (.seq (.reg [⟨(some 42), (.mov (.tmp 0)), none⟩, ⟨(some 43), (.call 34 [(.tmp 42), (.const (.str [42, 41]))]), none⟩, ⟨(some 41), (.mov (.tmp 43)), none⟩]) (.cond (.tmp 41) (.seq (.reg [⟨(some 44), (.mov (.tmp 3)), none⟩, ⟨(some 45), (.bin .sub .none (.tmp 44) (.const (.int .i64 1))), none⟩, ⟨(some 3), (.mov (.tmp 45)), none⟩]) (.reg [⟨(some 46), (.mov (.tmp 0)), none⟩, ⟨(some 47), (.nilCheck (.tmp 46)), none⟩, ⟨(some 48), (.fieldAddr 1 (.tmp 47)), none⟩, ⟨(some 49), (.load false 1 (.tmp 48)), none⟩, ⟨(some 50), (.bin .add .none (.tmp 49) (.const (.int .i64 2))), none⟩, ⟨(some 51), (.nilCheck (.tmp 46)), none⟩, ⟨(some 52), (.fieldAddr 1 (.tmp 51)), none⟩, ⟨none, (.store 1 (.tmp 52) (.tmp 50)), none⟩])) (.reg [⟨(some 8), (.mov (.tmp 0)), none⟩, ⟨(some 9), (.nilCheck (.tmp 8)), none⟩, ⟨(some 10), (.fieldAddr 1 (.tmp 9)), none⟩, ⟨(some 11), (.load false 1 (.tmp 10)), none⟩, ⟨(some 12), (.bin .add .none (.tmp 11) (.const (.int .i64 1))), none⟩, ⟨(some 13), (.nilCheck (.tmp 8)), none⟩, ⟨(some 14), (.fieldAddr 1 (.tmp 13)), none⟩, ⟨none, (.store 1 (.tmp 14) (.tmp 12)), none⟩])))))))) (.seq (.reg [⟨(some 53), (.mov (.tmp 3)), none⟩, ⟨(some 54), (.bin .eql .none (.tmp 53) (.const (.int .i64 0))), none⟩]) (.cond (.tmp 54) .ret .skip))))))), []⟩
theorem c_com_ok : cFun Tryd.prog Tryd.f35 = some c_com := by kernel_rfl
def c_gap : SFun := ⟨36, (.block 0 (.loop (.seq (.seq (.dreg [(0, ⟨(some 2), (.mov (.tmp 0)), none⟩), (0, ⟨(some 3), (.nilCheck (.tmp 2)), none⟩), (0, ⟨(some 4), (.fieldAddr 1 (.tmp 3)), none⟩), (0, ⟨(some 5), (.load false 1 (.tmp 4)), none⟩), (0, ⟨(some 6), (.mov (.tmp 0)), none⟩), (0, ⟨(some 7), (.nilCheck (.tmp 6)), none⟩), (0, ⟨(some 8), (.fieldAddr 0 (.tmp 7)), none⟩), (0, ⟨(some 9), (.load false 1 (.tmp 8)), none⟩), (0, ⟨(some 10), (.len .str (.tmp 9)), none⟩), (0, ⟨(some 11), (.bin .lss .none (.tmp 5) (.tmp 10)), none⟩)]) (.cond (.tmp 11) .skip (.exit 0))) (.block 1 (.block 2 (.seq (.dreg [(0, ⟨(some 13), (.mov (.tmp 0)), none⟩), (0, ⟨(some 14), (.nilCheck (.tmp 13)), none⟩), (0, ⟨(some 15), (.fieldAddr 0 (.tmp 14)), none⟩), (0, ⟨(some 16), (.load false 1 (.tmp 15)), none⟩), (0, ⟨(some 17), (.mov (.tmp 0)), none⟩), (0, ⟨(some 18), (.nilCheck (.tmp 17)), none⟩), (0, ⟨(some 19), (.fieldAddr 1 (.tmp 18)), none⟩), (0, ⟨(some 20), (.load false 1 (.tmp 19)), none⟩), (0, ⟨(some 21), (.idxStr (.tmp 16) (.tmp 20)), none⟩), (1, ⟨(some 22), (.call 33 [(.const (.str [32, 9, 10, 13])), (.tmp 21)]), none⟩), (0, ⟨(some 23), (.bin .geq .none (.tmp 22) (.const (.int .i64 0))), none⟩), (0, ⟨(some 12), (.mov (.tmp 23)), none⟩)]) (.cond (.tmp 12) (.reg [⟨(some 24), (.mov (.tmp 0)), none⟩, ⟨(some 25), (.nilCheck (.tmp 24)), none⟩, ⟨(some 26), (.fieldAddr 1 (.tmp 25)), none⟩, ⟨(some 27), (.load false 1 (.tmp 26)), none⟩, ⟨(some 28), (.bin .add .none (.tmp 27) (.const (.int .i64 1))), none⟩, ⟨(some 29), (.nilCheck (.tmp 24)), none⟩, ⟨(some 30), (.fieldAddr 1 (.tmp 29)), none⟩, ⟨none, (.store 1 (.tmp 30) (.tmp 28)), none⟩]) (.seq (.reg [⟨(some 32), (.mov (.tmp 0)), none⟩, ⟨(some 33), (.call 34 [(.tmp 32), (.const (.str [40, 42]))]), none⟩, ⟨(some 31), (.mov (.tmp 33)), none⟩]) (.cond (.tmp 31) (.reg [⟨(some 34), (.mov (.tmp 0)), none⟩, ⟨(some 35), (.call 35 [(.tmp 34)]), none⟩]) .ret))))))))), []⟩
theorem c_gap_ok : cFun Tryd.prog Tryd.f24 = some c_gap := by kernel_rfl

/-- What is wrong, and where. -/
def bad (e at_ : Nat) : A := .iface 45 (.agg [.int .i64 e, .int .i64 at_])

theorem int_eq {n : Int} {k : Nat} (h : n = k) : some (A.int .i64 n) = some (A.int .i64 k) := by rw [h]

section
attribute [local irreducible] Bc ACallsW ALoop Fin St.set St.new
theorem comment_ok (s : List UInt8) (at_ : Nat) (out : A) (r : Nat) (σ : St) (hs : s.length ≤ 4096) (hat : at_ ≤ s.length) (hop : [40, 42].isPrefixOf (s.drop at_) = true) (hr : σ.obj r = rd s at_ out) :
    ACalls Tryd.prog 35 [.ptr r 0] σ (AtOf r) (fun e σ' => match com 0 (s.drop at_) with
      | some l => σ' = σ.set r (rd s (s.length - l.length) out) ∧ e = .ret (.tup [])
      | none => e = .pan (bad 20 at_)) := by
  unfold rd at *
  refine acalls_go mixed Tryd.func35 c_com_ok (Nat.le_of_ble_eq_true rfl) ?_
  conv => whnf
  repeat' (first
      | (refine Bc_t ?_; conv => whnf)
      | (refine Bc_f ?_; conv => whnf)
      | (rw [g1]; conv => whnf)
      | (rw [g2]; conv => whnf)
      | (rw [g3]; conv => whnf)
      | (rw [g4]; conv => whnf)
      | (rw [g5]; conv => whnf)
      | (rw [g6]; conv => whnf)
      | (rw [hr]; conv => whnf)
      | (refine Bc_split (fun hb => ?_) (fun hb => ?_) <;> (rw [hb]; conv => whnf))
      | (refine And.intro (by first
          | omega
          | assumption
          | (simp only [St.set_n, St.new_n] at *; omega)
          | (simp; done)
          | (simp; omega)
          | (intro _; exact trivial)
          | (intro _; intro _ _; exact trivial)
          | (intro _; intro j hj; first | rfl | (have hj' : j < 1 := hj
                                                 obtain rfl : j = 0 := by omega
                                                 exact ⟨rfl, rfl⟩))
          | (intro j hj; obtain rfl : j = 0 := by omega
             first | exact ⟨rfl, rfl⟩ | exact .inl ⟨rfl, rfl⟩ | exact .inr (by omega) | exact ⟨by assumption, by assumption⟩ | assumption | trivial)
          | exact .inr (by assumption)
          | (intro j hj; exact .inr (by simp only [St.set_n, St.new_n] at *; omega))
          | (intro e he; rcases List.mem_singleton.1 he with rfl; exact ⟨rfl, rfl⟩)
          | (rw [St.set_ne _ _ (by first | assumption | omega | (simp only [St.set_n, St.new_n] at *; omega))]; assumption)
          | (rw [St.set_ne _ _ (by first | assumption | omega | (simp only [St.set_n, St.new_n] at *; omega)), St.set_ne _ _ (by first | assumption | omega | (simp only [St.set_n, St.new_n] at *; omega))]; assumption)
          | (simp only [decide_eq_true_eq, decide_eq_false_iff_not, Bool.not_eq_true, beq_iff_eq, beq_eq_false_iff_ne, ne_eq, ge_iff_le, gt_iff_lt] at *; omega)) ?_; conv => whnf)
      | (rw [St.set_same]; conv => whnf)
      | (rw [St.new_same]; conv => whnf)
      | (rw [St.set_ne _ _ (by first | assumption | omega | (simp only [St.set_n, St.new_n] at *; omega))]; conv => whnf)
      | (rw [St.new_ne _ _ (by first | assumption | omega | (simp only [St.set_n, St.new_n] at *; omega))]; conv => whnf))
  unfold ALoop
  refine ⟨fun k env σ1 => ∃ (i d : Nat), k = s.length - i ∧ i ≤ s.length ∧ com 0 (s.drop at_) = com d (s.drop i) ∧ d ≤ i ∧ (d = 0 → [40, 42].isPrefixOf (s.drop i) = true) ∧ env = [(0, .ptr r 0), (2, .int .i64 at_), (3, .int .i64 d)] ∧ σ1 = σ.set r (rd s i out), _,
    [(0, .ptr r 0), (2, .int .i64 at_), (3, .int .i64 0)], ⟨rfl, rfl, rfl, trivial⟩, ⟨at_, 0, rfl, hat, rfl, by omega, fun _ => hop, rfl, (St.set_self _ _ _ (by rw [hr]; rfl)).symm⟩, ?_⟩
  rintro k env σ1 ⟨i, d, rfl, h1, h2, h3, h4, rfl, rfl⟩
  unfold rd at *
  conv => whnf
  repeat' (first
      | (refine Bc_t ?_; conv => whnf)
      | (refine Bc_f ?_; conv => whnf)
      | (rw [g1]; conv => whnf)
      | (rw [g2]; conv => whnf)
      | (rw [g3]; conv => whnf)
      | (rw [g4]; conv => whnf)
      | (rw [g5]; conv => whnf)
      | (rw [g6]; conv => whnf)
      | (rw [hr]; conv => whnf)
      | (refine Bc_split (fun hb => ?_) (fun hb => ?_) <;> (rw [hb]; conv => whnf))
      | (refine And.intro (by first
          | omega
          | assumption
          | (simp only [St.set_n, St.new_n] at *; omega)
          | (simp; done)
          | (simp; omega)
          | (intro _; exact trivial)
          | (intro _; intro _ _; exact trivial)
          | (intro _; intro j hj; first | rfl | (have hj' : j < 1 := hj
                                                 obtain rfl : j = 0 := by omega
                                                 exact ⟨rfl, rfl⟩))
          | (intro j hj; obtain rfl : j = 0 := by omega
             first | exact ⟨rfl, rfl⟩ | exact .inl ⟨rfl, rfl⟩ | exact .inr (by omega) | exact ⟨by assumption, by assumption⟩ | assumption | trivial)
          | exact .inr (by assumption)
          | (intro j hj; exact .inr (by simp only [St.set_n, St.new_n] at *; omega))
          | (intro e he; rcases List.mem_singleton.1 he with rfl; exact ⟨rfl, rfl⟩)
          | (rw [St.set_ne _ _ (by first | assumption | omega | (simp only [St.set_n, St.new_n] at *; omega))]; assumption)
          | (rw [St.set_ne _ _ (by first | assumption | omega | (simp only [St.set_n, St.new_n] at *; omega)), St.set_ne _ _ (by first | assumption | omega | (simp only [St.set_n, St.new_n] at *; omega))]; assumption)
          | (simp only [decide_eq_true_eq, decide_eq_false_iff_not, Bool.not_eq_true, beq_iff_eq, beq_eq_false_iff_ne, ne_eq, ge_iff_le, gt_iff_lt] at *; omega)) ?_; conv => whnf)
      | (rw [St.set_same]; conv => whnf)
      | (rw [St.new_same]; conv => whnf)
      | (rw [St.set_ne _ _ (by first | assumption | omega | (simp only [St.set_n, St.new_n] at *; omega))]; conv => whnf)
      | (rw [St.new_ne _ _ (by first | assumption | omega | (simp only [St.set_n, St.new_n] at *; omega))]; conv => whnf))
  · have hi : i = s.length := by simp at hb; omega
    have h5 : com 0 (s.drop at_) = none := by rw [h2, hi, List.drop_length]; rfl
    rw [h5]
    exact Fin.of rfl
  have hi : i < s.length := by simp at hb; omega
  clear hb
  refine ACallsW.of (has_ok s _ i out r _ hs h1 (St.set_same ..) Non) (fun _ _ _ h => h.elim) ?_
  rintro _ _ _ ⟨rfl, rfl⟩
  conv => whnf
  repeat' (first
      | (refine Bc_t ?_; conv => whnf)
      | (refine Bc_f ?_; conv => whnf)
      | (rw [g1]; conv => whnf)
      | (rw [g2]; conv => whnf)
      | (rw [g3]; conv => whnf)
      | (rw [g4]; conv => whnf)
      | (rw [g5]; conv => whnf)
      | (rw [g6]; conv => whnf)
      | (rw [hr]; conv => whnf)
      | (refine Bc_split (fun hb => ?_) (fun hb => ?_) <;> (rw [hb]; conv => whnf))
      | (refine And.intro (by first
          | omega
          | assumption
          | (simp only [St.set_n, St.new_n] at *; omega)
          | (simp; done)
          | (simp; omega)
          | (intro _; exact trivial)
          | (intro _; intro _ _; exact trivial)
          | (intro _; intro j hj; first | rfl | (have hj' : j < 1 := hj
                                                 obtain rfl : j = 0 := by omega
                                                 exact ⟨rfl, rfl⟩))
          | (intro j hj; obtain rfl : j = 0 := by omega
             first | exact ⟨rfl, rfl⟩ | exact .inl ⟨rfl, rfl⟩ | exact .inr (by omega) | exact ⟨by assumption, by assumption⟩ | assumption | trivial)
          | exact .inr (by assumption)
          | (intro j hj; exact .inr (by simp only [St.set_n, St.new_n] at *; omega))
          | (intro e he; rcases List.mem_singleton.1 he with rfl; exact ⟨rfl, rfl⟩)
          | (rw [St.set_ne _ _ (by first | assumption | omega | (simp only [St.set_n, St.new_n] at *; omega))]; assumption)
          | (rw [St.set_ne _ _ (by first | assumption | omega | (simp only [St.set_n, St.new_n] at *; omega)), St.set_ne _ _ (by first | assumption | omega | (simp only [St.set_n, St.new_n] at *; omega))]; assumption)
          | (simp only [decide_eq_true_eq, decide_eq_false_iff_not, Bool.not_eq_true, beq_iff_eq, beq_eq_false_iff_ne, ne_eq, ge_iff_le, gt_iff_lt] at *; omega)) ?_; conv => whnf)
      | (rw [St.set_same]; conv => whnf)
      | (rw [St.new_same]; conv => whnf)
      | (rw [St.set_ne _ _ (by first | assumption | omega | (simp only [St.set_n, St.new_n] at *; omega))]; conv => whnf)
      | (rw [St.new_ne _ _ (by first | assumption | omega | (simp only [St.set_n, St.new_n] at *; omega))]; conv => whnf))
  · -- one more begins
    rename_i hz
    rw [w64 (by omega) (by omega)] at hb
    simp at hb
    omega
  · rename_i hz
    obtain ⟨e1, e2⟩ := two_drop hz
    refine ⟨_, [(0, .ptr r 0), (2, .int .i64 at_), (3, .int .i64 (d + 1 : Nat))], ?_, ⟨rfl, rfl, int_eq (by rw [w64 (by omega) (by omega)]; omega), trivial⟩, i + 2, d + 1, rfl, e2, ?_, by omega, by omega, rfl, ?_⟩
    · omega
    · rw [h2, e1, com_open]
    · rw [St.set_set]
      refine congrArg (σ.set r) (rd_eq ?_)
      rw [w64 (by omega) (by omega)]; omega
  have hn1 := hb
  clear hb
  have hd : d ≠ 0 := fun q => by rw [h4 q] at hn1; cases hn1
  refine ACallsW.of (has_ok s _ i out r _ hs h1 (St.set_same ..) Non) (fun _ _ _ h => h.elim) ?_
  rintro _ _ _ ⟨rfl, rfl⟩
  conv => whnf
  repeat' (first
      | (refine Bc_t ?_; conv => whnf)
      | (refine Bc_f ?_; conv => whnf)
      | (rw [g1]; conv => whnf)
      | (rw [g2]; conv => whnf)
      | (rw [g3]; conv => whnf)
      | (rw [g4]; conv => whnf)
      | (rw [g5]; conv => whnf)
      | (rw [g6]; conv => whnf)
      | (rw [hr]; conv => whnf)
      | (refine Bc_split (fun hb => ?_) (fun hb => ?_) <;> (rw [hb]; conv => whnf))
      | (refine And.intro (by first
          | omega
          | assumption
          | (simp only [St.set_n, St.new_n] at *; omega)
          | (simp; done)
          | (simp; omega)
          | (intro _; exact trivial)
          | (intro _; intro _ _; exact trivial)
          | (intro _; intro j hj; first | rfl | (have hj' : j < 1 := hj
                                                 obtain rfl : j = 0 := by omega
                                                 exact ⟨rfl, rfl⟩))
          | (intro j hj; obtain rfl : j = 0 := by omega
             first | exact ⟨rfl, rfl⟩ | exact .inl ⟨rfl, rfl⟩ | exact .inr (by omega) | exact ⟨by assumption, by assumption⟩ | assumption | trivial)
          | exact .inr (by assumption)
          | (intro j hj; exact .inr (by simp only [St.set_n, St.new_n] at *; omega))
          | (intro e he; rcases List.mem_singleton.1 he with rfl; exact ⟨rfl, rfl⟩)
          | (rw [St.set_ne _ _ (by first | assumption | omega | (simp only [St.set_n, St.new_n] at *; omega))]; assumption)
          | (rw [St.set_ne _ _ (by first | assumption | omega | (simp only [St.set_n, St.new_n] at *; omega)), St.set_ne _ _ (by first | assumption | omega | (simp only [St.set_n, St.new_n] at *; omega))]; assumption)
          | (simp only [decide_eq_true_eq, decide_eq_false_iff_not, Bool.not_eq_true, beq_iff_eq, beq_eq_false_iff_ne, ne_eq, ge_iff_le, gt_iff_lt] at *; omega)) ?_; conv => whnf)
      | (rw [St.set_same]; conv => whnf)
      | (rw [St.new_same]; conv => whnf)
      | (rw [St.set_ne _ _ (by first | assumption | omega | (simp only [St.set_n, St.new_n] at *; omega))]; conv => whnf)
      | (rw [St.new_ne _ _ (by first | assumption | omega | (simp only [St.set_n, St.new_n] at *; omega))]; conv => whnf))
  · rename_i hz
    obtain ⟨e1, e2⟩ := two_drop hz
    rw [w64 (by omega) (by omega)] at hb
    have hd1 : d = 1 := by simp at hb; omega
    have h5 : com 0 (s.drop at_) = some (s.drop (i + 2)) := by rw [h2, e1, com_close, if_pos hd1]
    rw [h5]
    refine Fin.of ⟨?_, rfl⟩
    rw [St.set_set]
    refine congrArg (σ.set r) (rd_eq ?_)
    rw [w64 (by omega) (by omega), List.length_drop]; omega
  · rename_i hz
    obtain ⟨e1, e2⟩ := two_drop hz
    rw [w64 (by omega) (by omega)] at hb
    have hd1 : d ≠ 1 := by simp at hb; omega
    refine ⟨_, [(0, .ptr r 0), (2, .int .i64 at_), (3, .int .i64 (d - 1 : Nat))], ?_, ⟨rfl, rfl, int_eq (by rw [w64 (by omega) (by omega)]; omega), trivial⟩, i + 2, d - 1, rfl, e2, ?_, by omega, by omega, rfl, ?_⟩
    · omega
    · rw [h2, e1, com_close, if_neg hd1]
    · rw [St.set_set]
      refine congrArg (σ.set r) (rd_eq ?_)
      rw [w64 (by omega) (by omega)]; omega
  · simp at hb
    omega
  · rename_i hn2
    refine ⟨_, [(0, .ptr r 0), (2, .int .i64 at_), (3, .int .i64 d)], ?_, ⟨rfl, rfl, rfl, trivial⟩, i + 1, d, rfl, hi, ?_, by omega, fun q => absurd q hd, rfl, ?_⟩
    · omega
    · rw [h2, one_drop hi]
      rw [one_drop hi] at hn1 hn2
      exact com_on _ _ _ hn1 hn2
    · rw [St.set_set]
      refine congrArg (σ.set r) (rd_eq ?_)
      rw [w64 (by omega) (by omega)]; omega

/-- Blanks and comments. -/
theorem gap_ok (s : List UInt8) (at_ : Nat) (out : A) (r : Nat) (σ : St) (hs : s.length ≤ 4096) (hat : at_ ≤ s.length) (hr : σ.obj r = rd s at_ out) :
    ACalls Tryd.prog 24 [.ptr r 0] σ (AtOf r) (fun e σ' => match skip 0 [] (s.drop at_) with
      | (true, l) => σ' = σ.set r (rd s (s.length - l.length) out) ∧ e = .ret (.tup [])
      | (false, l) => e = .pan (bad 20 (s.length - l.length))) := by
  unfold rd at *
  refine acalls_go mixed Tryd.func24 c_gap_ok (Nat.le_of_ble_eq_true rfl) ?_
  conv => whnf
  repeat' (first
      | (refine Bc_t ?_; conv => whnf)
      | (refine Bc_f ?_; conv => whnf)
      | (rw [g1]; conv => whnf)
      | (rw [g2]; conv => whnf)
      | (rw [g3]; conv => whnf)
      | (rw [g4]; conv => whnf)
      | (rw [g5]; conv => whnf)
      | (rw [g6]; conv => whnf)
      | (rw [hr]; conv => whnf)
      | (refine Bc_split (fun hb => ?_) (fun hb => ?_) <;> (rw [hb]; conv => whnf))
      | (refine And.intro (by first
          | omega
          | assumption
          | (simp only [St.set_n, St.new_n] at *; omega)
          | (simp; done)
          | (simp; omega)
          | (intro _; exact trivial)
          | (intro _; intro _ _; exact trivial)
          | (intro _; intro j hj; first | rfl | (have hj' : j < 1 := hj
                                                 obtain rfl : j = 0 := by omega
                                                 exact ⟨rfl, rfl⟩))
          | (intro j hj; obtain rfl : j = 0 := by omega
             first | exact ⟨rfl, rfl⟩ | exact .inl ⟨rfl, rfl⟩ | exact .inr (by omega) | exact ⟨by assumption, by assumption⟩ | assumption | trivial)
          | exact .inr (by assumption)
          | (intro j hj; exact .inr (by simp only [St.set_n, St.new_n] at *; omega))
          | (intro e he; rcases List.mem_singleton.1 he with rfl; exact ⟨rfl, rfl⟩)
          | (rw [St.set_ne _ _ (by first | assumption | omega | (simp only [St.set_n, St.new_n] at *; omega))]; assumption)
          | (rw [St.set_ne _ _ (by first | assumption | omega | (simp only [St.set_n, St.new_n] at *; omega)), St.set_ne _ _ (by first | assumption | omega | (simp only [St.set_n, St.new_n] at *; omega))]; assumption)
          | (simp only [decide_eq_true_eq, decide_eq_false_iff_not, Bool.not_eq_true, beq_iff_eq, beq_eq_false_iff_ne, ne_eq, ge_iff_le, gt_iff_lt] at *; omega)) ?_; conv => whnf)
      | (rw [St.set_same]; conv => whnf)
      | (rw [St.new_same]; conv => whnf)
      | (rw [St.set_ne _ _ (by first | assumption | omega | (simp only [St.set_n, St.new_n] at *; omega))]; conv => whnf)
      | (rw [St.new_ne _ _ (by first | assumption | omega | (simp only [St.set_n, St.new_n] at *; omega))]; conv => whnf))
  unfold ALoop
  refine ⟨fun k env σ1 => ∃ i : Nat, k = s.length - i ∧ i ≤ s.length ∧ skip 0 [] (s.drop at_) = skip 0 [] (s.drop i) ∧ env = [(0, .ptr r 0)] ∧ σ1 = σ.set r (rd s i out), _,
    [(0, .ptr r 0)], ⟨rfl, trivial⟩, ⟨at_, rfl, hat, rfl, rfl, (St.set_self _ _ _ (by rw [hr]; rfl)).symm⟩, ?_⟩
  rintro k env σ1 ⟨i, rfl, h1, h2, rfl, rfl⟩
  unfold rd at *
  conv => whnf
  repeat' (first
      | (refine Bc_t ?_; conv => whnf)
      | (refine Bc_f ?_; conv => whnf)
      | (rw [g1]; conv => whnf)
      | (rw [g2]; conv => whnf)
      | (rw [g3]; conv => whnf)
      | (rw [g4]; conv => whnf)
      | (rw [g5]; conv => whnf)
      | (rw [g6]; conv => whnf)
      | (rw [hr]; conv => whnf)
      | (refine Bc_split (fun hb => ?_) (fun hb => ?_) <;> (rw [hb]; conv => whnf))
      | (refine And.intro (by first
          | omega
          | assumption
          | (simp only [St.set_n, St.new_n] at *; omega)
          | (simp; done)
          | (simp; omega)
          | (intro _; exact trivial)
          | (intro _; intro _ _; exact trivial)
          | (intro _; intro j hj; first | rfl | (have hj' : j < 1 := hj
                                                 obtain rfl : j = 0 := by omega
                                                 exact ⟨rfl, rfl⟩))
          | (intro j hj; obtain rfl : j = 0 := by omega
             first | exact ⟨rfl, rfl⟩ | exact .inl ⟨rfl, rfl⟩ | exact .inr (by omega) | exact ⟨by assumption, by assumption⟩ | assumption | trivial)
          | exact .inr (by assumption)
          | (intro j hj; exact .inr (by simp only [St.set_n, St.new_n] at *; omega))
          | (intro e he; rcases List.mem_singleton.1 he with rfl; exact ⟨rfl, rfl⟩)
          | (rw [St.set_ne _ _ (by first | assumption | omega | (simp only [St.set_n, St.new_n] at *; omega))]; assumption)
          | (rw [St.set_ne _ _ (by first | assumption | omega | (simp only [St.set_n, St.new_n] at *; omega)), St.set_ne _ _ (by first | assumption | omega | (simp only [St.set_n, St.new_n] at *; omega))]; assumption)
          | (simp only [decide_eq_true_eq, decide_eq_false_iff_not, Bool.not_eq_true, beq_iff_eq, beq_eq_false_iff_ne, ne_eq, ge_iff_le, gt_iff_lt] at *; omega)) ?_; conv => whnf)
      | (rw [St.set_same]; conv => whnf)
      | (rw [St.new_same]; conv => whnf)
      | (rw [St.set_ne _ _ (by first | assumption | omega | (simp only [St.set_n, St.new_n] at *; omega))]; conv => whnf)
      | (rw [St.new_ne _ _ (by first | assumption | omega | (simp only [St.set_n, St.new_n] at *; omega))]; conv => whnf))
  · have hi : i < s.length := by simp at hb; omega
    clear hb
    refine Exists.intro (fun _ _ => True) ?_
    conv => whnf
    repeat' (first
        | (refine Bc_t ?_; conv => whnf)
        | (refine Bc_f ?_; conv => whnf)
        | (rw [g1]; conv => whnf)
        | (rw [g2]; conv => whnf)
        | (rw [g3]; conv => whnf)
        | (rw [g4]; conv => whnf)
        | (rw [g5]; conv => whnf)
        | (rw [g6]; conv => whnf)
        | (rw [hr]; conv => whnf)
        | (refine Bc_split (fun hb => ?_) (fun hb => ?_) <;> (rw [hb]; conv => whnf))
        | (refine And.intro (by first
            | omega
            | assumption
            | (simp only [St.set_n, St.new_n] at *; omega)
            | (simp; done)
            | (simp; omega)
            | (intro _; exact trivial)
            | (intro _; intro _ _; exact trivial)
            | (intro _; intro j hj; first | rfl | (have hj' : j < 1 := hj
                                                   obtain rfl : j = 0 := by omega
                                                   exact ⟨rfl, rfl⟩))
            | (intro j hj; obtain rfl : j = 0 := by omega
               first | exact ⟨rfl, rfl⟩ | exact .inl ⟨rfl, rfl⟩ | exact .inr (by omega) | exact ⟨by assumption, by assumption⟩ | assumption | trivial)
            | exact .inr (by assumption)
            | (intro j hj; exact .inr (by simp only [St.set_n, St.new_n] at *; omega))
            | (intro e he; rcases List.mem_singleton.1 he with rfl; exact ⟨rfl, rfl⟩)
            | (rw [St.set_ne _ _ (by first | assumption | omega | (simp only [St.set_n, St.new_n] at *; omega))]; assumption)
            | (rw [St.set_ne _ _ (by first | assumption | omega | (simp only [St.set_n, St.new_n] at *; omega)), St.set_ne _ _ (by first | assumption | omega | (simp only [St.set_n, St.new_n] at *; omega))]; assumption)
            | (simp only [decide_eq_true_eq, decide_eq_false_iff_not, Bool.not_eq_true, beq_iff_eq, beq_eq_false_iff_ne, ne_eq, ge_iff_le, gt_iff_lt] at *; omega)) ?_; conv => whnf)
        | (rw [St.set_same]; conv => whnf)
        | (rw [St.new_same]; conv => whnf)
        | (rw [St.set_ne _ _ (by first | assumption | omega | (simp only [St.set_n, St.new_n] at *; omega))]; conv => whnf)
        | (rw [St.new_ne _ _ (by first | assumption | omega | (simp only [St.set_n, St.new_n] at *; omega))]; conv => whnf))
    refine ACallsW.of (indexByte_ok _ _ _ Non) (fun _ _ _ h => h.elim) ?_
    rintro _ _ _ ⟨rfl, rfl⟩
    conv => whnf
    repeat' (first
        | (refine Bc_t ?_; conv => whnf)
        | (refine Bc_f ?_; conv => whnf)
        | (rw [g1]; conv => whnf)
        | (rw [g2]; conv => whnf)
        | (rw [g3]; conv => whnf)
        | (rw [g4]; conv => whnf)
        | (rw [g5]; conv => whnf)
        | (rw [g6]; conv => whnf)
        | (rw [hr]; conv => whnf)
        | (refine Bc_split (fun hb => ?_) (fun hb => ?_) <;> (rw [hb]; conv => whnf))
        | (refine And.intro (by first
            | omega
            | assumption
            | (simp only [St.set_n, St.new_n] at *; omega)
            | (simp; done)
            | (simp; omega)
            | (intro _; exact trivial)
            | (intro _; intro _ _; exact trivial)
            | (intro _; intro j hj; first | rfl | (have hj' : j < 1 := hj
                                                   obtain rfl : j = 0 := by omega
                                                   exact ⟨rfl, rfl⟩))
            | (intro j hj; obtain rfl : j = 0 := by omega
               first | exact ⟨rfl, rfl⟩ | exact .inl ⟨rfl, rfl⟩ | exact .inr (by omega) | exact ⟨by assumption, by assumption⟩ | assumption | trivial)
            | exact .inr (by assumption)
            | (intro j hj; exact .inr (by simp only [St.set_n, St.new_n] at *; omega))
            | (intro e he; rcases List.mem_singleton.1 he with rfl; exact ⟨rfl, rfl⟩)
            | (rw [St.set_ne _ _ (by first | assumption | omega | (simp only [St.set_n, St.new_n] at *; omega))]; assumption)
            | (rw [St.set_ne _ _ (by first | assumption | omega | (simp only [St.set_n, St.new_n] at *; omega)), St.set_ne _ _ (by first | assumption | omega | (simp only [St.set_n, St.new_n] at *; omega))]; assumption)
            | (simp only [decide_eq_true_eq, decide_eq_false_iff_not, Bool.not_eq_true, beq_iff_eq, beq_eq_false_iff_ne, ne_eq, ge_iff_le, gt_iff_lt] at *; omega)) ?_; conv => whnf)
        | (rw [St.set_same]; conv => whnf)
        | (rw [St.new_same]; conv => whnf)
        | (rw [St.set_ne _ _ (by first | assumption | omega | (simp only [St.set_n, St.new_n] at *; omega))]; conv => whnf)
        | (rw [St.new_ne _ _ (by first | assumption | omega | (simp only [St.set_n, St.new_n] at *; omega))]; conv => whnf))
    · have hbl : isBlank (s.getD i 0) = true := (blank_idx _).symm.trans hb
      refine ⟨_, [(0, .ptr r 0)], ?_, ⟨rfl, trivial⟩, i + 1, rfl, hi, ?_, rfl, ?_⟩
      · omega
      · rw [h2, one_drop hi, skip_blank _ _ hbl]
      · rw [St.set_set]
        refine congrArg (σ.set r) (rd_eq ?_)
        rw [w64 (by omega) (by omega)]; omega
    have hbl : isBlank (s.getD i 0) = false := (blank_idx _).symm.trans hb
    clear hb
    refine ACallsW.of (has_ok s _ i out r _ hs h1 (St.set_same ..) Non) (fun _ _ _ h => h.elim) ?_
    rintro _ _ _ ⟨rfl, rfl⟩
    conv => whnf
    repeat' (first
        | (refine Bc_t ?_; conv => whnf)
        | (refine Bc_f ?_; conv => whnf)
        | (rw [g1]; conv => whnf)
        | (rw [g2]; conv => whnf)
        | (rw [g3]; conv => whnf)
        | (rw [g4]; conv => whnf)
        | (rw [g5]; conv => whnf)
        | (rw [g6]; conv => whnf)
        | (rw [hr]; conv => whnf)
        | (refine Bc_split (fun hb => ?_) (fun hb => ?_) <;> (rw [hb]; conv => whnf))
        | (refine And.intro (by first
            | omega
            | assumption
            | (simp only [St.set_n, St.new_n] at *; omega)
            | (simp; done)
            | (simp; omega)
            | (intro _; exact trivial)
            | (intro _; intro _ _; exact trivial)
            | (intro _; intro j hj; first | rfl | (have hj' : j < 1 := hj
                                                   obtain rfl : j = 0 := by omega
                                                   exact ⟨rfl, rfl⟩))
            | (intro j hj; obtain rfl : j = 0 := by omega
               first | exact ⟨rfl, rfl⟩ | exact .inl ⟨rfl, rfl⟩ | exact .inr (by omega) | exact ⟨by assumption, by assumption⟩ | assumption | trivial)
            | exact .inr (by assumption)
            | (intro j hj; exact .inr (by simp only [St.set_n, St.new_n] at *; omega))
            | (intro e he; rcases List.mem_singleton.1 he with rfl; exact ⟨rfl, rfl⟩)
            | (rw [St.set_ne _ _ (by first | assumption | omega | (simp only [St.set_n, St.new_n] at *; omega))]; assumption)
            | (rw [St.set_ne _ _ (by first | assumption | omega | (simp only [St.set_n, St.new_n] at *; omega)), St.set_ne _ _ (by first | assumption | omega | (simp only [St.set_n, St.new_n] at *; omega))]; assumption)
            | (simp only [decide_eq_true_eq, decide_eq_false_iff_not, Bool.not_eq_true, beq_iff_eq, beq_eq_false_iff_ne, ne_eq, ge_iff_le, gt_iff_lt] at *; omega)) ?_; conv => whnf)
        | (rw [St.set_same]; conv => whnf)
        | (rw [St.new_same]; conv => whnf)
        | (rw [St.set_ne _ _ (by first | assumption | omega | (simp only [St.set_n, St.new_n] at *; omega))]; conv => whnf)
        | (rw [St.new_ne _ _ (by first | assumption | omega | (simp only [St.set_n, St.new_n] at *; omega))]; conv => whnf))
    · refine ACallsW.of (comment_ok s i out r _ hs h1 hb (St.set_same ..)) (fun _ _ _ h => h) ?_
      intro e σ' hk hR
      obtain ⟨e1, e2⟩ := two_drop hb
      have h5 := h2
      rw [e1, skip_open, ← e1] at h5
      cases hc : com 0 (s.drop i) with
      | none =>
        rw [hc] at hR h5
        simp only at hR h5
        subst hR
        conv => whnf
        rw [h5]
        refine Fin.of ?_
        simp only [List.length_drop]
        congr 2
        omega
      | some l =>
        rw [hc] at hR h5
        simp only at hR h5
        obtain ⟨rfl, rfl⟩ := hR
        conv => whnf
        have hlen := com_len _ _ _ hc
        rw [List.length_drop] at hlen
        have hl := suf_drop ((com_suf _ _ _ hc).trans (List.drop_suffix i s))
        refine ⟨_, [(0, .ptr r 0)], ?_, ⟨rfl, trivial⟩, s.length - l.length, rfl, by omega, ?_, rfl, ?_⟩
        · omega
        · rw [h5, hl]
        · rw [St.set_set]
          rfl
    · rw [one_drop hi] at hb
      rw [h2, one_drop hi, skip_stop _ _ hbl hb]
      refine Fin.of ⟨?_, rfl⟩
      refine congrArg (σ.set r) (rd_eq ?_)
      simp; omega
  · have hi : i = s.length := by simp at hb; omega
    rw [h2, hi, List.drop_length, skip_nil]
    exact Fin.of ⟨rfl, rfl⟩
end
end Go.Proofs.YtjeccchbeflddaaDoor.Ga
