/- The lexer's reader: names, blanks, comments. -/
import Derived.Test.YtjeccchbeflddaaDoorLa1
set_option linter.unusedVariables false
set_option linter.unusedSimpArgs false
namespace Go.Proofs.YtjeccchbeflddaaDoor.Ga
open Lx

/-- The reader's place. -/
def AtOf (r : Nat) : Nat → Nat → Prop := fun id off => id = r ∧ off = 1
/-- A reader: its text, its place, what it has read. -/
def rd (s : List UInt8) (at_ : Nat) (out : A) : AO := .cells [.str s, .int .i64 at_, out]


theorem nameLen_step {s : List UInt8} {i : Nat} (h : i < s.length) (hb : isName (s.getD i 0) = true) : nameLen (s.drop i) = 1 + nameLen (s.drop (i + 1)) := by
  have : s.drop i = s.getD i 0 :: s.drop (i + 1) := by
    rw [List.drop_eq_getElem_cons h]; simp [h]
  rw [this, nameLen, List.takeWhile_cons_of_pos hb, List.length_cons, nameLen]
  omega
theorem nameLen_stop {s : List UInt8} {i : Nat} (h : i < s.length) (hb : isName (s.getD i 0) = false) : nameLen (s.drop i) = 0 := by
  have : s.drop i = s.getD i 0 :: s.drop (i + 1) := by
    rw [List.drop_eq_getElem_cons h]; simp [h]
  rw [this, nameLen, List.takeWhile_cons_of_neg (by rw [hb]; simp)]
  rfl

def c_run : SFun := ⟨47, (.seq (.reg [⟨(some 2), (.mov (.const (.str []))), none⟩]) (.seq (.reg [⟨(some 4), (.mov (.tmp 0)), none⟩, ⟨(some 5), (.nilCheck (.tmp 4)), none⟩, ⟨(some 6), (.fieldAddr 1 (.tmp 5)), none⟩, ⟨(some 7), (.load false 1 (.tmp 6)), none⟩, ⟨(some 3), (.mov (.tmp 7)), none⟩]) (.seq (.block 0 (.loop (.seq (.seq (.dreg [(0, ⟨(some 8), (.mov (.tmp 0)), none⟩), (0, ⟨(some 9), (.nilCheck (.tmp 8)), none⟩), (0, ⟨(some 10), (.fieldAddr 1 (.tmp 9)), none⟩), (0, ⟨(some 11), (.load false 1 (.tmp 10)), none⟩), (0, ⟨(some 12), (.mov (.tmp 0)), none⟩), (0, ⟨(some 13), (.nilCheck (.tmp 12)), none⟩), (0, ⟨(some 14), (.fieldAddr 0 (.tmp 13)), none⟩), (0, ⟨(some 15), (.load false 1 (.tmp 14)), none⟩), (0, ⟨(some 16), (.len .str (.tmp 15)), none⟩), (0, ⟨(some 17), (.bin .lss .none (.tmp 11) (.tmp 16)), none⟩), (0, ⟨(some 18), (.mov (.tmp 17)), none⟩), (0, ⟨(some 19), (.mov (.tmp 0)), (some (18, true))⟩), (0, ⟨(some 20), (.nilCheck (.tmp 19)), (some (18, true))⟩), (0, ⟨(some 21), (.fieldAddr 0 (.tmp 20)), (some (18, true))⟩), (0, ⟨(some 22), (.load false 1 (.tmp 21)), (some (18, true))⟩), (0, ⟨(some 23), (.mov (.tmp 0)), (some (18, true))⟩), (0, ⟨(some 24), (.nilCheck (.tmp 23)), (some (18, true))⟩), (0, ⟨(some 25), (.fieldAddr 1 (.tmp 24)), (some (18, true))⟩), (0, ⟨(some 26), (.load false 1 (.tmp 25)), (some (18, true))⟩), (0, ⟨(some 27), (.idxStr (.tmp 22) (.tmp 26)), (some (18, true))⟩), (1, ⟨(some 28), (.call 47 [(.tmp 27)]), (some (18, true))⟩), (0, ⟨(some 29), (.pick (.tmp 18) (.tmp 28) (.const (.bool false))), none⟩)]) (.cond (.tmp 29) .skip (.exit 0))) (.block 1 (.reg [⟨(some 30), (.mov (.tmp 0)), none⟩, ⟨(some 31), (.nilCheck (.tmp 30)), none⟩, ⟨(some 32), (.fieldAddr 1 (.tmp 31)), none⟩, ⟨(some 33), (.load false 1 (.tmp 32)), none⟩, ⟨(some 34), (.bin .add .none (.tmp 33) (.const (.int .i64 1))), none⟩, ⟨(some 35), (.nilCheck (.tmp 30)), none⟩, ⟨(some 36), (.fieldAddr 1 (.tmp 35)), none⟩, ⟨none, (.store 1 (.tmp 36) (.tmp 34)), none⟩]))))) (.seq (.dreg [(0, ⟨(some 37), (.mov (.tmp 0)), none⟩), (0, ⟨(some 38), (.nilCheck (.tmp 37)), none⟩), (0, ⟨(some 39), (.fieldAddr 0 (.tmp 38)), none⟩), (0, ⟨(some 40), (.load false 1 (.tmp 39)), none⟩), (0, ⟨(some 41), (.mov (.tmp 3)), none⟩), (0, ⟨(some 42), (.mov (.tmp 0)), none⟩), (0, ⟨(some 43), (.nilCheck (.tmp 42)), none⟩), (0, ⟨(some 44), (.fieldAddr 1 (.tmp 43)), none⟩), (0, ⟨(some 45), (.load false 1 (.tmp 44)), none⟩), (0, ⟨(some 46), (.sliceStr (.tmp 40) (some (.tmp 41)) (some (.tmp 45))), none⟩), (2, ⟨(some 2), (.mov (.tmp 46)), none⟩)]) .ret)))), [(.tmp 2)]⟩
theorem c_run_ok : cFun Tryd.prog Tryd.f38 = some c_run := by kernel_rfl

theorem w64 {n : Int} (h0 : -9223372036854775808 ≤ n) (h1 : n < 9223372036854775808) : IntKind.i64.wrap n = n := by
  unfold IntKind.wrap; simp [IntKind.bits, IntKind.signed]; omega
theorem drop_take' {s : List UInt8} {a b : Nat} : (s.take (a + b)).drop a = (s.drop a).take b := by
  rw [List.drop_take]; simp
theorem rd_eq {s : List UInt8} {n : Int} {k : Nat} {out : A} (h : n = k) : AO.cells [.str s, .int .i64 n, out] = rd s k out := by rw [h]; rfl

section
attribute [local irreducible] Bc ACallsW ALoop Fin St.set St.new
theorem run_ok (s : List UInt8) (at_ : Nat) (out : A) (r : Nat) (σ : St) (hs : s.length ≤ 4096) (hat : at_ ≤ s.length) (hr : σ.obj r = rd s at_ out) :
    ACalls Tryd.prog 38 [.ptr r 0] σ (AtOf r) (fun e σ' => σ' = σ.set r (rd s (at_ + nameLen (s.drop at_)) out) ∧ e = .ret (.str ((s.drop at_).take (nameLen (s.drop at_))))) := by
  unfold rd at *
  refine acalls_go mixed Tryd.func38 c_run_ok (Nat.le_of_ble_eq_true rfl) ?_
  conv => whnf
  repeat' (first
      | (refine Bc_t ?_; conv => whnf)
      | (refine Bc_f ?_; conv => whnf)
      | (rw [g1]; conv => whnf)
      | (rw [g2]; conv => whnf)
      | (rw [g3]; conv => whnf)
      | (rw [g4]; conv => whnf)
      | (rw [g5]; conv => whnf)
      | (rw [g6]; conv => whnf)
      | (rw [hr]; conv => whnf)
      | (refine Bc_split (fun hb => ?_) (fun hb => ?_) <;> (rw [hb]; conv => whnf))
      | (refine And.intro (by first
          | omega
          | assumption
          | (simp only [St.set_n, St.new_n] at *; omega)
          | (simp; done)
          | (simp; omega)
          | (intro _; exact trivial)
          | (intro _; intro _ _; exact trivial)
          | (intro _; intro j hj; first | rfl | (have hj' : j < 1 := hj
                                                 obtain rfl : j = 0 := by omega
                                                 exact ⟨rfl, rfl⟩))
          | (intro j hj; obtain rfl : j = 0 := by omega
             first | exact ⟨rfl, rfl⟩ | exact .inl ⟨rfl, rfl⟩ | exact .inr (by omega) | exact ⟨by assumption, by assumption⟩ | assumption | trivial)
          | exact .inr (by assumption)
          | (intro j hj; exact .inr (by simp only [St.set_n, St.new_n] at *; omega))
          | (intro e he; rcases List.mem_singleton.1 he with rfl; exact ⟨rfl, rfl⟩)
          | (rw [St.set_ne _ _ (by first | assumption | omega | (simp only [St.set_n, St.new_n] at *; omega))]; assumption)
          | (rw [St.set_ne _ _ (by first | assumption | omega | (simp only [St.set_n, St.new_n] at *; omega)), St.set_ne _ _ (by first | assumption | omega | (simp only [St.set_n, St.new_n] at *; omega))]; assumption)
          | (simp only [decide_eq_true_eq, decide_eq_false_iff_not, Bool.not_eq_true, beq_iff_eq, beq_eq_false_iff_ne, ne_eq, ge_iff_le, gt_iff_lt] at *; omega)) ?_; conv => whnf)
      | (rw [St.set_same]; conv => whnf)
      | (rw [St.new_same]; conv => whnf)
      | (rw [St.set_ne _ _ (by first | assumption | omega | (simp only [St.set_n, St.new_n] at *; omega))]; conv => whnf)
      | (rw [St.new_ne _ _ (by first | assumption | omega | (simp only [St.set_n, St.new_n] at *; omega))]; conv => whnf))
  unfold ALoop
  refine ⟨fun k env σ1 => ∃ i : Nat, k = s.length - (at_ + i) ∧ at_ + i ≤ s.length ∧ nameLen (s.drop at_) = i + nameLen (s.drop (at_ + i)) ∧ env = [(0, .ptr r 0), (3, .int .i64 at_)] ∧ σ1 = σ.set r (rd s (at_ + i) out), _,
    [(0, .ptr r 0), (3, .int .i64 at_)], ⟨rfl, rfl, trivial⟩, ⟨0, rfl, by omega, by simp, rfl, (St.set_self _ _ _ (by rw [hr]; rfl)).symm⟩, ?_⟩
  rintro k env σ1 ⟨i, rfl, h1, h2, rfl, rfl⟩
  unfold rd at *
  conv => whnf
  refine Exists.intro (fun _ _ => True) ?_
  conv => whnf
  repeat' (first
      | (refine Bc_t ?_; conv => whnf)
      | (refine Bc_f ?_; conv => whnf)
      | (rw [g1]; conv => whnf)
      | (rw [g2]; conv => whnf)
      | (rw [g3]; conv => whnf)
      | (rw [g4]; conv => whnf)
      | (rw [g5]; conv => whnf)
      | (rw [g6]; conv => whnf)
      | (rw [hr]; conv => whnf)
      | (refine Bc_split (fun hb => ?_) (fun hb => ?_) <;> (rw [hb]; conv => whnf))
      | (refine And.intro (by first
          | omega
          | assumption
          | (simp only [St.set_n, St.new_n] at *; omega)
          | (simp; done)
          | (simp; omega)
          | (intro _; exact trivial)
          | (intro _; intro _ _; exact trivial)
          | (intro _; intro j hj; first | rfl | (have hj' : j < 1 := hj
                                                 obtain rfl : j = 0 := by omega
                                                 exact ⟨rfl, rfl⟩))
          | (intro j hj; obtain rfl : j = 0 := by omega
             first | exact ⟨rfl, rfl⟩ | exact .inl ⟨rfl, rfl⟩ | exact .inr (by omega) | exact ⟨by assumption, by assumption⟩ | assumption | trivial)
          | exact .inr (by assumption)
          | (intro j hj; exact .inr (by simp only [St.set_n, St.new_n] at *; omega))
          | (intro e he; rcases List.mem_singleton.1 he with rfl; exact ⟨rfl, rfl⟩)
          | (rw [St.set_ne _ _ (by first | assumption | omega | (simp only [St.set_n, St.new_n] at *; omega))]; assumption)
          | (rw [St.set_ne _ _ (by first | assumption | omega | (simp only [St.set_n, St.new_n] at *; omega)), St.set_ne _ _ (by first | assumption | omega | (simp only [St.set_n, St.new_n] at *; omega))]; assumption)
          | (simp only [decide_eq_true_eq, decide_eq_false_iff_not, Bool.not_eq_true, beq_iff_eq, beq_eq_false_iff_ne, ne_eq, ge_iff_le, gt_iff_lt] at *; omega)) ?_; conv => whnf)
      | (rw [St.set_same]; conv => whnf)
      | (rw [St.new_same]; conv => whnf)
      | (rw [St.set_ne _ _ (by first | assumption | omega | (simp only [St.set_n, St.new_n] at *; omega))]; conv => whnf)
      | (rw [St.new_ne _ _ (by first | assumption | omega | (simp only [St.set_n, St.new_n] at *; omega))]; conv => whnf))
  · have hlt : at_ + i < s.length := by simp at hb; omega
    refine ACallsW.of (inName_ok _ _ Non) (fun _ _ _ h => h.elim) ?_
    rintro _ _ _ ⟨rfl, rfl⟩
    conv => whnf
    repeat' (first
        | (refine Bc_t ?_; conv => whnf)
        | (refine Bc_f ?_; conv => whnf)
        | (rw [g1]; conv => whnf)
        | (rw [g2]; conv => whnf)
        | (rw [g3]; conv => whnf)
        | (rw [g4]; conv => whnf)
        | (rw [g5]; conv => whnf)
        | (rw [g6]; conv => whnf)
        | (rw [hr]; conv => whnf)
        | (refine Bc_split (fun hb => ?_) (fun hb => ?_) <;> (rw [hb]; conv => whnf))
        | (refine And.intro (by first
            | omega
            | assumption
            | (simp only [St.set_n, St.new_n] at *; omega)
            | (simp; done)
            | (simp; omega)
            | (intro _; exact trivial)
            | (intro _; intro _ _; exact trivial)
            | (intro _; intro j hj; first | rfl | (have hj' : j < 1 := hj
                                                   obtain rfl : j = 0 := by omega
                                                   exact ⟨rfl, rfl⟩))
            | (intro j hj; obtain rfl : j = 0 := by omega
               first | exact ⟨rfl, rfl⟩ | exact .inl ⟨rfl, rfl⟩ | exact .inr (by omega) | exact ⟨by assumption, by assumption⟩ | assumption | trivial)
            | exact .inr (by assumption)
            | (intro j hj; exact .inr (by simp only [St.set_n, St.new_n] at *; omega))
            | (intro e he; rcases List.mem_singleton.1 he with rfl; exact ⟨rfl, rfl⟩)
            | (rw [St.set_ne _ _ (by first | assumption | omega | (simp only [St.set_n, St.new_n] at *; omega))]; assumption)
            | (rw [St.set_ne _ _ (by first | assumption | omega | (simp only [St.set_n, St.new_n] at *; omega)), St.set_ne _ _ (by first | assumption | omega | (simp only [St.set_n, St.new_n] at *; omega))]; assumption)
            | (simp only [decide_eq_true_eq, decide_eq_false_iff_not, Bool.not_eq_true, beq_iff_eq, beq_eq_false_iff_ne, ne_eq, ge_iff_le, gt_iff_lt] at *; omega)) ?_; conv => whnf)
        | (rw [St.set_same]; conv => whnf)
        | (rw [St.new_same]; conv => whnf)
        | (rw [St.set_ne _ _ (by first | assumption | omega | (simp only [St.set_n, St.new_n] at *; omega))]; conv => whnf)
        | (rw [St.new_ne _ _ (by first | assumption | omega | (simp only [St.set_n, St.new_n] at *; omega))]; conv => whnf))
    · refine ⟨_, [(0, .ptr r 0), (3, .int .i64 at_)], ?_, ⟨rfl, rfl, trivial⟩, i + 1, rfl, by omega, ?_, rfl, ?_⟩
      · omega
      · rw [h2, nameLen_step hlt hb, Nat.add_assoc at_ i 1]; omega
      · rw [St.set_set]
        refine congrArg (σ.set r) (rd_eq ?_)
        rw [w64 (by omega) (by omega)]; omega
    · have h0 := nameLen_stop hlt hb
      have h3 : nameLen (s.drop at_) = i := by omega
      refine Fin.of ⟨by rw [h3], ?_⟩
      rw [h3]
      exact congrArg (fun z => AEnd.ret (A.str z)) drop_take'
  · have h0 : at_ + i = s.length := by simp at hb; omega
    have h3 : nameLen (s.drop at_) = i := by rw [h2, h0]; simp [nameLen]
    refine Fin.of ⟨by rw [h3], ?_⟩
    rw [h3]
    exact congrArg (fun z => AEnd.ret (A.str z)) drop_take'
end
end Go.Proofs.YtjeccchbeflddaaDoor.Ga
