/- LexGaps: the walk. -/
import Derived.Test.YtjeccchbeflddaaDoorLe0
import Derived.Test.YtjeccchbeflddaaDoorLa12
import Derived.Test.YtjeccchbeflddaaDoorLc4
set_option linter.unusedVariables false
set_option linter.unusedSimpArgs false
namespace Go.Proofs.YtjeccchbeflddaaDoor.Ga
open Lx

def c_gaps : SFun := ⟨120, (.seq (.reg [⟨(some 6), (.mov (.const (.bool false))), none⟩]) (.seq (.seq (.reg [⟨(some 17), (.call 9 []), none⟩, ⟨(some 18), (.un .not (.tmp 17)), none⟩]) (.cond (.tmp 18) (.seq (.reg [⟨(some 6), (.mov (.const (.bool false))), none⟩]) .ret) .skip)) (.seq (.reg [⟨(some 20), (.mov (.tmp 0)), none⟩, ⟨(some 21), (.call 14 [(.tmp 20)]), none⟩, ⟨(some 19), (.mov (.tmp 21)), none⟩, ⟨(some 22), (.extract (.tmp 19) 0), none⟩, ⟨(some 23), (.extract (.tmp 19) 1), none⟩, ⟨(some 24), (.extract (.tmp 19) 2), none⟩, ⟨(some 7), (.mov (.tmp 22)), none⟩, ⟨(some 8), (.mov (.tmp 23)), none⟩, ⟨(some 9), (.mov (.tmp 24)), none⟩]) (.seq (.seq (.reg [⟨(some 25), (.mov (.tmp 8)), none⟩, ⟨(some 26), (.bin .neq .none (.tmp 25) (.const (.int .i64 0))), none⟩, ⟨(some 27), (.mov (.tmp 26)), none⟩, ⟨(some 28), (.mov (.tmp 2)), (some (27, false))⟩, ⟨(some 29), (.bin .lss .none (.tmp 28) (.const (.int .i64 0))), (some (27, false))⟩, ⟨(some 30), (.pick (.tmp 27) (.const (.bool true)) (.tmp 29)), none⟩, ⟨(some 31), (.mov (.tmp 30)), none⟩, ⟨(some 32), (.mov (.tmp 2)), (some (31, false))⟩, ⟨(some 33), (.mov (.tmp 7)), (some (31, false))⟩, ⟨(some 34), (.len .sl (.tmp 33)), (some (31, false))⟩, ⟨(some 35), (.bin .geq .none (.tmp 32) (.tmp 34)), (some (31, false))⟩, ⟨(some 36), (.pick (.tmp 31) (.const (.bool true)) (.tmp 35)), none⟩]) (.cond (.tmp 36) (.seq (.reg [⟨(some 6), (.mov (.const (.bool true))), none⟩]) .ret) .skip)) (.seq (.seq (.reg [⟨(some 10), (.mov (.const (.int .i64 0))), none⟩]) (.block 0 (.loop (.seq (.seq (.reg [⟨(some 37), (.mov (.tmp 10)), none⟩, ⟨(some 38), (.bin .add .none (.tmp 37) (.const (.int .i64 1))), none⟩, ⟨(some 39), (.mov (.tmp 1)), none⟩, ⟨(some 40), (.len .str (.tmp 39)), none⟩, ⟨(some 41), (.bin .lss .none (.tmp 38) (.tmp 40)), none⟩]) (.cond (.tmp 41) .skip (.exit 0))) (.seq (.block 1 (.seq (.reg [⟨(some 44), (.mov (.tmp 1)), none⟩, ⟨(some 45), (.mov (.tmp 10)), none⟩, ⟨(some 46), (.mov (.tmp 10)), none⟩, ⟨(some 47), (.bin .add .none (.tmp 46) (.const (.int .i64 2))), none⟩, ⟨(some 48), (.sliceStr (.tmp 44) (some (.tmp 45)) (some (.tmp 47))), none⟩, ⟨(some 49), (.bin .eql .none (.tmp 48) (.const (.str [40, 42]))), none⟩, ⟨(some 50), (.mov (.tmp 49)), none⟩, ⟨(some 51), (.mov (.tmp 1)), (some (50, false))⟩, ⟨(some 52), (.mov (.tmp 10)), (some (50, false))⟩, ⟨(some 53), (.mov (.tmp 10)), (some (50, false))⟩, ⟨(some 54), (.bin .add .none (.tmp 53) (.const (.int .i64 2))), (some (50, false))⟩, ⟨(some 55), (.sliceStr (.tmp 51) (some (.tmp 52)) (some (.tmp 54))), (some (50, false))⟩, ⟨(some 56), (.bin .eql .none (.tmp 55) (.const (.str [42, 41]))), (some (50, false))⟩, ⟨(some 57), (.pick (.tmp 50) (.const (.bool true)) (.tmp 56)), none⟩]) (.cond (.tmp 57) (.seq (.reg [⟨(some 6), (.mov (.const (.bool true))), none⟩]) .ret) .skip))) (.reg [⟨(some 42), (.mov (.tmp 10)), none⟩, ⟨(some 43), (.bin .add .none (.tmp 42) (.const (.int .i64 1))), none⟩, ⟨(some 10), (.mov (.tmp 43)), none⟩])))))) (.seq (.reg [⟨(some 58), (.mov (.tmp 1)), none⟩, ⟨(some 59), (.bin .add .none (.const (.str [32, 40, 42, 32])) (.tmp 58)), none⟩, ⟨(some 60), (.bin .add .none (.tmp 59) (.const (.str [32, 42, 41, 10]))), none⟩, ⟨(some 11), (.mov (.tmp 60)), none⟩]) (.seq (.dreg [(0, ⟨(some 61), (.mov (.tmp 0)), none⟩), (0, ⟨(some 62), (.mov (.tmp 7)), none⟩), (0, ⟨(some 63), (.mov (.tmp 2)), none⟩), (0, ⟨(some 64), (.idxAddr 4 (.tmp 62) (.tmp 63)), none⟩), (0, ⟨(some 65), (.fieldAddr 1 (.tmp 64)), none⟩), (0, ⟨(some 66), (.load false 1 (.tmp 65)), none⟩), (0, ⟨(some 67), (.sliceStr (.tmp 61) none (some (.tmp 66))), none⟩), (0, ⟨(some 68), (.mov (.tmp 11)), none⟩), (0, ⟨(some 69), (.bin .add .none (.tmp 67) (.tmp 68)), none⟩), (0, ⟨(some 70), (.mov (.tmp 0)), none⟩), (0, ⟨(some 71), (.mov (.tmp 7)), none⟩), (0, ⟨(some 72), (.mov (.tmp 2)), none⟩), (0, ⟨(some 73), (.idxAddr 4 (.tmp 71) (.tmp 72)), none⟩), (0, ⟨(some 74), (.fieldAddr 1 (.tmp 73)), none⟩), (0, ⟨(some 75), (.load false 1 (.tmp 74)), none⟩), (0, ⟨(some 76), (.sliceStr (.tmp 70) (some (.tmp 75)) none), none⟩), (0, ⟨(some 77), (.bin .add .none (.tmp 69) (.tmp 76)), none⟩), (2, ⟨(some 12), (.mov (.tmp 77)), none⟩)]) (.seq (.reg [⟨(some 79), (.mov (.tmp 12)), none⟩, ⟨(some 80), (.call 14 [(.tmp 79)]), none⟩, ⟨(some 78), (.mov (.tmp 80)), none⟩, ⟨(some 81), (.extract (.tmp 78) 0), none⟩, ⟨(some 82), (.extract (.tmp 78) 1), none⟩, ⟨(some 83), (.extract (.tmp 78) 2), none⟩, ⟨(some 13), (.mov (.tmp 81)), none⟩, ⟨(some 14), (.mov (.tmp 82)), none⟩, ⟨(some 15), (.mov (.tmp 83)), none⟩]) (.seq (.seq (.reg [⟨(some 84), (.mov (.tmp 14)), none⟩, ⟨(some 85), (.bin .neq .none (.tmp 84) (.const (.int .i64 0))), none⟩]) (.cond (.tmp 85) (.seq (.reg [⟨(some 86), (.mov (.tmp 14)), none⟩, ⟨(some 87), (.bin .eql .none (.tmp 86) (.const (.int .i64 4))), none⟩, ⟨(some 88), (.mov (.tmp 87)), none⟩, ⟨(some 89), (.mov (.tmp 12)), (some (88, true))⟩, ⟨(some 90), (.len .str (.tmp 89)), (some (88, true))⟩, ⟨(some 91), (.bin .gtr .none (.tmp 90) (.const (.int .i64 4096))), (some (88, true))⟩, ⟨(some 92), (.pick (.tmp 88) (.tmp 91) (.const (.bool false))), none⟩, ⟨(some 6), (.mov (.tmp 92)), none⟩]) .ret) .skip)) (.seq (.seq (.reg [⟨(some 93), (.mov (.tmp 13)), none⟩, ⟨(some 94), (.len .sl (.tmp 93)), none⟩, ⟨(some 95), (.mov (.tmp 7)), none⟩, ⟨(some 96), (.len .sl (.tmp 95)), none⟩, ⟨(some 97), (.bin .neq .none (.tmp 94) (.tmp 96)), none⟩]) (.cond (.tmp 97) (.seq (.reg [⟨(some 6), (.mov (.const (.bool false))), none⟩]) .ret) .skip)) (.seq (.seq (.reg [⟨(some 98), (.mov (.tmp 13)), none⟩, ⟨(some 99), (.len .sl (.tmp 98)), none⟩, ⟨(some 100), (.mov (.const (.int .i64 0))), none⟩]) (.block 2 (.loop (.seq (.reg [⟨(some 101), (.bin .lss .none (.tmp 100) (.tmp 99)), none⟩]) (.seq (.cond (.tmp 101) .skip (.exit 2)) (.seq (.block 3 (.seq (.reg [⟨(some 102), (.mov (.tmp 100)), none⟩, ⟨(some 16), (.mov (.tmp 102)), none⟩]) (.seq (.reg [⟨(some 103), (.mov (.tmp 16)), none⟩, ⟨(some 104), (.mov (.tmp 2)), none⟩, ⟨(some 105), (.bin .geq .none (.tmp 103) (.tmp 104)), none⟩]) (.cond (.tmp 105) (.reg [⟨(some 106), (.mov (.tmp 13)), none⟩, ⟨(some 107), (.mov (.tmp 16)), none⟩, ⟨(some 108), (.idxAddr 4 (.tmp 106) (.tmp 107)), none⟩, ⟨(some 109), (.fieldAddr 1 (.tmp 108)), none⟩, ⟨(some 110), (.load false 1 (.tmp 109)), none⟩, ⟨(some 111), (.mov (.tmp 11)), none⟩, ⟨(some 112), (.len .str (.tmp 111)), none⟩, ⟨(some 113), (.bin .sub .none (.tmp 110) (.tmp 112)), none⟩, ⟨(some 114), (.idxAddr 4 (.tmp 106) (.tmp 107)), none⟩, ⟨(some 115), (.fieldAddr 1 (.tmp 114)), none⟩, ⟨none, (.store 1 (.tmp 115) (.tmp 113)), none⟩]) .skip)))) (.reg [⟨(some 116), (.bin .add .none (.tmp 100) (.const (.int .i64 1))), none⟩, ⟨(some 100), (.mov (.tmp 116)), none⟩]))))))) (.seq (.reg [⟨(some 117), (.mov (.tmp 13)), none⟩, ⟨(some 118), (.mov (.tmp 7)), none⟩, ⟨(some 119), (.call 15 [(.tmp 117), (.tmp 118)]), none⟩, ⟨(some 6), (.mov (.tmp 119)), none⟩]) .ret)))))))))))), [(.tmp 6)]⟩
theorem c_gaps_ok : cFun Tryd.prog Tryd.f6 = some c_gaps := by kernel_rfl

theorem lexA_shape (s : List UInt8) : ∃ x e p, lexA s = .tup [x, .int .i64 e, .int .i64 p] := by
  unfold lexA
  split
  · exact ⟨_, _, _, rfl⟩
  · split <;> exact ⟨_, _, _, rfl⟩
theorem lexA_bad {s : List UInt8} (h : ¬ ∃ ts, ¬ 4096 < s.length ∧ lexAll s = .ok ts) : ∃ e p : Int, e ≠ 0 ∧ lexA s = .tup [.nils, .int .i64 e, .int .i64 p] := by
  by_cases hb : 4096 < s.length
  · exact ⟨4, 0, by decide, lexA_big hb⟩
  · cases hl : lexAll s with
    | ok ts => exact absurd ⟨ts, hb, hl⟩ h
    | error p => exact ⟨_, _, by have := lexAll_err hl; omega, lexA_err hb hl⟩
theorem lexAll_pl {s : List UInt8} {ts : List Tk} (h : lexAll s = .ok ts) : ∀ t ∈ ts, t.2.1 ≤ s.length := by
  obtain ⟨us, h1, rfl⟩ := lexAll_rd.1 h
  intro t ht
  obtain ⟨u, _, rfl⟩ := List.mem_map.1 ht
  show s.length - u.2.1 ≤ s.length
  omega

theorem noMarks_of : ∀ (l : List UInt8), (∀ m, (l.drop m).take 2 ≠ [40, 42] ∧ (l.drop m).take 2 ≠ [42, 41]) → NoMarks l
  | [], _ => trivial
  | [a], _ => trivial
  | a :: b :: r, h => by
    obtain ⟨h1, h2⟩ := h 0
    refine ⟨?_, ?_, noMarks_of (b :: r) (fun m => by simpa using h (m + 1))⟩
    · refine Bool.eq_false_iff.2 fun q => h1 ?_
      simp only [Bool.and_eq_true, beq_iff_eq] at q
      rw [q.1, q.2]; rfl
    · refine Bool.eq_false_iff.2 fun q => h2 ?_
      simp only [Bool.and_eq_true, beq_iff_eq] at q
      rw [q.1, q.2]; rfl

/-- Tokens, some of which are told by one list, the others by another one. -/
theorem mix_same {L L' : List Tk} {q : Nat} {u : Tk} (h : L[q]? = some u) (h' : L'[q]? = some u) : L.take q ++ L'.drop q = L.take (q + 1) ++ L'.drop (q + 1) := by
  have hq : q < L'.length := (List.getElem?_eq_some_iff.1 h').1
  rw [List.take_add_one, h, List.drop_eq_getElem_cons hq]
  have : L'[q] = u := (List.getElem?_eq_some_iff.1 h').2
  rw [this]
  simp
theorem mix_set {L L' : List Tk} {q : Nat} {u : Tk} (h : L[q]? = some u) (hq : q < L'.length) : (L.take q ++ L'.drop q).set q u = L.take (q + 1) ++ L'.drop (q + 1) := by
  have hl : q < L.length := (List.getElem?_eq_some_iff.1 h).1
  rw [List.set_append_right _ _ (by rw [List.length_take]; omega), List.length_take, Nat.min_eq_left (by omega), Nat.sub_self, List.drop_eq_getElem_cons hq, List.set_cons_zero, List.take_add_one, h]
  simp
theorem mix_at {L L' : List Tk} {q : Nat} {v : Tk} (h : L'[q]? = some v) (hl : q < L.length) : (L.take q ++ L'.drop q)[q]? = some v := by
  rw [List.getElem?_append_right (by rw [List.length_take]; omega), List.length_take, Nat.min_eq_left (by omega), Nat.sub_self, List.getElem?_drop]
  simpa using h
theorem mix_len {L L' : List Tk} {q : Nat} (h : L'.length = L.length) (hq : q ≤ L.length) : (L.take q ++ L'.drop q).length = L.length := by
  rw [List.length_append, List.length_take, List.length_drop]; omega

section
attribute [local irreducible] Bc ACallsW ALoop Fin St.set St.new Dc
set_option maxHeartbeats 4000000 in
theorem gaps_ok (s say : List UInt8) (at_ : Int) (hs : s.length ≤ 140737488355328) (hsay : say.length ≤ 140737488355328) (hat : -9223372036854775808 ≤ at_ ∧ at_ < 9223372036854775808) (σ : St) (hB : B0 σ.base) :
    ACalls Tryd.prog 6 [.str s, .str say, .int .i64 at_] σ (fun id _ => σ.n ≤ id) (fun e σ' => e = .ret (.bool true)) := by
  refine acalls_go mixed Tryd.func6 c_gaps_ok (Nat.le_of_ble_eq_true rfl) ?_
  conv => whnf
  refine ACallsW.of (awake_ok _ hB Non) (fun _ _ _ h => h.elim) ?_
  rintro _ σ1 _ ⟨e1, rfl⟩
  have e2 := e1.symm
  subst e2
  conv => whnf
  repeat' (first
    | (refine Bc_t ?_; conv => whnf) | (refine Bc_f ?_; conv => whnf) | (rw [g1]; conv => whnf) | (rw [g2]; conv => whnf) | (rw [g3]; conv => whnf) | (rw [g4]; conv => whnf)
    | (rw [g5]; conv => whnf) | (rw [g6]; conv => whnf) | (rw [g7]; conv => whnf) | (rw [hr]; conv => whnf)
    | (refine And.intro (by first | omega | assumption | (simp only [St.set_n, St.new_n] at *; omega) | (simp; done) | (simp; omega) | (intro _ _; first | assumption | (simp only [St.set_n, St.new_n] at *; omega)) | (intro _; exact trivial) | (intro _; intro _ _; exact trivial) | (intro _; intro j hj; rfl)) ?_; conv => whnf)
    | (refine Dc.mk (by first | rfl | assumption | exact Nat.le_refl _ | exact Nat.le_of_ble_eq_true rfl | omega | (simp; done)) ?_; conv => whnf)
    | (rw [St.set_same]; conv => whnf) | (rw [St.new_same]; conv => whnf)
    | (rw [St.set_ne _ _ (by first | assumption | omega | (simp only [St.set_n, St.new_n] at *; omega))]; conv => whnf)
    | (rw [St.new_ne _ _ (by first | assumption | omega | (simp only [St.set_n, St.new_n] at *; omega))]; conv => whnf))
  refine ACallsW.of (lex_ok s _ hB Non) (fun _ _ _ h => h.elim) ?_
  rintro _ σ1 _ ⟨e1, rfl⟩
  have e2 := e1.symm
  subst e2
  by_cases hA : ∃ x, ¬ 4096 < s.length ∧ lexAll s = .ok x
  rotate_left 1
  · obtain ⟨e, p, he, h1⟩ := lexA_bad hA
    rw [h1]
    have g1 : (e != 0) = true := by simpa using he
    conv => whnf
    repeat' (first
      | (refine Bc_t ?_; conv => whnf) | (refine Bc_f ?_; conv => whnf) | (rw [g1]; conv => whnf) | (rw [g2]; conv => whnf) | (rw [g3]; conv => whnf) | (rw [g4]; conv => whnf)
      | (rw [g5]; conv => whnf) | (rw [g6]; conv => whnf) | (rw [g7]; conv => whnf) | (rw [hr]; conv => whnf)
      | (refine And.intro (by first | omega | assumption | (simp only [St.set_n, St.new_n] at *; omega) | (simp; done) | (simp; omega) | (intro _ _; first | assumption | (simp only [St.set_n, St.new_n] at *; omega)) | (intro _; exact trivial) | (intro _; intro _ _; exact trivial) | (intro _; intro j hj; rfl)) ?_; conv => whnf)
      | (refine Dc.mk (by first | rfl | assumption | exact Nat.le_refl _ | exact Nat.le_of_ble_eq_true rfl | omega | (simp; done)) ?_; conv => whnf)
      | (rw [St.set_same]; conv => whnf) | (rw [St.new_same]; conv => whnf)
      | (rw [St.set_ne _ _ (by first | assumption | omega | (simp only [St.set_n, St.new_n] at *; omega))]; conv => whnf)
      | (rw [St.new_ne _ _ (by first | assumption | omega | (simp only [St.set_n, St.new_n] at *; omega))]; conv => whnf))
    exact Fin.of rfl
  obtain ⟨ts, hls, hx⟩ := hA
  rw [lexA_ok hls hx]
  by_cases h0 : at_ < 0
  · have g1 : decide (at_ < 0) = true := decide_eq_true h0
    conv => whnf
    repeat' (first
      | (refine Bc_t ?_; conv => whnf) | (refine Bc_f ?_; conv => whnf) | (rw [g1]; conv => whnf) | (rw [g2]; conv => whnf) | (rw [g3]; conv => whnf) | (rw [g4]; conv => whnf)
      | (rw [g5]; conv => whnf) | (rw [g6]; conv => whnf) | (rw [g7]; conv => whnf) | (rw [hr]; conv => whnf)
      | (refine And.intro (by first | omega | assumption | (simp only [St.set_n, St.new_n] at *; omega) | (simp; done) | (simp; omega) | (intro _ _; first | assumption | (simp only [St.set_n, St.new_n] at *; omega)) | (intro _; exact trivial) | (intro _; intro _ _; exact trivial) | (intro _; intro j hj; rfl)) ?_; conv => whnf)
      | (refine Dc.mk (by first | rfl | assumption | exact Nat.le_refl _ | exact Nat.le_of_ble_eq_true rfl | omega | (simp; done)) ?_; conv => whnf)
      | (rw [St.set_same]; conv => whnf) | (rw [St.new_same]; conv => whnf)
      | (rw [St.set_ne _ _ (by first | assumption | omega | (simp only [St.set_n, St.new_n] at *; omega))]; conv => whnf)
      | (rw [St.new_ne _ _ (by first | assumption | omega | (simp only [St.set_n, St.new_n] at *; omega))]; conv => whnf))
    exact Fin.of rfl
  have g1 : decide (at_ < 0) = false := decide_eq_false h0
  obtain ⟨i, rfl⟩ : ∃ j : Nat, at_ = j := ⟨at_.toNat, by omega⟩
  by_cases h1 : i < (ts ++ [endTk s]).length
  rotate_left 1
  · have g2 : decide ((i : Int) ≥ ((ts ++ [endTk s]).map tkA).length) = true := by rw [List.length_map]; exact decide_eq_true (by omega)
    conv => whnf
    repeat' (first
      | (refine Bc_t ?_; conv => whnf) | (refine Bc_f ?_; conv => whnf) | (rw [g1]; conv => whnf) | (rw [g2]; conv => whnf) | (rw [g3]; conv => whnf) | (rw [g4]; conv => whnf)
      | (rw [g5]; conv => whnf) | (rw [g6]; conv => whnf) | (rw [g7]; conv => whnf) | (rw [hr]; conv => whnf)
      | (refine And.intro (by first | omega | assumption | (simp only [St.set_n, St.new_n] at *; omega) | (simp; done) | (simp; omega) | (intro _ _; first | assumption | (simp only [St.set_n, St.new_n] at *; omega)) | (intro _; exact trivial) | (intro _; intro _ _; exact trivial) | (intro _; intro j hj; rfl)) ?_; conv => whnf)
      | (refine Dc.mk (by first | rfl | assumption | exact Nat.le_refl _ | exact Nat.le_of_ble_eq_true rfl | omega | (simp; done)) ?_; conv => whnf)
      | (rw [St.set_same]; conv => whnf) | (rw [St.new_same]; conv => whnf)
      | (rw [St.set_ne _ _ (by first | assumption | omega | (simp only [St.set_n, St.new_n] at *; omega))]; conv => whnf)
      | (rw [St.new_ne _ _ (by first | assumption | omega | (simp only [St.set_n, St.new_n] at *; omega))]; conv => whnf))
    exact Fin.of rfl
  have g2 : decide ((i : Int) ≥ ((ts ++ [endTk s]).map tkA).length) = false := by rw [List.length_map]; exact decide_eq_false (by omega)
  have htl := lexAll_len hx
  conv => whnf
  repeat' (first
    | (refine Bc_t ?_; conv => whnf) | (refine Bc_f ?_; conv => whnf) | (rw [g1]; conv => whnf) | (rw [g2]; conv => whnf) | (rw [g3]; conv => whnf) | (rw [g4]; conv => whnf)
    | (rw [g5]; conv => whnf) | (rw [g6]; conv => whnf) | (rw [g7]; conv => whnf) | (rw [hr]; conv => whnf)
    | (refine And.intro (by first | omega | assumption | (simp only [St.set_n, St.new_n] at *; omega) | (simp; done) | (simp; omega) | (intro _ _; first | assumption | (simp only [St.set_n, St.new_n] at *; omega)) | (intro _; exact trivial) | (intro _; intro _ _; exact trivial) | (intro _; intro j hj; rfl)) ?_; conv => whnf)
    | (refine Dc.mk (by first | rfl | assumption | exact Nat.le_refl _ | exact Nat.le_of_ble_eq_true rfl | omega | (simp; done)) ?_; conv => whnf)
    | (rw [St.set_same]; conv => whnf) | (rw [St.new_same]; conv => whnf)
    | (rw [St.set_ne _ _ (by first | assumption | omega | (simp only [St.set_n, St.new_n] at *; omega))]; conv => whnf)
    | (rw [St.new_ne _ _ (by first | assumption | omega | (simp only [St.set_n, St.new_n] at *; omega))]; conv => whnf))
  clear g1 g2
  unfold ALoop
  refine ⟨fun k env σ1 => ∃ n : Nat, k = say.length - n ∧ n ≤ say.length ∧ (∀ m, m < n → (say.drop m).take 2 ≠ [40, 42] ∧ (say.drop m).take 2 ≠ [42, 41]) ∧ σ1 = σ ∧
      env = [(0, .str s), (1, .str say), (2, .int .i64 i), (7, .sl .no 4 ((ts ++ [endTk s]).map tkA)), (10, .int .i64 n)], _,
    [(0, .str s), (1, .str say), (2, .int .i64 i), (7, .sl .no 4 ((ts ++ [endTk s]).map tkA)), (10, .int .i64 0)], ⟨rfl, rfl, rfl, rfl, rfl, trivial⟩, ⟨0, rfl, by omega, fun m hm => by omega, rfl, rfl⟩, ?_⟩
  rintro k env σ1 ⟨n, rfl, hn, hno, rfl, rfl⟩
  have hw1 : IntKind.i64.wrap ((n : Int) + 1) = ((n + 1 : Nat) : Int) := by rw [w64 (by omega) (by omega)]; omega
  have hw2 : IntKind.i64.wrap ((n : Int) + 2) = ((n + 2 : Nat) : Int) := by rw [w64 (by omega) (by omega)]; omega
  by_cases hlt : n + 1 < say.length
  · have g1 : decide (((n + 1 : Nat) : Int) < say.length) = true := decide_eq_true (by omega)
    have g2 := hw1
    have hr := hw2
    have hpair : (say.take (n + 2)).drop n = (say.drop n).take 2 := by rw [List.drop_take, show n + 2 - n = 2 by omega]
    by_cases p1 : (say.drop n).take 2 = [40, 42]
    · have g3 : (List.drop (n : Int).toNat (List.take ((n + 2 : Nat) : Int).toNat say) == [40, 42]) = true := by show ((say.take (n + 2)).drop n == _) = true; rw [hpair, p1]; rfl
      conv => whnf
      repeat' (first
        | (refine Bc_t ?_; conv => whnf) | (refine Bc_f ?_; conv => whnf) | (rw [g1]; conv => whnf) | (rw [g2]; conv => whnf) | (rw [g3]; conv => whnf) | (rw [g4]; conv => whnf)
        | (rw [g5]; conv => whnf) | (rw [g6]; conv => whnf) | (rw [g7]; conv => whnf) | (rw [hr]; conv => whnf)
        | (refine And.intro (by first | omega | assumption | (simp only [St.set_n, St.new_n] at *; omega) | (simp; done) | (simp; omega) | (intro _ _; first | assumption | (simp only [St.set_n, St.new_n] at *; omega)) | (intro _; exact trivial) | (intro _; intro _ _; exact trivial) | (intro _; intro j hj; rfl)) ?_; conv => whnf)
        | (refine Dc.mk (by first | rfl | assumption | exact Nat.le_refl _ | exact Nat.le_of_ble_eq_true rfl | omega | (simp; done)) ?_; conv => whnf)
        | (rw [St.set_same]; conv => whnf) | (rw [St.new_same]; conv => whnf)
        | (rw [St.set_ne _ _ (by first | assumption | omega | (simp only [St.set_n, St.new_n] at *; omega))]; conv => whnf)
        | (rw [St.new_ne _ _ (by first | assumption | omega | (simp only [St.set_n, St.new_n] at *; omega))]; conv => whnf))
      exact Fin.of rfl
    have g3 : (List.drop (n : Int).toNat (List.take ((n + 2 : Nat) : Int).toNat say) == [40, 42]) = false := by show ((say.take (n + 2)).drop n == _) = false; rw [hpair]; exact beq_eq_false_iff_ne.2 p1
    by_cases p2 : (say.drop n).take 2 = [42, 41]
    · have g4 : (List.drop (n : Int).toNat (List.take ((n + 2 : Nat) : Int).toNat say) == [42, 41]) = true := by show ((say.take (n + 2)).drop n == _) = true; rw [hpair, p2]; rfl
      conv => whnf
      repeat' (first
        | (refine Bc_t ?_; conv => whnf) | (refine Bc_f ?_; conv => whnf) | (rw [g1]; conv => whnf) | (rw [g2]; conv => whnf) | (rw [g3]; conv => whnf) | (rw [g4]; conv => whnf)
        | (rw [g5]; conv => whnf) | (rw [g6]; conv => whnf) | (rw [g7]; conv => whnf) | (rw [hr]; conv => whnf)
        | (refine And.intro (by first | omega | assumption | (simp only [St.set_n, St.new_n] at *; omega) | (simp; done) | (simp; omega) | (intro _ _; first | assumption | (simp only [St.set_n, St.new_n] at *; omega)) | (intro _; exact trivial) | (intro _; intro _ _; exact trivial) | (intro _; intro j hj; rfl)) ?_; conv => whnf)
        | (refine Dc.mk (by first | rfl | assumption | exact Nat.le_refl _ | exact Nat.le_of_ble_eq_true rfl | omega | (simp; done)) ?_; conv => whnf)
        | (rw [St.set_same]; conv => whnf) | (rw [St.new_same]; conv => whnf)
        | (rw [St.set_ne _ _ (by first | assumption | omega | (simp only [St.set_n, St.new_n] at *; omega))]; conv => whnf)
        | (rw [St.new_ne _ _ (by first | assumption | omega | (simp only [St.set_n, St.new_n] at *; omega))]; conv => whnf))
      exact Fin.of rfl
    have g4 : (List.drop (n : Int).toNat (List.take ((n + 2 : Nat) : Int).toNat say) == [42, 41]) = false := by show ((say.take (n + 2)).drop n == _) = false; rw [hpair]; exact beq_eq_false_iff_ne.2 p2
    conv => whnf
    repeat' (first
      | (refine Bc_t ?_; conv => whnf) | (refine Bc_f ?_; conv => whnf) | (rw [g1]; conv => whnf) | (rw [g2]; conv => whnf) | (rw [g3]; conv => whnf) | (rw [g4]; conv => whnf)
      | (rw [g5]; conv => whnf) | (rw [g6]; conv => whnf) | (rw [g7]; conv => whnf) | (rw [hr]; conv => whnf)
      | (refine And.intro (by first | omega | assumption | (simp only [St.set_n, St.new_n] at *; omega) | (simp; done) | (simp; omega) | (intro _ _; first | assumption | (simp only [St.set_n, St.new_n] at *; omega)) | (intro _; exact trivial) | (intro _; intro _ _; exact trivial) | (intro _; intro j hj; rfl)) ?_; conv => whnf)
      | (refine Dc.mk (by first | rfl | assumption | exact Nat.le_refl _ | exact Nat.le_of_ble_eq_true rfl | omega | (simp; done)) ?_; conv => whnf)
      | (rw [St.set_same]; conv => whnf) | (rw [St.new_same]; conv => whnf)
      | (rw [St.set_ne _ _ (by first | assumption | omega | (simp only [St.set_n, St.new_n] at *; omega))]; conv => whnf)
      | (rw [St.new_ne _ _ (by first | assumption | omega | (simp only [St.set_n, St.new_n] at *; omega))]; conv => whnf))
    refine ⟨_, [(0, .str s), (1, .str say), (2, .int .i64 i), (7, .sl .no 4 ((ts ++ [endTk s]).map tkA)), (10, .int .i64 (n + 1 : Nat))], ?_, ⟨rfl, rfl, rfl, rfl, rfl, trivial⟩, n + 1, rfl, by omega, fun m hm => ?_, rfl, rfl⟩
    · omega
    · rcases Nat.lt_or_ge m n with q | q
      · exact hno m q
      · obtain rfl : m = n := by omega
        exact ⟨p1, p2⟩
  have hmk : NoMarks say := noMarks_of say fun m => by
    rcases Nat.lt_or_ge m n with q | q
    · exact hno m q
    · have hlen : ((say.drop m).take 2).length ≤ 1 := by rw [List.length_take, List.length_drop]; omega
      exact ⟨fun w => by rw [w] at hlen; simp at hlen, fun w => by rw [w] at hlen; simp at hlen⟩
  obtain ⟨t, ht⟩ : ∃ t, (ts ++ [endTk s])[i]? = some t := ⟨_, List.getElem?_eq_getElem h1⟩
  have hi : i ≤ ts.length := by simp at h1; omega
  obtain ⟨c1, c2⟩ := gaps hx hmk i hi t.2.1 (by show ((ts ++ [endTk s])[i]?).map _ = _; rw [ht]; rfl)
  have g1 : decide (((n + 1 : Nat) : Int) < say.length) = false := decide_eq_false (by omega)
  have g2 := hw1
  have g3 : ((ts ++ [endTk s]).map tkA)[(i : Int).toNat]? = some (tkA t) := by show ((ts ++ [endTk s]).map tkA)[i]? = _; rw [List.getElem?_map, ht]; rfl
  have hr : List.drop (t.2.1 : Int).toNat (List.take s.length s) = s.drop t.2.1 := by rw [List.take_length]; rfl
  have q1 : (List.drop 0 (List.take (t.2.1 : Int).toNat s)).length ≤ 4096 := by rw [List.drop_zero, List.length_take]; omega
  conv => whnf
  repeat' (first
    | (refine Bc_t ?_; conv => whnf) | (refine Bc_f ?_; conv => whnf) | (rw [g1]; conv => whnf) | (rw [g2]; conv => whnf) | (rw [g3]; conv => whnf) | (rw [g4]; conv => whnf)
    | (rw [g5]; conv => whnf) | (rw [g6]; conv => whnf) | (rw [g7]; conv => whnf) | (rw [hr]; conv => whnf)
    | (refine And.intro (by first | omega | assumption | (simp only [St.set_n, St.new_n] at *; omega) | (simp; done) | (simp; omega) | (intro _ _; first | assumption | (simp only [St.set_n, St.new_n] at *; omega)) | (intro _; exact trivial) | (intro _; intro _ _; exact trivial) | (intro _; intro j hj; rfl)) ?_; conv => whnf)
    | (refine Dc.mk (by first | rfl | assumption | exact Nat.le_refl _ | exact Nat.le_of_ble_eq_true rfl | omega | (simp; done)) ?_; conv => whnf)
    | (rw [St.set_same]; conv => whnf) | (rw [St.new_same]; conv => whnf)
    | (rw [St.set_ne _ _ (by first | assumption | omega | (simp only [St.set_n, St.new_n] at *; omega))]; conv => whnf)
    | (rw [St.new_ne _ _ (by first | assumption | omega | (simp only [St.set_n, St.new_n] at *; omega))]; conv => whnf))
  have hOwn : List.drop 0 (List.take (t.2.1 : Int).toNat s) ++ ([32, 40, 42, 32] ++ say ++ [32, 42, 41, 10]) ++ List.drop t.2.1 s = s.take t.2.1 ++ more say ++ s.drop t.2.1 := rfl
  generalize List.drop 0 (List.take (t.2.1 : Int).toNat s) ++ ([32, 40, 42, 32] ++ say ++ [32, 42, 41, 10]) ++ List.drop t.2.1 s = own at hOwn ⊢
  have hMo : ([32, 40, 42, 32] ++ say ++ [32, 42, 41, 10]) = more say := rfl
  rw [← hOwn] at c2
  have hol : own.length = s.length + (more say).length := by rw [hOwn, List.length_append, List.length_append, List.length_take, List.length_drop]; omega
  generalize [32, 40, 42, 32] ++ say ++ [32, 42, 41, 10] = mo at hMo ⊢
  rw [← hMo] at c2 hol
  clear hr q1 g1 g2 g3
  by_cases hbig : 4096 < own.length
  · refine ACallsW.of (lex_ok own _ hB Non) (fun _ _ _ h => h.elim) ?_
    rintro _ σ2 _ ⟨e1, rfl⟩
    have e2 := e1.symm
    subst e2
    rw [lexA_big hbig]
    have g1 : decide ((own.length : Int) > 4096) = true := decide_eq_true (by omega)
    conv => whnf
    repeat' (first
      | (refine Bc_t ?_; conv => whnf) | (refine Bc_f ?_; conv => whnf) | (rw [g1]; conv => whnf) | (rw [g2]; conv => whnf) | (rw [g3]; conv => whnf) | (rw [g4]; conv => whnf)
      | (rw [g5]; conv => whnf) | (rw [g6]; conv => whnf) | (rw [g7]; conv => whnf) | (rw [hr]; conv => whnf)
      | (refine And.intro (by first | omega | assumption | (simp only [St.set_n, St.new_n] at *; omega) | (simp; done) | (simp; omega) | (intro _ _; first | assumption | (simp only [St.set_n, St.new_n] at *; omega)) | (intro _; exact trivial) | (intro _; intro _ _; exact trivial) | (intro _; intro j hj; rfl)) ?_; conv => whnf)
      | (refine Dc.mk (by first | rfl | assumption | exact Nat.le_refl _ | exact Nat.le_of_ble_eq_true rfl | omega | (simp; done)) ?_; conv => whnf)
      | (rw [St.set_same]; conv => whnf) | (rw [St.new_same]; conv => whnf)
      | (rw [St.set_ne _ _ (by first | assumption | omega | (simp only [St.set_n, St.new_n] at *; omega))]; conv => whnf)
      | (rw [St.new_ne _ _ (by first | assumption | omega | (simp only [St.set_n, St.new_n] at *; omega))]; conv => whnf))
    exact Fin.of rfl
  refine ACallsW.of (lex_own own _ hbig c2 _ hB) (fun _ _ _ h => h.elim) ?_
  rintro _ σ2 _ ⟨hσ2, rfl⟩
  have hob : σ2.obj σ1.n = .cells (flat ((((ts.take i ++ (ts.drop i).map fun t => (t.1, t.2.1 + mo.length, t.2.2)) ++ [endTk own]).map tkA))) := by rw [hσ2]; exact St.new_same _ _
  have hn2 : σ2.n = σ1.n + 1 := by rw [hσ2, St.new_n]
  clear hσ2
  generalize hL' : (ts.take i ++ (ts.drop i).map fun t => (t.1, t.2.1 + mo.length, t.2.2)) ++ [endTk own] = L' at hob ⊢
  have hLs : L' = (ts ++ [endTk s]).take i ++ ((ts ++ [endTk s]).drop i).map fun t => (t.1, t.2.1 + mo.length, t.2.2) := by
    rw [← hL', List.take_append_of_le_length hi, List.drop_append_of_le_length hi, List.map_append, List.append_assoc]
    congr 2
    show [endTk own] = [(0, s.length + mo.length, 0, [])]
    unfold endTk
    rw [hol]
  have hpl : ∀ u ∈ ts ++ [endTk s], u.2.1 ≤ s.length := fun u hu => by
    rcases List.mem_append.1 hu with q | q
    · exact lexAll_pl hx u q
    · rw [List.mem_singleton.1 q]; exact Nat.le_refl _
  have hLl : (ts ++ [endTk s]).length = ts.length + 1 := by simp
  generalize ts ++ [endTk s] = L at h1 hLs ht hpl hLl ⊢
  have hll : L'.length = L.length := by rw [hLs, List.length_append, List.length_take, List.length_map, List.length_drop]; omega
  have hmo : mo.length ≤ 4096 := by omega
  have hL'at : ∀ q u, L[q]? = some u → (q < i → L'[q]? = some u) ∧ (i ≤ q → L'[q]? = some (u.1, u.2.1 + mo.length, u.2.2)) := by
    intro q u hq
    rw [hLs]
    refine ⟨fun w => ?_, fun w => ?_⟩
    · rw [List.getElem?_append_left (by rw [List.length_take]; omega), List.getElem?_take_of_lt w, hq]
    · rw [List.getElem?_append_right (by rw [List.length_take]; omega), List.length_take, Nat.min_eq_left (by omega), List.getElem?_map, List.getElem?_drop, show i + (q - i) = q by omega, hq]
      rfl
  have g1 : ((L'.length : Int) != ((L.map tkA).length : Int)) = false := by rw [List.length_map, hll]; simp
  conv => whnf
  repeat' (first
    | (refine Bc_t ?_; conv => whnf) | (refine Bc_f ?_; conv => whnf) | (rw [g1]; conv => whnf) | (rw [g2]; conv => whnf) | (rw [g3]; conv => whnf) | (rw [g4]; conv => whnf)
    | (rw [g5]; conv => whnf) | (rw [g6]; conv => whnf) | (rw [g7]; conv => whnf) | (rw [hr]; conv => whnf)
    | (refine And.intro (by first | omega | assumption | (simp only [St.set_n, St.new_n] at *; omega) | (simp; done) | (simp; omega) | (intro _ _; first | assumption | (simp only [St.set_n, St.new_n] at *; omega)) | (intro _; exact trivial) | (intro _; intro _ _; exact trivial) | (intro _; intro j hj; rfl)) ?_; conv => whnf)
    | (refine Dc.mk (by first | rfl | assumption | exact Nat.le_refl _ | exact Nat.le_of_ble_eq_true rfl | omega | (simp; done)) ?_; conv => whnf)
    | (rw [St.set_same]; conv => whnf) | (rw [St.new_same]; conv => whnf)
    | (rw [St.set_ne _ _ (by first | assumption | omega | (simp only [St.set_n, St.new_n] at *; omega))]; conv => whnf)
    | (rw [St.new_ne _ _ (by first | assumption | omega | (simp only [St.set_n, St.new_n] at *; omega))]; conv => whnf))
  clear g1
  refine ⟨fun k env σ3 => ∃ q : Nat, k = L.length - q ∧ q ≤ L.length ∧ σ3.n = σ1.n + 1 ∧ σ3.obj σ1.n = .cells (flat ((L.take q ++ L'.drop q).map tkA)) ∧
      env = [(2, .int .i64 i), (7, .sl .no 4 (L.map tkA)), (11, .str mo), (13, .os σ1.n 0 L.length 4), (99, .int .i64 L.length), (100, .int .i64 q)], _,
    [(2, .int .i64 i), (7, .sl .no 4 (L.map tkA)), (11, .str mo), (13, .os σ1.n 0 L.length 4), (99, .int .i64 L.length), (100, .int .i64 0)], ⟨rfl, rfl, rfl, congrArg (fun z => some (A.os σ1.n 0 z 4)) hll, int_eq (by rw [hll]), rfl, trivial⟩,
    ⟨0, rfl, by omega, hn2, by rw [List.take_zero, List.nil_append, List.drop_zero]; exact hob, rfl⟩, ?_⟩
  rintro k env σ3 ⟨q, rfl, hq, hn3, hob3, rfl⟩
  have hml := mix_len hll hq
  by_cases hqlt : q < L.length
  · have g1 : decide ((q : Int) < L.length) = true := decide_eq_true (by omega)
    obtain ⟨u, hu⟩ : ∃ u, L[q]? = some u := ⟨_, List.getElem?_eq_getElem hqlt⟩
    obtain ⟨a1, a2⟩ := hL'at q u hu
    have hinc : IntKind.i64.wrap ((q : Int) + 1) = ((q + 1 : Nat) : Int) := by rw [w64 (by omega) (by omega)]; omega
    by_cases hiq : i ≤ q
    · have g2 : decide ((q : Int) ≥ i) = true := decide_eq_true (by omega)
      have hv := a2 hiq
      have hmx := mix_at hv hqlt
      have hset := mix_set (L' := L') hu (by omega)
      have g3 := tk_get1 hmx
      have hub := hpl u (List.mem_of_getElem? hu)
      have g4 : IntKind.i64.wrap (((u.2.1 + mo.length : Nat) : Int) - (mo.length : Int)) = (u.2.1 : Int) := by rw [w64 (by omega) (by omega)]; omega
      have g5 := tk_set u.2.1 hmx
      have hset2 : (L.take q ++ L'.drop q).set q (u.1, u.2.1, u.2.2) = L.take (q + 1) ++ L'.drop (q + 1) := hset
      have hle1 : 0 + (q : Int).toNat * 4 + 1 + 1 ≤ (flat ((L.take q ++ L'.drop q).map tkA)).length := by rw [tk_flen, hml]; show 0 + q * 4 + 1 + 1 ≤ _; omega
      have hr := hob3
      conv => whnf
      repeat' (first
        | (refine Bc_t ?_; conv => whnf) | (refine Bc_f ?_; conv => whnf) | (rw [g1]; conv => whnf) | (rw [g2]; conv => whnf) | (rw [g3]; conv => whnf) | (rw [g4]; conv => whnf)
        | (rw [g5]; conv => whnf) | (rw [g6]; conv => whnf) | (rw [g7]; conv => whnf) | (rw [hr]; conv => whnf)
        | (refine And.intro (by first | omega | assumption | (simp only [St.set_n, St.new_n] at *; omega) | (simp; done) | (simp; omega) | (intro _ _; first | assumption | (simp only [St.set_n, St.new_n] at *; omega)) | (intro _; exact trivial) | (intro _; intro _ _; exact trivial) | (intro _; intro j hj; rfl)) ?_; conv => whnf)
        | (refine Dc.mk (by first | rfl | assumption | exact Nat.le_refl _ | exact Nat.le_of_ble_eq_true rfl | omega | (simp; done)) ?_; conv => whnf)
        | (rw [St.set_same]; conv => whnf) | (rw [St.new_same]; conv => whnf)
        | (rw [St.set_ne _ _ (by first | assumption | omega | (simp only [St.set_n, St.new_n] at *; omega))]; conv => whnf)
        | (rw [St.new_ne _ _ (by first | assumption | omega | (simp only [St.set_n, St.new_n] at *; omega))]; conv => whnf))
      refine ⟨_, [(2, .int .i64 i), (7, .sl .no 4 (L.map tkA)), (11, .str mo), (13, .os σ1.n 0 L.length 4), (99, .int .i64 L.length), (100, .int .i64 (q + 1 : Nat))], ?_, ⟨rfl, rfl, rfl, rfl, rfl, int_eq hinc, trivial⟩, q + 1, rfl, by omega, by rw [St.set_n]; exact hn3, ?_, rfl⟩
      · omega
      · rw [St.set_same, ← hset2]
        first
          | rfl
          | exact congrArg AO.cells g5
    · have g2 : decide ((q : Int) ≥ i) = false := decide_eq_false (by omega)
      have hmx := mix_same hu (a1 (by omega))
      conv => whnf
      repeat' (first
        | (refine Bc_t ?_; conv => whnf) | (refine Bc_f ?_; conv => whnf) | (rw [g1]; conv => whnf) | (rw [g2]; conv => whnf) | (rw [g3]; conv => whnf) | (rw [g4]; conv => whnf)
        | (rw [g5]; conv => whnf) | (rw [g6]; conv => whnf) | (rw [g7]; conv => whnf) | (rw [hr]; conv => whnf)
        | (refine And.intro (by first | omega | assumption | (simp only [St.set_n, St.new_n] at *; omega) | (simp; done) | (simp; omega) | (intro _ _; first | assumption | (simp only [St.set_n, St.new_n] at *; omega)) | (intro _; exact trivial) | (intro _; intro _ _; exact trivial) | (intro _; intro j hj; rfl)) ?_; conv => whnf)
        | (refine Dc.mk (by first | rfl | assumption | exact Nat.le_refl _ | exact Nat.le_of_ble_eq_true rfl | omega | (simp; done)) ?_; conv => whnf)
        | (rw [St.set_same]; conv => whnf) | (rw [St.new_same]; conv => whnf)
        | (rw [St.set_ne _ _ (by first | assumption | omega | (simp only [St.set_n, St.new_n] at *; omega))]; conv => whnf)
        | (rw [St.new_ne _ _ (by first | assumption | omega | (simp only [St.set_n, St.new_n] at *; omega))]; conv => whnf))
      refine ⟨_, [(2, .int .i64 i), (7, .sl .no 4 (L.map tkA)), (11, .str mo), (13, .os σ1.n 0 L.length 4), (99, .int .i64 L.length), (100, .int .i64 (q + 1 : Nat))], ?_, ⟨rfl, rfl, rfl, rfl, rfl, int_eq hinc, trivial⟩, q + 1, rfl, by omega, hn3, by rw [← hmx]; exact hob3, rfl⟩
      omega
  · obtain rfl : q = L.length := by omega
    have g1 : decide ((L.length : Int) < L.length) = false := by simp
    rw [List.take_length, List.drop_of_length_le (by omega), List.append_nil] at hob3
    conv => whnf
    repeat' (first
      | (refine Bc_t ?_; conv => whnf) | (refine Bc_f ?_; conv => whnf) | (rw [g1]; conv => whnf) | (rw [g2]; conv => whnf) | (rw [g3]; conv => whnf) | (rw [g4]; conv => whnf)
      | (rw [g5]; conv => whnf) | (rw [g6]; conv => whnf) | (rw [g7]; conv => whnf) | (rw [hr]; conv => whnf)
      | (refine And.intro (by first | omega | assumption | (simp only [St.set_n, St.new_n] at *; omega) | (simp; done) | (simp; omega) | (intro _ _; first | assumption | (simp only [St.set_n, St.new_n] at *; omega)) | (intro _; exact trivial) | (intro _; intro _ _; exact trivial) | (intro _; intro j hj; rfl)) ?_; conv => whnf)
      | (refine Dc.mk (by first | rfl | assumption | exact Nat.le_refl _ | exact Nat.le_of_ble_eq_true rfl | omega | (simp; done)) ?_; conv => whnf)
      | (rw [St.set_same]; conv => whnf) | (rw [St.new_same]; conv => whnf)
      | (rw [St.set_ne _ _ (by first | assumption | omega | (simp only [St.set_n, St.new_n] at *; omega))]; conv => whnf)
      | (rw [St.new_ne _ _ (by first | assumption | omega | (simp only [St.set_n, St.new_n] at *; omega))]; conv => whnf))
    refine ACallsW.of (same_os σ1.n .no L L (by omega) _ hob3 Non) (fun _ _ _ h => h.elim) ?_
    rintro _ σ4 _ ⟨e1, rfl⟩
    have e2 := e1.symm
    subst e2
    conv => whnf
    repeat' (first
      | (refine Bc_t ?_; conv => whnf) | (refine Bc_f ?_; conv => whnf) | (rw [g1]; conv => whnf) | (rw [g2]; conv => whnf) | (rw [g3]; conv => whnf) | (rw [g4]; conv => whnf)
      | (rw [g5]; conv => whnf) | (rw [g6]; conv => whnf) | (rw [g7]; conv => whnf) | (rw [hr]; conv => whnf)
      | (refine And.intro (by first | omega | assumption | (simp only [St.set_n, St.new_n] at *; omega) | (simp; done) | (simp; omega) | (intro _ _; first | assumption | (simp only [St.set_n, St.new_n] at *; omega)) | (intro _; exact trivial) | (intro _; intro _ _; exact trivial) | (intro _; intro j hj; rfl)) ?_; conv => whnf)
      | (refine Dc.mk (by first | rfl | assumption | exact Nat.le_refl _ | exact Nat.le_of_ble_eq_true rfl | omega | (simp; done)) ?_; conv => whnf)
      | (rw [St.set_same]; conv => whnf) | (rw [St.new_same]; conv => whnf)
      | (rw [St.set_ne _ _ (by first | assumption | omega | (simp only [St.set_n, St.new_n] at *; omega))]; conv => whnf)
      | (rw [St.new_ne _ _ (by first | assumption | omega | (simp only [St.set_n, St.new_n] at *; omega))]; conv => whnf))
    exact Fin.of (congrArg (fun z => AEnd.ret (A.bool z)) (decide_eq_true rfl))
end
end Go.Proofs.YtjeccchbeflddaaDoor.Ga
