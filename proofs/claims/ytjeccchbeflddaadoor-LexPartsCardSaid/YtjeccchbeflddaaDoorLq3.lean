/- LexParts: the walk. -/
import Derived.Test.YtjeccchbeflddaaDoorLq2
import Derived.Test.YtjeccchbeflddaaDoorLc3
set_option linter.unusedVariables false
set_option linter.unusedSimpArgs false
namespace Go.Proofs.YtjeccchbeflddaaDoor.Ga
open Lx

def c_parts : SFun := ⟨151, (.seq (.reg [⟨(some 2), (.mov (.const (.bool false))), none⟩]) (.seq (.seq (.reg [⟨(some 12), (.call 9 []), none⟩, ⟨(some 13), (.un .not (.tmp 12)), none⟩]) (.cond (.tmp 13) (.seq (.reg [⟨(some 2), (.mov (.const (.bool false))), none⟩]) .ret) .skip)) (.seq (.reg [⟨(some 15), (.mov (.tmp 0)), none⟩, ⟨(some 16), (.call 14 [(.tmp 15)]), none⟩, ⟨(some 14), (.mov (.tmp 16)), none⟩, ⟨(some 17), (.extract (.tmp 14) 0), none⟩, ⟨(some 18), (.extract (.tmp 14) 1), none⟩, ⟨(some 19), (.extract (.tmp 14) 2), none⟩, ⟨(some 3), (.mov (.tmp 17)), none⟩, ⟨(some 4), (.mov (.tmp 18)), none⟩, ⟨(some 5), (.mov (.tmp 19)), none⟩]) (.seq (.seq (.reg [⟨(some 20), (.mov (.tmp 4)), none⟩, ⟨(some 21), (.bin .neq .none (.tmp 20) (.const (.int .i64 0))), none⟩]) (.cond (.tmp 21) (.seq (.reg [⟨(some 2), (.mov (.const (.bool true))), none⟩]) .ret) .skip)) (.seq (.seq (.reg [⟨(some 22), (.mov (.tmp 3)), none⟩, ⟨(some 23), (.len .sl (.tmp 22)), none⟩, ⟨(some 24), (.mov (.const (.int .i64 0))), none⟩]) (.block 0 (.loop (.seq (.reg [⟨(some 25), (.bin .lss .none (.tmp 24) (.tmp 23)), none⟩]) (.seq (.cond (.tmp 25) .skip (.exit 0)) (.seq (.block 1 (.seq (.reg [⟨(some 26), (.mov (.tmp 24)), none⟩, ⟨(some 6), (.mov (.tmp 26)), none⟩]) (.seq (.seq (.dreg [(0, ⟨(some 27), (.mov (.tmp 3)), none⟩), (0, ⟨(some 28), (.mov (.tmp 6)), none⟩), (0, ⟨(some 29), (.idxAddr 4 (.tmp 27) (.tmp 28)), none⟩), (0, ⟨(some 30), (.fieldAddr 1 (.tmp 29)), none⟩), (0, ⟨(some 31), (.load false 1 (.tmp 30)), none⟩), (0, ⟨(some 32), (.bin .lss .none (.tmp 31) (.const (.int .i64 0))), none⟩), (0, ⟨(some 33), (.mov (.tmp 32)), none⟩), (0, ⟨(some 34), (.mov (.tmp 3)), (some (33, false))⟩), (0, ⟨(some 35), (.mov (.tmp 6)), (some (33, false))⟩), (0, ⟨(some 36), (.idxAddr 4 (.tmp 34) (.tmp 35)), (some (33, false))⟩), (0, ⟨(some 37), (.fieldAddr 1 (.tmp 36)), (some (33, false))⟩), (0, ⟨(some 38), (.load false 1 (.tmp 37)), (some (33, false))⟩), (0, ⟨(some 39), (.mov (.tmp 0)), (some (33, false))⟩), (0, ⟨(some 40), (.len .str (.tmp 39)), (some (33, false))⟩), (0, ⟨(some 41), (.bin .gtr .none (.tmp 38) (.tmp 40)), (some (33, false))⟩), (0, ⟨(some 42), (.pick (.tmp 33) (.const (.bool true)) (.tmp 41)), none⟩), (0, ⟨(some 43), (.mov (.tmp 42)), none⟩), (0, ⟨(some 44), (.mov (.tmp 6)), (some (43, false))⟩), (0, ⟨(some 45), (.bin .gtr .none (.tmp 44) (.const (.int .i64 0))), (some (43, false))⟩), (0, ⟨(some 46), (.mov (.tmp 45)), (some (43, false))⟩), (0, ⟨(some 47), (.mov (.tmp 3)), (some (46, true))⟩), (0, ⟨(some 48), (.mov (.tmp 6)), (some (46, true))⟩), (0, ⟨(some 49), (.idxAddr 4 (.tmp 47) (.tmp 48)), (some (46, true))⟩), (0, ⟨(some 50), (.fieldAddr 1 (.tmp 49)), (some (46, true))⟩), (0, ⟨(some 51), (.load false 1 (.tmp 50)), (some (46, true))⟩), (0, ⟨(some 52), (.mov (.tmp 3)), (some (46, true))⟩), (0, ⟨(some 53), (.mov (.tmp 6)), (some (46, true))⟩), (0, ⟨(some 54), (.bin .sub .none (.tmp 53) (.const (.int .i64 1))), (some (46, true))⟩), (0, ⟨(some 55), (.idxAddr 4 (.tmp 52) (.tmp 54)), (some (46, true))⟩), (0, ⟨(some 56), (.fieldAddr 1 (.tmp 55)), (some (46, true))⟩), (0, ⟨(some 57), (.load false 1 (.tmp 56)), (some (46, true))⟩), (0, ⟨(some 58), (.bin .leq .none (.tmp 51) (.tmp 57)), (some (46, true))⟩), (0, ⟨(some 59), (.pick (.tmp 46) (.tmp 58) (.const (.bool false))), (some (43, false))⟩), (0, ⟨(some 60), (.pick (.tmp 43) (.const (.bool true)) (.tmp 59)), none⟩)]) (.cond (.tmp 60) (.seq (.reg [⟨(some 2), (.mov (.const (.bool false))), none⟩]) .ret) .skip)) (.seq (.seq (.reg [⟨(some 61), (.mov (.tmp 3)), none⟩, ⟨(some 62), (.mov (.tmp 6)), none⟩, ⟨(some 63), (.idxAddr 4 (.tmp 61) (.tmp 62)), none⟩, ⟨(some 64), (.fieldAddr 0 (.tmp 63)), none⟩, ⟨(some 65), (.load false 1 (.tmp 64)), none⟩, ⟨(some 66), (.bin .eql .none (.tmp 65) (.const (.int .i64 0))), none⟩]) (.cond (.tmp 66) (.seq (.reg [⟨(some 67), (.mov (.tmp 6)), none⟩, ⟨(some 68), (.mov (.tmp 3)), none⟩, ⟨(some 69), (.len .sl (.tmp 68)), none⟩, ⟨(some 70), (.bin .sub .none (.tmp 69) (.const (.int .i64 1))), none⟩, ⟨(some 71), (.bin .eql .none (.tmp 67) (.tmp 70)), none⟩, ⟨(some 72), (.mov (.tmp 71)), none⟩, ⟨(some 73), (.mov (.tmp 3)), (some (72, true))⟩, ⟨(some 74), (.mov (.tmp 6)), (some (72, true))⟩, ⟨(some 75), (.idxAddr 4 (.tmp 73) (.tmp 74)), (some (72, true))⟩, ⟨(some 76), (.fieldAddr 1 (.tmp 75)), (some (72, true))⟩, ⟨(some 77), (.load false 1 (.tmp 76)), (some (72, true))⟩, ⟨(some 78), (.mov (.tmp 0)), (some (72, true))⟩, ⟨(some 79), (.len .str (.tmp 78)), (some (72, true))⟩, ⟨(some 80), (.bin .eql .none (.tmp 77) (.tmp 79)), (some (72, true))⟩, ⟨(some 81), (.pick (.tmp 72) (.tmp 80) (.const (.bool false))), none⟩, ⟨(some 2), (.mov (.tmp 81)), none⟩]) .ret) .skip)) (.seq (.reg [⟨(some 82), (.mov (.tmp 3)), none⟩, ⟨(some 83), (.mov (.tmp 6)), none⟩, ⟨(some 84), (.idxAddr 4 (.tmp 82) (.tmp 83)), none⟩, ⟨(some 85), (.load true 4 (.tmp 84)), none⟩, ⟨(some 86), (.call 12 [(.tmp 85)]), none⟩, ⟨(some 7), (.mov (.tmp 86)), none⟩]) (.seq (.reg [⟨(some 87), (.mov (.tmp 3)), none⟩, ⟨(some 88), (.mov (.tmp 6)), none⟩, ⟨(some 89), (.idxAddr 4 (.tmp 87) (.tmp 88)), none⟩, ⟨(some 90), (.fieldAddr 1 (.tmp 89)), none⟩, ⟨(some 91), (.load false 1 (.tmp 90)), none⟩, ⟨(some 92), (.mov (.tmp 7)), none⟩, ⟨(some 93), (.len .str (.tmp 92)), none⟩, ⟨(some 94), (.bin .add .none (.tmp 91) (.tmp 93)), none⟩, ⟨(some 8), (.mov (.tmp 94)), none⟩]) (.seq (.seq (.reg [⟨(some 95), (.mov (.tmp 3)), none⟩, ⟨(some 96), (.mov (.tmp 6)), none⟩, ⟨(some 97), (.idxAddr 4 (.tmp 95) (.tmp 96)), none⟩, ⟨(some 98), (.fieldAddr 0 (.tmp 97)), none⟩, ⟨(some 99), (.load false 1 (.tmp 98)), none⟩, ⟨(some 100), (.bin .eql .none (.tmp 99) (.const (.int .i64 2))), none⟩]) (.cond (.tmp 100) (.seq (.seq (.reg [⟨(some 101), (.mov (.tmp 0)), none⟩, ⟨(some 102), (.mov (.tmp 3)), none⟩, ⟨(some 103), (.mov (.tmp 6)), none⟩, ⟨(some 104), (.idxAddr 4 (.tmp 102) (.tmp 103)), none⟩, ⟨(some 105), (.fieldAddr 1 (.tmp 104)), none⟩, ⟨(some 106), (.load false 1 (.tmp 105)), none⟩, ⟨(some 107), (.idxStr (.tmp 101) (.tmp 106)), none⟩, ⟨(some 108), (.bin .neq .none (.tmp 107) (.const (.int .u8 34))), none⟩]) (.cond (.tmp 108) (.seq (.reg [⟨(some 2), (.mov (.const (.bool false))), none⟩]) .ret) .skip)) (.exit 1)) .skip)) (.seq (.seq (.reg [⟨(some 109), (.mov (.tmp 8)), none⟩, ⟨(some 110), (.mov (.tmp 3)), none⟩, ⟨(some 111), (.mov (.tmp 6)), none⟩, ⟨(some 112), (.bin .add .none (.tmp 111) (.const (.int .i64 1))), none⟩, ⟨(some 113), (.idxAddr 4 (.tmp 110) (.tmp 112)), none⟩, ⟨(some 114), (.fieldAddr 1 (.tmp 113)), none⟩, ⟨(some 115), (.load false 1 (.tmp 114)), none⟩, ⟨(some 116), (.bin .gtr .none (.tmp 109) (.tmp 115)), none⟩, ⟨(some 117), (.mov (.tmp 116)), none⟩, ⟨(some 118), (.mov (.tmp 0)), (some (117, false))⟩, ⟨(some 119), (.mov (.tmp 3)), (some (117, false))⟩, ⟨(some 120), (.mov (.tmp 6)), (some (117, false))⟩, ⟨(some 121), (.idxAddr 4 (.tmp 119) (.tmp 120)), (some (117, false))⟩, ⟨(some 122), (.fieldAddr 1 (.tmp 121)), (some (117, false))⟩, ⟨(some 123), (.load false 1 (.tmp 122)), (some (117, false))⟩, ⟨(some 124), (.mov (.tmp 8)), (some (117, false))⟩, ⟨(some 125), (.sliceStr (.tmp 118) (some (.tmp 123)) (some (.tmp 124))), (some (117, false))⟩, ⟨(some 126), (.mov (.tmp 7)), (some (117, false))⟩, ⟨(some 127), (.bin .neq .none (.tmp 125) (.tmp 126)), (some (117, false))⟩, ⟨(some 128), (.pick (.tmp 117) (.const (.bool true)) (.tmp 127)), none⟩]) (.cond (.tmp 128) (.seq (.reg [⟨(some 2), (.mov (.const (.bool false))), none⟩]) .ret) .skip)) (.seq (.reg [⟨(some 130), (.mov (.tmp 0)), none⟩, ⟨(some 131), (.mov (.tmp 8)), none⟩, ⟨(some 132), (.mov (.tmp 3)), none⟩, ⟨(some 133), (.mov (.tmp 6)), none⟩, ⟨(some 134), (.bin .add .none (.tmp 133) (.const (.int .i64 1))), none⟩, ⟨(some 135), (.idxAddr 4 (.tmp 132) (.tmp 134)), none⟩, ⟨(some 136), (.fieldAddr 1 (.tmp 135)), none⟩, ⟨(some 137), (.load false 1 (.tmp 136)), none⟩, ⟨(some 138), (.sliceStr (.tmp 130) (some (.tmp 131)) (some (.tmp 137))), none⟩, ⟨(some 139), (.call 14 [(.tmp 138)]), none⟩, ⟨(some 129), (.mov (.tmp 139)), none⟩, ⟨(some 140), (.extract (.tmp 129) 0), none⟩, ⟨(some 141), (.extract (.tmp 129) 1), none⟩, ⟨(some 142), (.extract (.tmp 129) 2), none⟩, ⟨(some 9), (.mov (.tmp 140)), none⟩, ⟨(some 10), (.mov (.tmp 141)), none⟩, ⟨(some 11), (.mov (.tmp 142)), none⟩]) (.seq (.reg [⟨(some 143), (.mov (.tmp 10)), none⟩, ⟨(some 144), (.bin .neq .none (.tmp 143) (.const (.int .i64 0))), none⟩, ⟨(some 145), (.mov (.tmp 144)), none⟩, ⟨(some 146), (.mov (.tmp 9)), (some (145, false))⟩, ⟨(some 147), (.len .sl (.tmp 146)), (some (145, false))⟩, ⟨(some 148), (.bin .neq .none (.tmp 147) (.const (.int .i64 1))), (some (145, false))⟩, ⟨(some 149), (.pick (.tmp 145) (.const (.bool true)) (.tmp 148)), none⟩]) (.cond (.tmp 149) (.seq (.reg [⟨(some 2), (.mov (.const (.bool false))), none⟩]) .ret) .skip))))))))))) (.reg [⟨(some 150), (.bin .add .none (.tmp 24) (.const (.int .i64 1))), none⟩, ⟨(some 24), (.mov (.tmp 150)), none⟩]))))))) (.seq (.reg [⟨(some 2), (.mov (.const (.bool false))), none⟩]) .ret)))))), [(.tmp 2)]⟩
theorem c_parts_ok : cFun Tryd.prog Tryd.f5 = some c_parts := by kernel_rfl

theorem rising {s : List UInt8} {ts : List Tk} (h : lexAll s = .ok ts) {i j : Nat} {t u : Tk} (hij : j < i) (ht : (ts ++ [endTk s])[i]? = some t) (hu : (ts ++ [endTk s])[j]? = some u) : u.2.1 < t.2.1 := by
  obtain ⟨us, h1, rfl⟩ := lexAll_rd.1 h
  have hle := fun t ht => (rd_le h1 t ht).2
  unfold endTk at ht hu
  rw [place_left [] hle] at ht hu
  have hi : i ≤ us.length := by
    rcases Nat.lt_or_ge us.length i with q | q
    · rw [if_neg (by omega), if_neg (by omega)] at ht; cases ht
    · exact q
  have hlt := left_lt h1 i j hij (by omega)
  have e : ∀ (n : Nat) (x : Tk), n ≤ us.length → (if n < us.length then us[n]?.map (place s.length) else if n = us.length then some (0, s.length, 0, []) else none) = some x → x.2.1 = s.length - left us n := by
    intro n x hn hx
    by_cases q : n < us.length
    · rw [if_pos q, List.getElem?_eq_getElem q] at hx
      injection hx with hx
      rw [← hx]
      simp [place, left, List.getElem?_eq_getElem q]
    · rw [if_neg q, if_pos (by omega)] at hx
      injection hx with hx
      rw [← hx, show n = us.length by omega, left_end]
      rfl
  rw [e i t hi ht, e j u (by omega) hu]
  have hb : left us j ≤ s.length := by
    unfold left
    cases hq : us[j]? with
    | none => simp
    | some v => exact (rd_le h1 v (List.mem_of_getElem? hq)).2
  omega

section
attribute [local irreducible] Bc ACallsW ALoop Fin St.set St.new
set_option maxHeartbeats 4000000 in
theorem parts_ok (s : List UInt8) (hs : s.length ≤ 140737488355328) (σ : St) (hB : B0 σ.base) : ACalls Tryd.prog 5 [.str s] σ Non (fun e σ' => e = .ret (.bool true)) := by
  refine acalls_go mixed Tryd.func5 c_parts_ok (Nat.le_of_ble_eq_true rfl) ?_
  conv => whnf
  refine ACallsW.of (awake_ok _ hB Non) (fun _ _ _ h => h.elim) ?_
  rintro _ σ1 _ ⟨e1, rfl⟩
  have e2 := e1.symm
  subst e2
  conv => whnf
  repeat' (first
      | (refine Bc_t ?_; conv => whnf)
      | (refine Bc_f ?_; conv => whnf)
      | (rw [g1]; conv => whnf)
      | (rw [g2]; conv => whnf)
      | (rw [g3]; conv => whnf)
      | (rw [g4]; conv => whnf)
      | (rw [g5]; conv => whnf)
      | (rw [g6]; conv => whnf)
      | (rw [hr]; conv => whnf)
      | (refine Bc_split (fun hb => ?_) (fun hb => ?_) <;> (rw [hb]; conv => whnf))
      | (refine And.intro (by first
          | omega
          | assumption
          | (simp only [St.set_n, St.new_n] at *; omega)
          | (simp; done)
          | (simp; omega)
          | (intro _; exact trivial)
          | (intro _; intro _ _; exact trivial)
          | (intro _; intro j hj; first | rfl | (have hj' : j < 1 := hj
                                                 obtain rfl : j = 0 := by omega
                                                 exact ⟨rfl, rfl⟩))
          | (intro j hj; obtain rfl : j = 0 := by omega
             first | exact ⟨rfl, rfl⟩ | exact .inl ⟨rfl, rfl⟩ | exact .inr (by omega) | exact ⟨by assumption, by assumption⟩ | assumption | trivial)
          | exact .inr (by assumption)
          | (intro j hj; exact .inr (by simp only [St.set_n, St.new_n] at *; omega))
          | (intro e he; rcases List.mem_singleton.1 he with rfl; exact ⟨rfl, rfl⟩)
          | (rw [St.set_ne _ _ (by first | assumption | omega | (simp only [St.set_n, St.new_n] at *; omega))]; assumption)
          | (rw [St.set_ne _ _ (by first | assumption | omega | (simp only [St.set_n, St.new_n] at *; omega)), St.set_ne _ _ (by first | assumption | omega | (simp only [St.set_n, St.new_n] at *; omega))]; assumption)
          | (simp only [decide_eq_true_eq, decide_eq_false_iff_not, Bool.not_eq_true, beq_iff_eq, beq_eq_false_iff_ne, ne_eq, ge_iff_le, gt_iff_lt] at *; omega)) ?_; conv => whnf)
      | (rw [St.set_same]; conv => whnf)
      | (rw [St.new_same]; conv => whnf)
      | (rw [St.set_ne _ _ (by first | assumption | omega | (simp only [St.set_n, St.new_n] at *; omega))]; conv => whnf)
      | (rw [St.new_ne _ _ (by first | assumption | omega | (simp only [St.set_n, St.new_n] at *; omega))]; conv => whnf))
  refine ACallsW.of (lex_ok s _ hB Non) (fun _ _ _ h => h.elim) ?_
  rintro _ σ1 _ ⟨e1, rfl⟩
  have e2 := e1.symm
  subst e2
  by_cases hA : ∃ x, ¬ 4096 < s.length ∧ lexAll s = .ok x
  rotate_left 1
  · obtain ⟨e, p, he, h1⟩ := lexA_bad hA
    rw [h1]
    have g1 : (e != 0) = true := by simpa using he
    conv => whnf
    repeat' (first
        | (refine Bc_t ?_; conv => whnf)
        | (refine Bc_f ?_; conv => whnf)
        | (rw [g1]; conv => whnf)
        | (rw [g2]; conv => whnf)
        | (rw [g3]; conv => whnf)
        | (rw [g4]; conv => whnf)
        | (rw [g5]; conv => whnf)
        | (rw [g6]; conv => whnf)
        | (rw [hr]; conv => whnf)
        | (refine Bc_split (fun hb => ?_) (fun hb => ?_) <;> (rw [hb]; conv => whnf))
        | (refine And.intro (by first
            | omega
            | assumption
            | (simp only [St.set_n, St.new_n] at *; omega)
            | (simp; done)
            | (simp; omega)
            | (intro _; exact trivial)
            | (intro _; intro _ _; exact trivial)
            | (intro _; intro j hj; first | rfl | (have hj' : j < 1 := hj
                                                   obtain rfl : j = 0 := by omega
                                                   exact ⟨rfl, rfl⟩))
            | (intro j hj; obtain rfl : j = 0 := by omega
               first | exact ⟨rfl, rfl⟩ | exact .inl ⟨rfl, rfl⟩ | exact .inr (by omega) | exact ⟨by assumption, by assumption⟩ | assumption | trivial)
            | exact .inr (by assumption)
            | (intro j hj; exact .inr (by simp only [St.set_n, St.new_n] at *; omega))
            | (intro e he; rcases List.mem_singleton.1 he with rfl; exact ⟨rfl, rfl⟩)
            | (rw [St.set_ne _ _ (by first | assumption | omega | (simp only [St.set_n, St.new_n] at *; omega))]; assumption)
            | (rw [St.set_ne _ _ (by first | assumption | omega | (simp only [St.set_n, St.new_n] at *; omega)), St.set_ne _ _ (by first | assumption | omega | (simp only [St.set_n, St.new_n] at *; omega))]; assumption)
            | (simp only [decide_eq_true_eq, decide_eq_false_iff_not, Bool.not_eq_true, beq_iff_eq, beq_eq_false_iff_ne, ne_eq, ge_iff_le, gt_iff_lt] at *; omega)) ?_; conv => whnf)
        | (rw [St.set_same]; conv => whnf)
        | (rw [St.new_same]; conv => whnf)
        | (rw [St.set_ne _ _ (by first | assumption | omega | (simp only [St.set_n, St.new_n] at *; omega))]; conv => whnf)
        | (rw [St.new_ne _ _ (by first | assumption | omega | (simp only [St.set_n, St.new_n] at *; omega))]; conv => whnf))
    exact Fin.of rfl
  obtain ⟨ts, hls, hx⟩ := hA
  rw [lexA_ok hls hx]
  conv => whnf
  repeat' (first
      | (refine Bc_t ?_; conv => whnf)
      | (refine Bc_f ?_; conv => whnf)
      | (rw [g1]; conv => whnf)
      | (rw [g2]; conv => whnf)
      | (rw [g3]; conv => whnf)
      | (rw [g4]; conv => whnf)
      | (rw [g5]; conv => whnf)
      | (rw [g6]; conv => whnf)
      | (rw [hr]; conv => whnf)
      | (refine Bc_split (fun hb => ?_) (fun hb => ?_) <;> (rw [hb]; conv => whnf))
      | (refine And.intro (by first
          | omega
          | assumption
          | (simp only [St.set_n, St.new_n] at *; omega)
          | (simp; done)
          | (simp; omega)
          | (intro _; exact trivial)
          | (intro _; intro _ _; exact trivial)
          | (intro _; intro j hj; first | rfl | (have hj' : j < 1 := hj
                                                 obtain rfl : j = 0 := by omega
                                                 exact ⟨rfl, rfl⟩))
          | (intro j hj; obtain rfl : j = 0 := by omega
             first | exact ⟨rfl, rfl⟩ | exact .inl ⟨rfl, rfl⟩ | exact .inr (by omega) | exact ⟨by assumption, by assumption⟩ | assumption | trivial)
          | exact .inr (by assumption)
          | (intro j hj; exact .inr (by simp only [St.set_n, St.new_n] at *; omega))
          | (intro e he; rcases List.mem_singleton.1 he with rfl; exact ⟨rfl, rfl⟩)
          | (rw [St.set_ne _ _ (by first | assumption | omega | (simp only [St.set_n, St.new_n] at *; omega))]; assumption)
          | (rw [St.set_ne _ _ (by first | assumption | omega | (simp only [St.set_n, St.new_n] at *; omega)), St.set_ne _ _ (by first | assumption | omega | (simp only [St.set_n, St.new_n] at *; omega))]; assumption)
          | (simp only [decide_eq_true_eq, decide_eq_false_iff_not, Bool.not_eq_true, beq_iff_eq, beq_eq_false_iff_ne, ne_eq, ge_iff_le, gt_iff_lt] at *; omega)) ?_; conv => whnf)
      | (rw [St.set_same]; conv => whnf)
      | (rw [St.new_same]; conv => whnf)
      | (rw [St.set_ne _ _ (by first | assumption | omega | (simp only [St.set_n, St.new_n] at *; omega))]; conv => whnf)
      | (rw [St.new_ne _ _ (by first | assumption | omega | (simp only [St.set_n, St.new_n] at *; omega))]; conv => whnf))
  have hLl : (ts ++ [endTk s]).length = ts.length + 1 := by simp
  have htl := lexAll_len hx
  unfold ALoop
  refine ⟨fun k env σ1 => ∃ i : Nat, k = ts.length + 1 - i ∧ i ≤ ts.length ∧ σ1 = σ ∧
      env = [(0, .str s), (3, .sl .no 4 ((ts ++ [endTk s]).map tkA)), (23, .int .i64 (ts.length + 1 : Nat)), (24, .int .i64 i)], _,
    [(0, .str s), (3, .sl .no 4 ((ts ++ [endTk s]).map tkA)), (23, .int .i64 (ts.length + 1 : Nat)), (24, .int .i64 0)], ⟨rfl, rfl, int_eq (by rw [List.length_map, hLl]), rfl, trivial⟩, ⟨0, rfl, by omega, rfl, rfl⟩, ?_⟩
  rintro k env σ1 ⟨i, rfl, hi, rfl, rfl⟩
  have hlenL : (((ts ++ [endTk s]).map tkA).length : Int) = (ts.length + 1 : Nat) := by rw [List.length_map, hLl]
  obtain ⟨t, ht⟩ : ∃ t, (ts ++ [endTk s])[i]? = some t := ⟨_, List.getElem?_eq_getElem (by omega)⟩
  have g1 : ((ts ++ [endTk s]).map tkA)[(i : Int).toNat]? = some (tkA t) := by show ((ts ++ [endTk s]).map tkA)[i]? = _; rw [List.getElem?_map, ht]; rfl
  have g2 : decide ((i : Int) < (ts.length + 1 : Nat)) = true := by simp; omega
  have g3 : decide ((t.2.1 : Int) < 0) = false := decide_eq_false (by omega)
  have htb : t.2.1 ≤ s.length := by
    rcases List.mem_append.1 (List.mem_of_getElem? ht) with q | q
    · exact lexAll_pl hx t q
    · rw [List.mem_singleton.1 q]; exact Nat.le_refl _
  have g4 : decide ((t.2.1 : Int) > s.length) = false := decide_eq_false (by omega)
  obtain ⟨u, g6, g7⟩ : ∃ u : Tk, (0 < i → ((ts ++ [endTk s]).map tkA)[((i - 1 : Nat) : Int).toNat]? = some (tkA u)) ∧ (0 < i → decide ((t.2.1 : Int) ≤ u.2.1) = false) := by
    by_cases h0 : 0 < i
    · obtain ⟨u, hu⟩ : ∃ u, (ts ++ [endTk s])[i - 1]? = some u := ⟨_, List.getElem?_eq_getElem (by omega)⟩
      refine ⟨u, fun _ => by show ((ts ++ [endTk s]).map tkA)[i - 1]? = _; rw [List.getElem?_map, hu]; rfl, fun _ => decide_eq_false ?_⟩
      have := rising hx (show i - 1 < i by omega) ht hu
      omega
    · exact ⟨t, fun q => absurd q h0, fun q => absurd q h0⟩
  by_cases hlast : i = ts.length
  · have hend : t = endTk s := by
      rw [hlast, List.getElem?_append_right (Nat.le_refl _), Nat.sub_self] at ht
      exact (Option.some.inj ht).symm
    subst hend
    have g8 : ((i : Int) == IntKind.i64.wrap ((((ts ++ [endTk s]).map tkA).length : Int) - 1)) = true := by
      rw [hlenL, w64 (by omega) (by omega)]
      exact beq_iff_eq.2 (by omega)
    have g9 : (((endTk s).2.1 : Int) == (s.length : Int)) = true := beq_iff_eq.2 rfl
    rcases Nat.eq_zero_or_pos i with h0 | h0
    · have g5 : decide ((i : Int) > 0) = false := decide_eq_false (by omega)
      clear g6 g7
      conv => whnf
      repeat' (first
          | (refine Bc_t ?_; conv => whnf)
          | (refine Bc_f ?_; conv => whnf)
          | (rw [g1]; conv => whnf)
          | (rw [g2]; conv => whnf)
          | (rw [g3]; conv => whnf)
          | (rw [g4]; conv => whnf)
          | (rw [g5]; conv => whnf)
          | (rw [g6]; conv => whnf)
          | (rw [g7]; conv => whnf)
          | (rw [g8]; conv => whnf)
          | (rw [g9]; conv => whnf)
          | (rw [hr]; conv => whnf)
          | (refine Bc_split (fun hb => ?_) (fun hb => ?_) <;> (rw [hb]; conv => whnf))
          | (refine And.intro (by first
              | omega
              | assumption
              | (simp only [St.set_n, St.new_n] at *; omega)
              | (simp; done)
              | (simp; omega)
              | (intro _ _; first | assumption | (simp only [St.set_n, St.new_n] at *; omega))
              | (intro _; exact trivial)
              | (intro _; intro _ _; exact trivial)
              | (intro _; intro j hj; first | rfl | (have hj' : j < 1 := hj
                                                     obtain rfl : j = 0 := by omega
                                                     exact ⟨rfl, rfl⟩))
              | (intro j hj; obtain rfl : j = 0 := by omega
                 first | exact ⟨rfl, rfl⟩ | exact .inl ⟨rfl, rfl⟩ | exact .inr (by omega) | exact ⟨by assumption, by assumption⟩ | assumption | trivial)
              | exact .inr (by assumption)
              | (intro j hj; exact .inr (by simp only [St.set_n, St.new_n] at *; omega))
              | (intro e he; rcases List.mem_singleton.1 he with rfl; exact ⟨rfl, rfl⟩)
              | (rw [St.set_ne _ _ (by first | assumption | omega | (simp only [St.set_n, St.new_n] at *; omega))]; assumption)
              | (rw [St.set_ne _ _ (by first | assumption | omega | (simp only [St.set_n, St.new_n] at *; omega)), St.set_ne _ _ (by first | assumption | omega | (simp only [St.set_n, St.new_n] at *; omega))]; assumption)
              | (simp only [decide_eq_true_eq, decide_eq_false_iff_not, Bool.not_eq_true, beq_iff_eq, beq_eq_false_iff_ne, ne_eq, ge_iff_le, gt_iff_lt] at *; omega)) ?_; conv => whnf)
          | (rw [St.set_same]; conv => whnf)
          | (rw [St.new_same]; conv => whnf)
          | (rw [St.set_ne _ _ (by first | assumption | omega | (simp only [St.set_n, St.new_n] at *; omega))]; conv => whnf)
          | (rw [St.new_ne _ _ (by first | assumption | omega | (simp only [St.set_n, St.new_n] at *; omega))]; conv => whnf))
      exact Fin.of rfl
    · have g5 : decide ((i : Int) > 0) = true := decide_eq_true (by omega)
      have g6 := g6 h0
      have g7 := g7 h0
      have hr : IntKind.i64.wrap ((i : Int) - 1) = ((i - 1 : Nat) : Int) := by rw [w64 (by omega) (by omega)]; omega
      conv => whnf
      repeat' (first
          | (refine Bc_t ?_; conv => whnf)
          | (refine Bc_f ?_; conv => whnf)
          | (rw [g1]; conv => whnf)
          | (rw [g2]; conv => whnf)
          | (rw [g3]; conv => whnf)
          | (rw [g4]; conv => whnf)
          | (rw [g5]; conv => whnf)
          | (rw [g6]; conv => whnf)
          | (rw [g7]; conv => whnf)
          | (rw [g8]; conv => whnf)
          | (rw [g9]; conv => whnf)
          | (rw [hr]; conv => whnf)
          | (refine Bc_split (fun hb => ?_) (fun hb => ?_) <;> (rw [hb]; conv => whnf))
          | (refine And.intro (by first
              | omega
              | assumption
              | (simp only [St.set_n, St.new_n] at *; omega)
              | (simp; done)
              | (simp; omega)
              | (intro _ _; first | assumption | (simp only [St.set_n, St.new_n] at *; omega))
              | (intro _; exact trivial)
              | (intro _; intro _ _; exact trivial)
              | (intro _; intro j hj; first | rfl | (have hj' : j < 1 := hj
                                                     obtain rfl : j = 0 := by omega
                                                     exact ⟨rfl, rfl⟩))
              | (intro j hj; obtain rfl : j = 0 := by omega
                 first | exact ⟨rfl, rfl⟩ | exact .inl ⟨rfl, rfl⟩ | exact .inr (by omega) | exact ⟨by assumption, by assumption⟩ | assumption | trivial)
              | exact .inr (by assumption)
              | (intro j hj; exact .inr (by simp only [St.set_n, St.new_n] at *; omega))
              | (intro e he; rcases List.mem_singleton.1 he with rfl; exact ⟨rfl, rfl⟩)
              | (rw [St.set_ne _ _ (by first | assumption | omega | (simp only [St.set_n, St.new_n] at *; omega))]; assumption)
              | (rw [St.set_ne _ _ (by first | assumption | omega | (simp only [St.set_n, St.new_n] at *; omega)), St.set_ne _ _ (by first | assumption | omega | (simp only [St.set_n, St.new_n] at *; omega))]; assumption)
              | (simp only [decide_eq_true_eq, decide_eq_false_iff_not, Bool.not_eq_true, beq_iff_eq, beq_eq_false_iff_ne, ne_eq, ge_iff_le, gt_iff_lt] at *; omega)) ?_; conv => whnf)
          | (rw [St.set_same]; conv => whnf)
          | (rw [St.new_same]; conv => whnf)
          | (rw [St.set_ne _ _ (by first | assumption | omega | (simp only [St.set_n, St.new_n] at *; omega))]; conv => whnf)
          | (rw [St.new_ne _ _ (by first | assumption | omega | (simp only [St.set_n, St.new_n] at *; omega))]; conv => whnf))
      exact Fin.of rfl
  have hlt : i < ts.length := by omega
  obtain ⟨t0, t', p1, p2, p3, p4, p5, p6, p7, p8, p9⟩ := parts hx i hlt
  obtain rfl : t = t0 := Option.some.inj (ht.symm.trans p1)
  have g8 : ((t.1 : Int) == 0) = false := beq_eq_false_iff_ne.2 (by omega)
  have next : ∀ env' : Env, EnvSub [(0, .str s), (3, .sl .no 4 ((ts ++ [endTk s]).map tkA)), (23, .int .i64 (ts.length + 1 : Nat)), (24, .int .i64 (i + 1 : Nat))] env' →
      ∃ k' env'', k' < ts.length + 1 - i ∧ EnvSub env'' env' ∧ ∃ i : Nat, k' = ts.length + 1 - i ∧ i ≤ ts.length ∧ σ1 = σ1 ∧
        env'' = [(0, .str s), (3, .sl .no 4 ((ts ++ [endTk s]).map tkA)), (23, .int .i64 (ts.length + 1 : Nat)), (24, .int .i64 i)] :=
    fun env' he => ⟨_, _, by omega, he, i + 1, rfl, by omega, rfl, rfl⟩
  have hinc : IntKind.i64.wrap ((i : Int) + 1) = ((i + 1 : Nat) : Int) := by rw [w64 (by omega) (by omega)]; omega
  have hinc' : A.int .i64 (IntKind.i64.wrap ((i : Int) + 1)) = A.int .i64 ((i + 1 : Nat) : Int) := by rw [hinc]
  have hta : A.agg (List.take 4 (tkA t).cells) = tkA t := rfl
  rcases Nat.eq_zero_or_pos i with h0 | h0
  · have g5 : decide ((i : Int) > 0) = false := decide_eq_false (by omega)
    clear g6 g7
    conv => whnf
    repeat' (first
        | (refine Bc_t ?_; conv => whnf)
        | (refine Bc_f ?_; conv => whnf)
        | (rw [g1]; conv => whnf)
        | (rw [g2]; conv => whnf)
        | (rw [g3]; conv => whnf)
        | (rw [g4]; conv => whnf)
        | (rw [g5]; conv => whnf)
        | (rw [g6]; conv => whnf)
        | (rw [g7]; conv => whnf)
        | (rw [g8]; conv => whnf)
        | (rw [g9]; conv => whnf)
        | (rw [hr]; conv => whnf)
        | (refine Bc_split (fun hb => ?_) (fun hb => ?_) <;> (rw [hb]; conv => whnf))
        | (refine And.intro (by first
            | omega
            | assumption
            | (simp only [St.set_n, St.new_n] at *; omega)
            | (simp; done)
            | (simp; omega)
            | (intro _ _; first | assumption | (simp only [St.set_n, St.new_n] at *; omega))
            | (intro _; exact trivial)
            | (intro _; intro _ _; exact trivial)
            | (intro _; intro j hj; first | rfl | (have hj' : j < 1 := hj
                                                   obtain rfl : j = 0 := by omega
                                                   exact ⟨rfl, rfl⟩))
            | (intro j hj; obtain rfl : j = 0 := by omega
               first | exact ⟨rfl, rfl⟩ | exact .inl ⟨rfl, rfl⟩ | exact .inr (by omega) | exact ⟨by assumption, by assumption⟩ | assumption | trivial)
            | exact .inr (by assumption)
            | (intro j hj; exact .inr (by simp only [St.set_n, St.new_n] at *; omega))
            | (intro e he; rcases List.mem_singleton.1 he with rfl; exact ⟨rfl, rfl⟩)
            | (rw [St.set_ne _ _ (by first | assumption | omega | (simp only [St.set_n, St.new_n] at *; omega))]; assumption)
            | (rw [St.set_ne _ _ (by first | assumption | omega | (simp only [St.set_n, St.new_n] at *; omega)), St.set_ne _ _ (by first | assumption | omega | (simp only [St.set_n, St.new_n] at *; omega))]; assumption)
            | (simp only [decide_eq_true_eq, decide_eq_false_iff_not, Bool.not_eq_true, beq_iff_eq, beq_eq_false_iff_ne, ne_eq, ge_iff_le, gt_iff_lt] at *; omega)) ?_; conv => whnf)
        | (rw [St.set_same]; conv => whnf)
        | (rw [St.new_same]; conv => whnf)
        | (rw [St.set_ne _ _ (by first | assumption | omega | (simp only [St.set_n, St.new_n] at *; omega))]; conv => whnf)
        | (rw [St.new_ne _ _ (by first | assumption | omega | (simp only [St.set_n, St.new_n] at *; omega))]; conv => whnf))
    refine ACallsW.of (lextext_ok t p4 (by omega) _ hB Non) (fun _ _ _ h => h.elim) ?_
    rintro _ σ2 _ ⟨e1, rfl⟩
    have e2 := e1.symm
    subst e2
    clear g5
    by_cases hk : t.1 = 2
    · have g5 : ((t.1 : Int) == 2) = true := beq_iff_eq.2 (by omega)
      have g6 : (((s.getD (t.2.1 : Int).toNat 0).toNat : Int) != 34) = false := by
        have := p8 hk
        show (((s.getD t.2.1 0).toNat : Int) != 34) = false
        rw [this]; rfl
      conv => whnf
      repeat' (first
          | (refine Bc_t ?_; conv => whnf)
          | (refine Bc_f ?_; conv => whnf)
          | (rw [g1]; conv => whnf)
          | (rw [g2]; conv => whnf)
          | (rw [g3]; conv => whnf)
          | (rw [g4]; conv => whnf)
          | (rw [g5]; conv => whnf)
          | (rw [g6]; conv => whnf)
          | (rw [g7]; conv => whnf)
          | (rw [g8]; conv => whnf)
          | (rw [g9]; conv => whnf)
          | (rw [hr]; conv => whnf)
          | (refine Bc_split (fun hb => ?_) (fun hb => ?_) <;> (rw [hb]; conv => whnf))
          | (refine And.intro (by first
              | omega
              | assumption
              | (simp only [St.set_n, St.new_n] at *; omega)
              | (simp; done)
              | (simp; omega)
              | (intro _ _; first | assumption | (simp only [St.set_n, St.new_n] at *; omega))
              | (intro _; exact trivial)
              | (intro _; intro _ _; exact trivial)
              | (intro _; intro j hj; first | rfl | (have hj' : j < 1 := hj
                                                     obtain rfl : j = 0 := by omega
                                                     exact ⟨rfl, rfl⟩))
              | (intro j hj; obtain rfl : j = 0 := by omega
                 first | exact ⟨rfl, rfl⟩ | exact .inl ⟨rfl, rfl⟩ | exact .inr (by omega) | exact ⟨by assumption, by assumption⟩ | assumption | trivial)
              | exact .inr (by assumption)
              | (intro j hj; exact .inr (by simp only [St.set_n, St.new_n] at *; omega))
              | (intro e he; rcases List.mem_singleton.1 he with rfl; exact ⟨rfl, rfl⟩)
              | (rw [St.set_ne _ _ (by first | assumption | omega | (simp only [St.set_n, St.new_n] at *; omega))]; assumption)
              | (rw [St.set_ne _ _ (by first | assumption | omega | (simp only [St.set_n, St.new_n] at *; omega)), St.set_ne _ _ (by first | assumption | omega | (simp only [St.set_n, St.new_n] at *; omega))]; assumption)
              | (simp only [decide_eq_true_eq, decide_eq_false_iff_not, Bool.not_eq_true, beq_iff_eq, beq_eq_false_iff_ne, ne_eq, ge_iff_le, gt_iff_lt] at *; omega)) ?_; conv => whnf)
          | (rw [St.set_same]; conv => whnf)
          | (rw [St.new_same]; conv => whnf)
          | (rw [St.set_ne _ _ (by first | assumption | omega | (simp only [St.set_n, St.new_n] at *; omega))]; conv => whnf)
          | (rw [St.new_ne _ _ (by first | assumption | omega | (simp only [St.set_n, St.new_n] at *; omega))]; conv => whnf))
      exact next _ ⟨rfl, rfl, rfl, int_eq hinc, trivial⟩
    · obtain ⟨q1, q2, q3⟩ := p9 hk
      generalize textOf t = T at q1 q2 q3 ⊢
      have g5 : ((t.1 : Int) == 2) = false := beq_eq_false_iff_ne.2 (by omega)
      have hr : IntKind.i64.wrap ((t.2.1 : Int) + (T.length : Int)) = ((t.2.1 + T.length : Nat) : Int) := by rw [w64 (by omega) (by omega)]; omega
      have hnn : 0 ≤ IntKind.i64.wrap ((i : Int) + 1) := by rw [hinc]; omega
      have g6 : ((ts ++ [endTk s]).map tkA)[(IntKind.i64.wrap ((i : Int) + 1)).toNat]? = some (tkA t') := by rw [hinc]; show ((ts ++ [endTk s]).map tkA)[i + 1]? = _; rw [List.getElem?_map]; unfold endTk; rw [p2]; rfl
      have g7 : decide (((t.2.1 + T.length : Nat) : Int) > t'.2.1) = false := decide_eq_false (by omega)
      have g9 : (!(((s.take ((t.2.1 + T.length : Nat) : Int).toNat).drop (t.2.1 : Int).toNat) == T)) = false := by
        show (!(((s.take (t.2.1 + T.length)).drop t.2.1) == T)) = false
        rw [q2]; simp
      conv => whnf
      repeat' (first
          | (refine Bc_t ?_; conv => whnf)
          | (refine Bc_f ?_; conv => whnf)
          | (rw [g1]; conv => whnf)
          | (rw [g2]; conv => whnf)
          | (rw [g3]; conv => whnf)
          | (rw [g4]; conv => whnf)
          | (rw [g5]; conv => whnf)
          | (rw [g6]; conv => whnf)
          | (rw [g7]; conv => whnf)
          | (rw [g8]; conv => whnf)
          | (rw [g9]; conv => whnf)
          | (rw [hr]; conv => whnf)
          | (refine Bc_split (fun hb => ?_) (fun hb => ?_) <;> (rw [hb]; conv => whnf))
          | (refine And.intro (by first
              | omega
              | assumption
              | (simp only [St.set_n, St.new_n] at *; omega)
              | (simp; done)
              | (simp; omega)
              | (intro _ _; first | assumption | (simp only [St.set_n, St.new_n] at *; omega))
              | (intro _; exact trivial)
              | (intro _; intro _ _; exact trivial)
              | (intro _; intro j hj; first | rfl | (have hj' : j < 1 := hj
                                                     obtain rfl : j = 0 := by omega
                                                     exact ⟨rfl, rfl⟩))
              | (intro j hj; obtain rfl : j = 0 := by omega
                 first | exact ⟨rfl, rfl⟩ | exact .inl ⟨rfl, rfl⟩ | exact .inr (by omega) | exact ⟨by assumption, by assumption⟩ | assumption | trivial)
              | exact .inr (by assumption)
              | (intro j hj; exact .inr (by simp only [St.set_n, St.new_n] at *; omega))
              | (intro e he; rcases List.mem_singleton.1 he with rfl; exact ⟨rfl, rfl⟩)
              | (rw [St.set_ne _ _ (by first | assumption | omega | (simp only [St.set_n, St.new_n] at *; omega))]; assumption)
              | (rw [St.set_ne _ _ (by first | assumption | omega | (simp only [St.set_n, St.new_n] at *; omega)), St.set_ne _ _ (by first | assumption | omega | (simp only [St.set_n, St.new_n] at *; omega))]; assumption)
              | (simp only [decide_eq_true_eq, decide_eq_false_iff_not, Bool.not_eq_true, beq_iff_eq, beq_eq_false_iff_ne, ne_eq, ge_iff_le, gt_iff_lt] at *; omega)) ?_; conv => whnf)
          | (rw [St.set_same]; conv => whnf)
          | (rw [St.new_same]; conv => whnf)
          | (rw [St.set_ne _ _ (by first | assumption | omega | (simp only [St.set_n, St.new_n] at *; omega))]; conv => whnf)
          | (rw [St.new_ne _ _ (by first | assumption | omega | (simp only [St.set_n, St.new_n] at *; omega))]; conv => whnf))
      refine ACallsW.of (lex_ok ((s.take t'.2.1).drop (t.2.1 + T.length)) _ hB Non) (fun _ _ _ h => h.elim) ?_
      rintro _ σ2 _ ⟨e1, rfl⟩
      have e2 := e1.symm
      subst e2
      rw [lexA_ok (by rw [List.length_drop, List.length_take]; omega) q3]
      conv => whnf
      repeat' (first
          | (refine Bc_t ?_; conv => whnf)
          | (refine Bc_f ?_; conv => whnf)
          | (rw [g1]; conv => whnf)
          | (rw [g2]; conv => whnf)
          | (rw [g3]; conv => whnf)
          | (rw [g4]; conv => whnf)
          | (rw [g5]; conv => whnf)
          | (rw [g6]; conv => whnf)
          | (rw [g7]; conv => whnf)
          | (rw [g8]; conv => whnf)
          | (rw [g9]; conv => whnf)
          | (rw [hr]; conv => whnf)
          | (refine Bc_split (fun hb => ?_) (fun hb => ?_) <;> (rw [hb]; conv => whnf))
          | (refine And.intro (by first
              | omega
              | assumption
              | (simp only [St.set_n, St.new_n] at *; omega)
              | (simp; done)
              | (simp; omega)
              | (intro _ _; first | assumption | (simp only [St.set_n, St.new_n] at *; omega))
              | (intro _; exact trivial)
              | (intro _; intro _ _; exact trivial)
              | (intro _; intro j hj; first | rfl | (have hj' : j < 1 := hj
                                                     obtain rfl : j = 0 := by omega
                                                     exact ⟨rfl, rfl⟩))
              | (intro j hj; obtain rfl : j = 0 := by omega
                 first | exact ⟨rfl, rfl⟩ | exact .inl ⟨rfl, rfl⟩ | exact .inr (by omega) | exact ⟨by assumption, by assumption⟩ | assumption | trivial)
              | exact .inr (by assumption)
              | (intro j hj; exact .inr (by simp only [St.set_n, St.new_n] at *; omega))
              | (intro e he; rcases List.mem_singleton.1 he with rfl; exact ⟨rfl, rfl⟩)
              | (rw [St.set_ne _ _ (by first | assumption | omega | (simp only [St.set_n, St.new_n] at *; omega))]; assumption)
              | (rw [St.set_ne _ _ (by first | assumption | omega | (simp only [St.set_n, St.new_n] at *; omega)), St.set_ne _ _ (by first | assumption | omega | (simp only [St.set_n, St.new_n] at *; omega))]; assumption)
              | (simp only [decide_eq_true_eq, decide_eq_false_iff_not, Bool.not_eq_true, beq_iff_eq, beq_eq_false_iff_ne, ne_eq, ge_iff_le, gt_iff_lt] at *; omega)) ?_; conv => whnf)
          | (rw [St.set_same]; conv => whnf)
          | (rw [St.new_same]; conv => whnf)
          | (rw [St.set_ne _ _ (by first | assumption | omega | (simp only [St.set_n, St.new_n] at *; omega))]; conv => whnf)
          | (rw [St.new_ne _ _ (by first | assumption | omega | (simp only [St.set_n, St.new_n] at *; omega))]; conv => whnf))
      exact next _ ⟨rfl, rfl, rfl, int_eq hinc, trivial⟩
  · have g5 : decide ((i : Int) > 0) = true := decide_eq_true (by omega)
    have g6' := g6 h0
    have g7' := g7 h0
    clear g6 g7
    have g6 := g6'
    have g7 := g7'
    have hr : IntKind.i64.wrap ((i : Int) - 1) = ((i - 1 : Nat) : Int) := by rw [w64 (by omega) (by omega)]; omega
    conv => whnf
    repeat' (first
        | (refine Bc_t ?_; conv => whnf)
        | (refine Bc_f ?_; conv => whnf)
        | (rw [g1]; conv => whnf)
        | (rw [g2]; conv => whnf)
        | (rw [g3]; conv => whnf)
        | (rw [g4]; conv => whnf)
        | (rw [g5]; conv => whnf)
        | (rw [g6]; conv => whnf)
        | (rw [g7]; conv => whnf)
        | (rw [g8]; conv => whnf)
        | (rw [g9]; conv => whnf)
        | (rw [hr]; conv => whnf)
        | (refine Bc_split (fun hb => ?_) (fun hb => ?_) <;> (rw [hb]; conv => whnf))
        | (refine And.intro (by first
            | omega
            | assumption
            | (simp only [St.set_n, St.new_n] at *; omega)
            | (simp; done)
            | (simp; omega)
            | (intro _ _; first | assumption | (simp only [St.set_n, St.new_n] at *; omega))
            | (intro _; exact trivial)
            | (intro _; intro _ _; exact trivial)
            | (intro _; intro j hj; first | rfl | (have hj' : j < 1 := hj
                                                   obtain rfl : j = 0 := by omega
                                                   exact ⟨rfl, rfl⟩))
            | (intro j hj; obtain rfl : j = 0 := by omega
               first | exact ⟨rfl, rfl⟩ | exact .inl ⟨rfl, rfl⟩ | exact .inr (by omega) | exact ⟨by assumption, by assumption⟩ | assumption | trivial)
            | exact .inr (by assumption)
            | (intro j hj; exact .inr (by simp only [St.set_n, St.new_n] at *; omega))
            | (intro e he; rcases List.mem_singleton.1 he with rfl; exact ⟨rfl, rfl⟩)
            | (rw [St.set_ne _ _ (by first | assumption | omega | (simp only [St.set_n, St.new_n] at *; omega))]; assumption)
            | (rw [St.set_ne _ _ (by first | assumption | omega | (simp only [St.set_n, St.new_n] at *; omega)), St.set_ne _ _ (by first | assumption | omega | (simp only [St.set_n, St.new_n] at *; omega))]; assumption)
            | (simp only [decide_eq_true_eq, decide_eq_false_iff_not, Bool.not_eq_true, beq_iff_eq, beq_eq_false_iff_ne, ne_eq, ge_iff_le, gt_iff_lt] at *; omega)) ?_; conv => whnf)
        | (rw [St.set_same]; conv => whnf)
        | (rw [St.new_same]; conv => whnf)
        | (rw [St.set_ne _ _ (by first | assumption | omega | (simp only [St.set_n, St.new_n] at *; omega))]; conv => whnf)
        | (rw [St.new_ne _ _ (by first | assumption | omega | (simp only [St.set_n, St.new_n] at *; omega))]; conv => whnf))
    clear hr g6 g7 g6' g7'
    refine ACallsW.of (lextext_ok t p4 (by omega) _ hB Non) (fun _ _ _ h => h.elim) ?_
    rintro _ σ2 _ ⟨e1, rfl⟩
    have e2 := e1.symm
    subst e2
    clear g5
    by_cases hk : t.1 = 2
    · have g5 : ((t.1 : Int) == 2) = true := beq_iff_eq.2 (by omega)
      have g6 : (((s.getD (t.2.1 : Int).toNat 0).toNat : Int) != 34) = false := by
        have := p8 hk
        show (((s.getD t.2.1 0).toNat : Int) != 34) = false
        rw [this]; rfl
      conv => whnf
      repeat' (first
          | (refine Bc_t ?_; conv => whnf)
          | (refine Bc_f ?_; conv => whnf)
          | (rw [g1]; conv => whnf)
          | (rw [g2]; conv => whnf)
          | (rw [g3]; conv => whnf)
          | (rw [g4]; conv => whnf)
          | (rw [g5]; conv => whnf)
          | (rw [g6]; conv => whnf)
          | (rw [g7]; conv => whnf)
          | (rw [g8]; conv => whnf)
          | (rw [g9]; conv => whnf)
          | (rw [hr]; conv => whnf)
          | (refine Bc_split (fun hb => ?_) (fun hb => ?_) <;> (rw [hb]; conv => whnf))
          | (refine And.intro (by first
              | omega
              | assumption
              | (simp only [St.set_n, St.new_n] at *; omega)
              | (simp; done)
              | (simp; omega)
              | (intro _ _; first | assumption | (simp only [St.set_n, St.new_n] at *; omega))
              | (intro _; exact trivial)
              | (intro _; intro _ _; exact trivial)
              | (intro _; intro j hj; first | rfl | (have hj' : j < 1 := hj
                                                     obtain rfl : j = 0 := by omega
                                                     exact ⟨rfl, rfl⟩))
              | (intro j hj; obtain rfl : j = 0 := by omega
                 first | exact ⟨rfl, rfl⟩ | exact .inl ⟨rfl, rfl⟩ | exact .inr (by omega) | exact ⟨by assumption, by assumption⟩ | assumption | trivial)
              | exact .inr (by assumption)
              | (intro j hj; exact .inr (by simp only [St.set_n, St.new_n] at *; omega))
              | (intro e he; rcases List.mem_singleton.1 he with rfl; exact ⟨rfl, rfl⟩)
              | (rw [St.set_ne _ _ (by first | assumption | omega | (simp only [St.set_n, St.new_n] at *; omega))]; assumption)
              | (rw [St.set_ne _ _ (by first | assumption | omega | (simp only [St.set_n, St.new_n] at *; omega)), St.set_ne _ _ (by first | assumption | omega | (simp only [St.set_n, St.new_n] at *; omega))]; assumption)
              | (simp only [decide_eq_true_eq, decide_eq_false_iff_not, Bool.not_eq_true, beq_iff_eq, beq_eq_false_iff_ne, ne_eq, ge_iff_le, gt_iff_lt] at *; omega)) ?_; conv => whnf)
          | (rw [St.set_same]; conv => whnf)
          | (rw [St.new_same]; conv => whnf)
          | (rw [St.set_ne _ _ (by first | assumption | omega | (simp only [St.set_n, St.new_n] at *; omega))]; conv => whnf)
          | (rw [St.new_ne _ _ (by first | assumption | omega | (simp only [St.set_n, St.new_n] at *; omega))]; conv => whnf))
      exact next _ ⟨rfl, rfl, rfl, int_eq hinc, trivial⟩
    · obtain ⟨q1, q2, q3⟩ := p9 hk
      generalize textOf t = T at q1 q2 q3 ⊢
      have g5 : ((t.1 : Int) == 2) = false := beq_eq_false_iff_ne.2 (by omega)
      have hr : IntKind.i64.wrap ((t.2.1 : Int) + (T.length : Int)) = ((t.2.1 + T.length : Nat) : Int) := by rw [w64 (by omega) (by omega)]; omega
      have hnn : 0 ≤ IntKind.i64.wrap ((i : Int) + 1) := by rw [hinc]; omega
      have g6 : ((ts ++ [endTk s]).map tkA)[(IntKind.i64.wrap ((i : Int) + 1)).toNat]? = some (tkA t') := by rw [hinc]; show ((ts ++ [endTk s]).map tkA)[i + 1]? = _; rw [List.getElem?_map]; unfold endTk; rw [p2]; rfl
      have g7 : decide (((t.2.1 + T.length : Nat) : Int) > t'.2.1) = false := decide_eq_false (by omega)
      have g9 : (!(((s.take ((t.2.1 + T.length : Nat) : Int).toNat).drop (t.2.1 : Int).toNat) == T)) = false := by
        show (!(((s.take (t.2.1 + T.length)).drop t.2.1) == T)) = false
        rw [q2]; simp
      conv => whnf
      repeat' (first
          | (refine Bc_t ?_; conv => whnf)
          | (refine Bc_f ?_; conv => whnf)
          | (rw [g1]; conv => whnf)
          | (rw [g2]; conv => whnf)
          | (rw [g3]; conv => whnf)
          | (rw [g4]; conv => whnf)
          | (rw [g5]; conv => whnf)
          | (rw [g6]; conv => whnf)
          | (rw [g7]; conv => whnf)
          | (rw [g8]; conv => whnf)
          | (rw [g9]; conv => whnf)
          | (rw [hr]; conv => whnf)
          | (refine Bc_split (fun hb => ?_) (fun hb => ?_) <;> (rw [hb]; conv => whnf))
          | (refine And.intro (by first
              | omega
              | assumption
              | (simp only [St.set_n, St.new_n] at *; omega)
              | (simp; done)
              | (simp; omega)
              | (intro _ _; first | assumption | (simp only [St.set_n, St.new_n] at *; omega))
              | (intro _; exact trivial)
              | (intro _; intro _ _; exact trivial)
              | (intro _; intro j hj; first | rfl | (have hj' : j < 1 := hj
                                                     obtain rfl : j = 0 := by omega
                                                     exact ⟨rfl, rfl⟩))
              | (intro j hj; obtain rfl : j = 0 := by omega
                 first | exact ⟨rfl, rfl⟩ | exact .inl ⟨rfl, rfl⟩ | exact .inr (by omega) | exact ⟨by assumption, by assumption⟩ | assumption | trivial)
              | exact .inr (by assumption)
              | (intro j hj; exact .inr (by simp only [St.set_n, St.new_n] at *; omega))
              | (intro e he; rcases List.mem_singleton.1 he with rfl; exact ⟨rfl, rfl⟩)
              | (rw [St.set_ne _ _ (by first | assumption | omega | (simp only [St.set_n, St.new_n] at *; omega))]; assumption)
              | (rw [St.set_ne _ _ (by first | assumption | omega | (simp only [St.set_n, St.new_n] at *; omega)), St.set_ne _ _ (by first | assumption | omega | (simp only [St.set_n, St.new_n] at *; omega))]; assumption)
              | (simp only [decide_eq_true_eq, decide_eq_false_iff_not, Bool.not_eq_true, beq_iff_eq, beq_eq_false_iff_ne, ne_eq, ge_iff_le, gt_iff_lt] at *; omega)) ?_; conv => whnf)
          | (rw [St.set_same]; conv => whnf)
          | (rw [St.new_same]; conv => whnf)
          | (rw [St.set_ne _ _ (by first | assumption | omega | (simp only [St.set_n, St.new_n] at *; omega))]; conv => whnf)
          | (rw [St.new_ne _ _ (by first | assumption | omega | (simp only [St.set_n, St.new_n] at *; omega))]; conv => whnf))
      refine ACallsW.of (lex_ok ((s.take t'.2.1).drop (t.2.1 + T.length)) _ hB Non) (fun _ _ _ h => h.elim) ?_
      rintro _ σ2 _ ⟨e1, rfl⟩
      have e2 := e1.symm
      subst e2
      rw [lexA_ok (by rw [List.length_drop, List.length_take]; omega) q3]
      conv => whnf
      repeat' (first
          | (refine Bc_t ?_; conv => whnf)
          | (refine Bc_f ?_; conv => whnf)
          | (rw [g1]; conv => whnf)
          | (rw [g2]; conv => whnf)
          | (rw [g3]; conv => whnf)
          | (rw [g4]; conv => whnf)
          | (rw [g5]; conv => whnf)
          | (rw [g6]; conv => whnf)
          | (rw [g7]; conv => whnf)
          | (rw [g8]; conv => whnf)
          | (rw [g9]; conv => whnf)
          | (rw [hr]; conv => whnf)
          | (refine Bc_split (fun hb => ?_) (fun hb => ?_) <;> (rw [hb]; conv => whnf))
          | (refine And.intro (by first
              | omega
              | assumption
              | (simp only [St.set_n, St.new_n] at *; omega)
              | (simp; done)
              | (simp; omega)
              | (intro _ _; first | assumption | (simp only [St.set_n, St.new_n] at *; omega))
              | (intro _; exact trivial)
              | (intro _; intro _ _; exact trivial)
              | (intro _; intro j hj; first | rfl | (have hj' : j < 1 := hj
                                                     obtain rfl : j = 0 := by omega
                                                     exact ⟨rfl, rfl⟩))
              | (intro j hj; obtain rfl : j = 0 := by omega
                 first | exact ⟨rfl, rfl⟩ | exact .inl ⟨rfl, rfl⟩ | exact .inr (by omega) | exact ⟨by assumption, by assumption⟩ | assumption | trivial)
              | exact .inr (by assumption)
              | (intro j hj; exact .inr (by simp only [St.set_n, St.new_n] at *; omega))
              | (intro e he; rcases List.mem_singleton.1 he with rfl; exact ⟨rfl, rfl⟩)
              | (rw [St.set_ne _ _ (by first | assumption | omega | (simp only [St.set_n, St.new_n] at *; omega))]; assumption)
              | (rw [St.set_ne _ _ (by first | assumption | omega | (simp only [St.set_n, St.new_n] at *; omega)), St.set_ne _ _ (by first | assumption | omega | (simp only [St.set_n, St.new_n] at *; omega))]; assumption)
              | (simp only [decide_eq_true_eq, decide_eq_false_iff_not, Bool.not_eq_true, beq_iff_eq, beq_eq_false_iff_ne, ne_eq, ge_iff_le, gt_iff_lt] at *; omega)) ?_; conv => whnf)
          | (rw [St.set_same]; conv => whnf)
          | (rw [St.new_same]; conv => whnf)
          | (rw [St.set_ne _ _ (by first | assumption | omega | (simp only [St.set_n, St.new_n] at *; omega))]; conv => whnf)
          | (rw [St.new_ne _ _ (by first | assumption | omega | (simp only [St.set_n, St.new_n] at *; omega))]; conv => whnf))
      exact next _ ⟨rfl, rfl, rfl, int_eq hinc, trivial⟩
end
end Go.Proofs.YtjeccchbeflddaaDoor.Ga
