/- LexCuts: the walk. -/
import Derived.Test.YtjeccchbeflddaaDoorLa12
import Derived.Test.YtjeccchbeflddaaDoorLa13
import Derived.Test.YtjeccchbeflddaaDoorLc
set_option linter.unusedVariables false
set_option linter.unusedSimpArgs false
namespace Go.Proofs.YtjeccchbeflddaaDoor.Ga
open Lx

def c_cuts : SFun := ⟨67, (.seq (.reg [⟨(some 4), (.mov (.const (.bool false))), none⟩]) (.seq (.seq (.reg [⟨(some 11), (.call 9 []), none⟩, ⟨(some 12), (.un .not (.tmp 11)), none⟩]) (.cond (.tmp 12) (.seq (.reg [⟨(some 4), (.mov (.const (.bool false))), none⟩]) .ret) .skip)) (.seq (.reg [⟨(some 14), (.mov (.tmp 0)), none⟩, ⟨(some 15), (.call 14 [(.tmp 14)]), none⟩, ⟨(some 13), (.mov (.tmp 15)), none⟩, ⟨(some 16), (.extract (.tmp 13) 0), none⟩, ⟨(some 17), (.extract (.tmp 13) 1), none⟩, ⟨(some 18), (.extract (.tmp 13) 2), none⟩, ⟨(some 5), (.mov (.tmp 16)), none⟩, ⟨(some 6), (.mov (.tmp 17)), none⟩, ⟨(some 7), (.mov (.tmp 18)), none⟩]) (.seq (.seq (.reg [⟨(some 19), (.mov (.tmp 6)), none⟩, ⟨(some 20), (.bin .neq .none (.tmp 19) (.const (.int .i64 0))), none⟩, ⟨(some 21), (.mov (.tmp 20)), none⟩, ⟨(some 22), (.mov (.tmp 1)), (some (21, false))⟩, ⟨(some 23), (.bin .lss .none (.tmp 22) (.const (.int .i64 0))), (some (21, false))⟩, ⟨(some 24), (.pick (.tmp 21) (.const (.bool true)) (.tmp 23)), none⟩, ⟨(some 25), (.mov (.tmp 24)), none⟩, ⟨(some 26), (.mov (.tmp 1)), (some (25, false))⟩, ⟨(some 27), (.mov (.tmp 5)), (some (25, false))⟩, ⟨(some 28), (.len .sl (.tmp 27)), (some (25, false))⟩, ⟨(some 29), (.bin .geq .none (.tmp 26) (.tmp 28)), (some (25, false))⟩, ⟨(some 30), (.pick (.tmp 25) (.const (.bool true)) (.tmp 29)), none⟩]) (.cond (.tmp 30) (.seq (.reg [⟨(some 4), (.mov (.const (.bool true))), none⟩]) .ret) .skip)) (.seq (.reg [⟨(some 32), (.mov (.tmp 0)), none⟩, ⟨(some 33), (.mov (.tmp 5)), none⟩, ⟨(some 34), (.mov (.tmp 1)), none⟩, ⟨(some 35), (.idxAddr 4 (.tmp 33) (.tmp 34)), none⟩, ⟨(some 36), (.fieldAddr 1 (.tmp 35)), none⟩, ⟨(some 37), (.load false 1 (.tmp 36)), none⟩, ⟨(some 38), (.sliceStr (.tmp 32) none (some (.tmp 37))), none⟩, ⟨(some 39), (.call 14 [(.tmp 38)]), none⟩, ⟨(some 31), (.mov (.tmp 39)), none⟩, ⟨(some 40), (.extract (.tmp 31) 0), none⟩, ⟨(some 41), (.extract (.tmp 31) 1), none⟩, ⟨(some 42), (.extract (.tmp 31) 2), none⟩, ⟨(some 8), (.mov (.tmp 40)), none⟩, ⟨(some 9), (.mov (.tmp 41)), none⟩, ⟨(some 10), (.mov (.tmp 42)), none⟩]) (.seq (.seq (.reg [⟨(some 43), (.mov (.tmp 9)), none⟩, ⟨(some 44), (.bin .neq .none (.tmp 43) (.const (.int .i64 0))), none⟩, ⟨(some 45), (.mov (.tmp 44)), none⟩, ⟨(some 46), (.mov (.tmp 8)), (some (45, false))⟩, ⟨(some 47), (.len .sl (.tmp 46)), (some (45, false))⟩, ⟨(some 48), (.mov (.tmp 1)), (some (45, false))⟩, ⟨(some 49), (.bin .add .none (.tmp 48) (.const (.int .i64 1))), (some (45, false))⟩, ⟨(some 50), (.bin .neq .none (.tmp 47) (.tmp 49)), (some (45, false))⟩, ⟨(some 51), (.pick (.tmp 45) (.const (.bool true)) (.tmp 50)), none⟩, ⟨(some 52), (.mov (.tmp 51)), none⟩, ⟨(some 53), (.mov (.tmp 8)), (some (52, false))⟩, ⟨(some 54), (.mov (.tmp 1)), (some (52, false))⟩, ⟨(some 55), (.idxAddr 4 (.tmp 53) (.tmp 54)), (some (52, false))⟩, ⟨(some 56), (.fieldAddr 0 (.tmp 55)), (some (52, false))⟩, ⟨(some 57), (.load false 1 (.tmp 56)), (some (52, false))⟩, ⟨(some 58), (.bin .neq .none (.tmp 57) (.const (.int .i64 0))), (some (52, false))⟩, ⟨(some 59), (.pick (.tmp 52) (.const (.bool true)) (.tmp 58)), none⟩]) (.cond (.tmp 59) (.seq (.reg [⟨(some 4), (.mov (.const (.bool false))), none⟩]) .ret) .skip)) (.seq (.dreg [(0, ⟨(some 60), (.mov (.tmp 8)), none⟩), (0, ⟨(some 61), (.mov (.tmp 1)), none⟩), (0, ⟨(some 62), (.sliceSl 4 (.tmp 60) none (some (.tmp 61)) none), none⟩), (0, ⟨(some 63), (.mov (.tmp 5)), none⟩), (0, ⟨(some 64), (.mov (.tmp 1)), none⟩), (0, ⟨(some 65), (.sliceSl 4 (.tmp 63) none (some (.tmp 64)) none), none⟩), (1, ⟨(some 66), (.call 15 [(.tmp 62), (.tmp 65)]), none⟩), (2, ⟨(some 4), (.mov (.tmp 66)), none⟩)]) .ret))))))), [(.tmp 4)]⟩
theorem c_cuts_ok : cFun Tryd.prog Tryd.f8 = some c_cuts := by kernel_rfl

theorem rd_len {l : List UInt8} {us : List Tk} (h : Rd l us) : us.length ≤ l.length := by
  induction h with
  | fin h => simp
  | tok h1 h2 _ ih =>
    have q1 := ((skip_suf _ _ _ _ _ h1).1 rfl).length_le
    have q2 := (tok_suf h2).2
    simp only [List.length_cons]
    omega
theorem lexAll_len {s : List UInt8} {ts : List Tk} (h : lexAll s = .ok ts) : ts.length ≤ s.length := by
  obtain ⟨us, h1, rfl⟩ := lexAll_rd.1 h
  rw [List.length_map]
  exact rd_len h1

def endTk (s : List UInt8) : Tk := (0, s.length, 0, [])
theorem lexA_ok {s : List UInt8} {ts : List Tk} (hs : ¬ 4096 < s.length) (h : lexAll s = .ok ts) : lexA s = .tup [.sl .no 4 ((ts ++ [endTk s]).map tkA), .int .i64 0, .int .i64 0] := by
  rw [lexA, if_neg hs, h]; rfl
theorem lexA_err {s : List UInt8} {p : Nat × Nat} (hs : ¬ 4096 < s.length) (h : lexAll s = .error p) : lexA s = .tup [.nils, .int .i64 p.1, .int .i64 p.2] := by
  rw [lexA, if_neg hs, h]
theorem lexA_big {s : List UInt8} (hs : 4096 < s.length) : lexA s = .tup [.nils, .int .i64 4, .int .i64 0] := by
  rw [lexA, if_pos hs]

section
attribute [local irreducible] Bc ACallsW ALoop Fin St.set St.new
theorem cuts_ok (s : List UInt8) (i : Int) (hi : i < 9223372036854775808) (σ : St) (hB : B0 σ.base) (m) : ACalls Tryd.prog 8 [.str s, .int .i64 i] σ m (fun e σ' => σ' = σ ∧ e = .ret (.bool true)) := by
  refine acalls_go mixed Tryd.func8 c_cuts_ok (Nat.le_of_ble_eq_true rfl) ?_
  conv => whnf
  refine ACallsW.of (awake_ok _ hB Non) (fun _ _ _ h => h.elim) ?_
  rintro _ σ1 _ ⟨e1, rfl⟩
  have e2 := e1.symm
  subst e2
  conv => whnf
  repeat' (first
      | (refine Bc_t ?_; conv => whnf)
      | (refine Bc_f ?_; conv => whnf)
      | (rw [g1]; conv => whnf)
      | (rw [g2]; conv => whnf)
      | (rw [g3]; conv => whnf)
      | (rw [g4]; conv => whnf)
      | (rw [g5]; conv => whnf)
      | (rw [g6]; conv => whnf)
      | (rw [hr]; conv => whnf)
      | (refine Bc_split (fun hb => ?_) (fun hb => ?_) <;> (rw [hb]; conv => whnf))
      | (refine And.intro (by first
          | omega
          | assumption
          | (simp only [St.set_n, St.new_n] at *; omega)
          | (simp; done)
          | (simp; omega)
          | (intro _; exact trivial)
          | (intro _; intro _ _; exact trivial)
          | (intro _; intro j hj; first | rfl | (have hj' : j < 1 := hj
                                                 obtain rfl : j = 0 := by omega
                                                 exact ⟨rfl, rfl⟩))
          | (intro j hj; obtain rfl : j = 0 := by omega
             first | exact ⟨rfl, rfl⟩ | exact .inl ⟨rfl, rfl⟩ | exact .inr (by omega) | exact ⟨by assumption, by assumption⟩ | assumption | trivial)
          | exact .inr (by assumption)
          | (intro j hj; exact .inr (by simp only [St.set_n, St.new_n] at *; omega))
          | (intro e he; rcases List.mem_singleton.1 he with rfl; exact ⟨rfl, rfl⟩)
          | (rw [St.set_ne _ _ (by first | assumption | omega | (simp only [St.set_n, St.new_n] at *; omega))]; assumption)
          | (rw [St.set_ne _ _ (by first | assumption | omega | (simp only [St.set_n, St.new_n] at *; omega)), St.set_ne _ _ (by first | assumption | omega | (simp only [St.set_n, St.new_n] at *; omega))]; assumption)
          | (simp only [decide_eq_true_eq, decide_eq_false_iff_not, Bool.not_eq_true, beq_iff_eq, beq_eq_false_iff_ne, ne_eq, ge_iff_le, gt_iff_lt] at *; omega)) ?_; conv => whnf)
      | (rw [St.set_same]; conv => whnf)
      | (rw [St.new_same]; conv => whnf)
      | (rw [St.set_ne _ _ (by first | assumption | omega | (simp only [St.set_n, St.new_n] at *; omega))]; conv => whnf)
      | (rw [St.new_ne _ _ (by first | assumption | omega | (simp only [St.set_n, St.new_n] at *; omega))]; conv => whnf))
  refine ACallsW.of (lex_ok s _ hB Non) (fun _ _ _ h => h.elim) ?_
  rintro _ σ1 _ ⟨e1, rfl⟩
  have e2 := e1.symm
  subst e2
  by_cases hbig : 4096 < s.length
  · rw [lexA_big hbig]
    conv => whnf
    repeat' (first
        | (refine Bc_t ?_; conv => whnf)
        | (refine Bc_f ?_; conv => whnf)
        | (rw [g1]; conv => whnf)
        | (rw [g2]; conv => whnf)
        | (rw [g3]; conv => whnf)
        | (rw [g4]; conv => whnf)
        | (rw [g5]; conv => whnf)
        | (rw [g6]; conv => whnf)
        | (rw [hr]; conv => whnf)
        | (refine Bc_split (fun hb => ?_) (fun hb => ?_) <;> (rw [hb]; conv => whnf))
        | (refine And.intro (by first
            | omega
            | assumption
            | (simp only [St.set_n, St.new_n] at *; omega)
            | (simp; done)
            | (simp; omega)
            | (intro _; exact trivial)
            | (intro _; intro _ _; exact trivial)
            | (intro _; intro j hj; first | rfl | (have hj' : j < 1 := hj
                                                   obtain rfl : j = 0 := by omega
                                                   exact ⟨rfl, rfl⟩))
            | (intro j hj; obtain rfl : j = 0 := by omega
               first | exact ⟨rfl, rfl⟩ | exact .inl ⟨rfl, rfl⟩ | exact .inr (by omega) | exact ⟨by assumption, by assumption⟩ | assumption | trivial)
            | exact .inr (by assumption)
            | (intro j hj; exact .inr (by simp only [St.set_n, St.new_n] at *; omega))
            | (intro e he; rcases List.mem_singleton.1 he with rfl; exact ⟨rfl, rfl⟩)
            | (rw [St.set_ne _ _ (by first | assumption | omega | (simp only [St.set_n, St.new_n] at *; omega))]; assumption)
            | (rw [St.set_ne _ _ (by first | assumption | omega | (simp only [St.set_n, St.new_n] at *; omega)), St.set_ne _ _ (by first | assumption | omega | (simp only [St.set_n, St.new_n] at *; omega))]; assumption)
            | (simp only [decide_eq_true_eq, decide_eq_false_iff_not, Bool.not_eq_true, beq_iff_eq, beq_eq_false_iff_ne, ne_eq, ge_iff_le, gt_iff_lt] at *; omega)) ?_; conv => whnf)
        | (rw [St.set_same]; conv => whnf)
        | (rw [St.new_same]; conv => whnf)
        | (rw [St.set_ne _ _ (by first | assumption | omega | (simp only [St.set_n, St.new_n] at *; omega))]; conv => whnf)
        | (rw [St.new_ne _ _ (by first | assumption | omega | (simp only [St.set_n, St.new_n] at *; omega))]; conv => whnf))
    exact Fin.of ⟨rfl, rfl⟩
  cases hl : lexAll s with
  | error p =>
    rw [lexA_err hbig hl]
    conv => whnf
    repeat' (first
        | (refine Bc_t ?_; conv => whnf)
        | (refine Bc_f ?_; conv => whnf)
        | (rw [g1]; conv => whnf)
        | (rw [g2]; conv => whnf)
        | (rw [g3]; conv => whnf)
        | (rw [g4]; conv => whnf)
        | (rw [g5]; conv => whnf)
        | (rw [g6]; conv => whnf)
        | (rw [hr]; conv => whnf)
        | (refine Bc_split (fun hb => ?_) (fun hb => ?_) <;> (rw [hb]; conv => whnf))
        | (refine And.intro (by first
            | omega
            | assumption
            | (simp only [St.set_n, St.new_n] at *; omega)
            | (simp; done)
            | (simp; omega)
            | (intro _; exact trivial)
            | (intro _; intro _ _; exact trivial)
            | (intro _; intro j hj; first | rfl | (have hj' : j < 1 := hj
                                                   obtain rfl : j = 0 := by omega
                                                   exact ⟨rfl, rfl⟩))
            | (intro j hj; obtain rfl : j = 0 := by omega
               first | exact ⟨rfl, rfl⟩ | exact .inl ⟨rfl, rfl⟩ | exact .inr (by omega) | exact ⟨by assumption, by assumption⟩ | assumption | trivial)
            | exact .inr (by assumption)
            | (intro j hj; exact .inr (by simp only [St.set_n, St.new_n] at *; omega))
            | (intro e he; rcases List.mem_singleton.1 he with rfl; exact ⟨rfl, rfl⟩)
            | (rw [St.set_ne _ _ (by first | assumption | omega | (simp only [St.set_n, St.new_n] at *; omega))]; assumption)
            | (rw [St.set_ne _ _ (by first | assumption | omega | (simp only [St.set_n, St.new_n] at *; omega)), St.set_ne _ _ (by first | assumption | omega | (simp only [St.set_n, St.new_n] at *; omega))]; assumption)
            | (simp only [decide_eq_true_eq, decide_eq_false_iff_not, Bool.not_eq_true, beq_iff_eq, beq_eq_false_iff_ne, ne_eq, ge_iff_le, gt_iff_lt] at *; omega)) ?_; conv => whnf)
        | (rw [St.set_same]; conv => whnf)
        | (rw [St.new_same]; conv => whnf)
        | (rw [St.set_ne _ _ (by first | assumption | omega | (simp only [St.set_n, St.new_n] at *; omega))]; conv => whnf)
        | (rw [St.new_ne _ _ (by first | assumption | omega | (simp only [St.set_n, St.new_n] at *; omega))]; conv => whnf))
    · exact Fin.of ⟨rfl, rfl⟩
    · exact Fin.of ⟨rfl, rfl⟩
    · exact Fin.of ⟨rfl, rfl⟩
    · rename_i h1; have := of_decide_eq_false h1; have := of_decide_eq_false hb; omega
  | ok ts =>
    rw [lexA_ok hbig hl]
    by_cases h0 : i < 0
    · have g1 : decide (i < 0) = true := decide_eq_true h0
      conv => whnf
      repeat' (first
          | (refine Bc_t ?_; conv => whnf)
          | (refine Bc_f ?_; conv => whnf)
          | (rw [g1]; conv => whnf)
          | (rw [g2]; conv => whnf)
          | (rw [g3]; conv => whnf)
          | (rw [g4]; conv => whnf)
          | (rw [g5]; conv => whnf)
          | (rw [g6]; conv => whnf)
          | (rw [hr]; conv => whnf)
          | (refine Bc_split (fun hb => ?_) (fun hb => ?_) <;> (rw [hb]; conv => whnf))
          | (refine And.intro (by first
              | omega
              | assumption
              | (simp only [St.set_n, St.new_n] at *; omega)
              | (simp; done)
              | (simp; omega)
              | (intro _; exact trivial)
              | (intro _; intro _ _; exact trivial)
              | (intro _; intro j hj; first | rfl | (have hj' : j < 1 := hj
                                                     obtain rfl : j = 0 := by omega
                                                     exact ⟨rfl, rfl⟩))
              | (intro j hj; obtain rfl : j = 0 := by omega
                 first | exact ⟨rfl, rfl⟩ | exact .inl ⟨rfl, rfl⟩ | exact .inr (by omega) | exact ⟨by assumption, by assumption⟩ | assumption | trivial)
              | exact .inr (by assumption)
              | (intro j hj; exact .inr (by simp only [St.set_n, St.new_n] at *; omega))
              | (intro e he; rcases List.mem_singleton.1 he with rfl; exact ⟨rfl, rfl⟩)
              | (rw [St.set_ne _ _ (by first | assumption | omega | (simp only [St.set_n, St.new_n] at *; omega))]; assumption)
              | (rw [St.set_ne _ _ (by first | assumption | omega | (simp only [St.set_n, St.new_n] at *; omega)), St.set_ne _ _ (by first | assumption | omega | (simp only [St.set_n, St.new_n] at *; omega))]; assumption)
              | (simp only [decide_eq_true_eq, decide_eq_false_iff_not, Bool.not_eq_true, beq_iff_eq, beq_eq_false_iff_ne, ne_eq, ge_iff_le, gt_iff_lt] at *; omega)) ?_; conv => whnf)
          | (rw [St.set_same]; conv => whnf)
          | (rw [St.new_same]; conv => whnf)
          | (rw [St.set_ne _ _ (by first | assumption | omega | (simp only [St.set_n, St.new_n] at *; omega))]; conv => whnf)
          | (rw [St.new_ne _ _ (by first | assumption | omega | (simp only [St.set_n, St.new_n] at *; omega))]; conv => whnf))
      exact Fin.of ⟨rfl, rfl⟩
    have g1 : decide (i < 0) = false := decide_eq_false h0
    obtain ⟨j, rfl⟩ : ∃ j : Nat, i = j := ⟨i.toNat, by omega⟩
    by_cases h1 : j < (ts ++ [endTk s]).length
    · have g2 : decide ((j : Int) ≥ ((ts ++ [endTk s]).map tkA).length) = false := by rw [List.length_map]; exact decide_eq_false (by omega)
      obtain ⟨t, ht⟩ : ∃ t, (ts ++ [endTk s])[j]? = some t := ⟨_, List.getElem?_eq_getElem h1⟩
      have g3 : ((ts ++ [endTk s]).map tkA)[(j : Int).toNat]? = some (tkA t) := by show ((ts ++ [endTk s]).map tkA)[j]? = _; rw [List.getElem?_map, ht]; rfl
      have hj : j ≤ ts.length := by simp at h1; omega
      obtain ⟨c1, c2⟩ := cuts hl j hj t.2.1 (by show ((ts ++ [endTk s])[j]?).map _ = _; rw [ht]; rfl)
      have hpl : (s.take t.2.1).length = t.2.1 := by rw [List.length_take]; omega
      conv => whnf
      repeat' (first
          | (refine Bc_t ?_; conv => whnf)
          | (refine Bc_f ?_; conv => whnf)
          | (rw [g1]; conv => whnf)
          | (rw [g2]; conv => whnf)
          | (rw [g3]; conv => whnf)
          | (rw [g4]; conv => whnf)
          | (rw [g5]; conv => whnf)
          | (rw [g6]; conv => whnf)
          | (rw [hr]; conv => whnf)
          | (refine Bc_split (fun hb => ?_) (fun hb => ?_) <;> (rw [hb]; conv => whnf))
          | (refine And.intro (by first
              | omega
              | assumption
              | (simp only [St.set_n, St.new_n] at *; omega)
              | (simp; done)
              | (simp; omega)
              | (intro _; exact trivial)
              | (intro _; intro _ _; exact trivial)
              | (intro _; intro j hj; first | rfl | (have hj' : j < 1 := hj
                                                     obtain rfl : j = 0 := by omega
                                                     exact ⟨rfl, rfl⟩))
              | (intro j hj; obtain rfl : j = 0 := by omega
                 first | exact ⟨rfl, rfl⟩ | exact .inl ⟨rfl, rfl⟩ | exact .inr (by omega) | exact ⟨by assumption, by assumption⟩ | assumption | trivial)
              | exact .inr (by assumption)
              | (intro j hj; exact .inr (by simp only [St.set_n, St.new_n] at *; omega))
              | (intro e he; rcases List.mem_singleton.1 he with rfl; exact ⟨rfl, rfl⟩)
              | (rw [St.set_ne _ _ (by first | assumption | omega | (simp only [St.set_n, St.new_n] at *; omega))]; assumption)
              | (rw [St.set_ne _ _ (by first | assumption | omega | (simp only [St.set_n, St.new_n] at *; omega)), St.set_ne _ _ (by first | assumption | omega | (simp only [St.set_n, St.new_n] at *; omega))]; assumption)
              | (simp only [decide_eq_true_eq, decide_eq_false_iff_not, Bool.not_eq_true, beq_iff_eq, beq_eq_false_iff_ne, ne_eq, ge_iff_le, gt_iff_lt] at *; omega)) ?_; conv => whnf)
          | (rw [St.set_same]; conv => whnf)
          | (rw [St.new_same]; conv => whnf)
          | (rw [St.set_ne _ _ (by first | assumption | omega | (simp only [St.set_n, St.new_n] at *; omega))]; conv => whnf)
          | (rw [St.new_ne _ _ (by first | assumption | omega | (simp only [St.set_n, St.new_n] at *; omega))]; conv => whnf))
      refine ACallsW.of (lex_ok (s.take t.2.1) _ hB Non) (fun _ _ _ h => h.elim) ?_
      rintro _ σ1 _ ⟨e1, rfl⟩
      have e2 := e1.symm
      subst e2
      rw [lexA_ok (by omega) c2]
      have g1 : ((((ts.take j ++ [endTk (s.take t.2.1)]).map tkA).length : Int) != IntKind.i64.wrap ((j : Int) + 1)) = false := by
        have := lexAll_len hl
        rw [w64 (by omega) (by omega), List.length_map, List.length_append, List.length_take]
        simp
        omega
      have g2 : ((ts.take j ++ [endTk (s.take t.2.1)]).map tkA)[(j : Int).toNat]? = some (tkA (endTk (s.take t.2.1))) := by
        show ((ts.take j ++ [endTk (s.take t.2.1)]).map tkA)[j]? = _
        rw [List.getElem?_map, List.getElem?_append_right (by rw [List.length_take]; omega), List.length_take, Nat.min_eq_left hj, Nat.sub_self]
        rfl
      have hmt : (((ts.take j ++ [endTk (s.take t.2.1)]).map tkA).take (j : Int).toNat).drop 0 = (ts.take j).map tkA := by
        show ((ts.take j ++ [endTk (s.take t.2.1)]).map tkA).take j = _
        rw [List.map_append, List.take_append_of_le_length (by rw [List.length_map, List.length_take]; omega), List.take_of_length_le (by rw [List.length_map, List.length_take]; omega)]
      have hlt : (((ts ++ [endTk s]).map tkA).take (j : Int).toNat).drop 0 = (ts.take j).map tkA := by
        show ((ts ++ [endTk s]).map tkA).take j = _
        rw [List.map_append, List.take_append_of_le_length (by rw [List.length_map]; omega), List.map_take]
      have hll : j ≤ ((ts.take j ++ [endTk (s.take t.2.1)]).map tkA).length := by rw [List.length_map, List.length_append, List.length_take]; omega
      have hll2 : j ≤ ((ts ++ [endTk s]).map tkA).length := by rw [List.length_map, List.length_append]; omega
      conv => whnf
      repeat' (first
          | (refine Bc_t ?_; conv => whnf)
          | (refine Bc_f ?_; conv => whnf)
          | (rw [g1]; conv => whnf)
          | (rw [g2]; conv => whnf)
          | (rw [g3]; conv => whnf)
          | (rw [g4]; conv => whnf)
          | (rw [g5]; conv => whnf)
          | (rw [g6]; conv => whnf)
          | (rw [hr]; conv => whnf)
          | (refine Bc_split (fun hb => ?_) (fun hb => ?_) <;> (rw [hb]; conv => whnf))
          | (refine And.intro (by first
              | omega
              | assumption
              | (simp only [St.set_n, St.new_n] at *; omega)
              | (simp; done)
              | (simp; omega)
              | (intro _; exact trivial)
              | (intro _; intro _ _; exact trivial)
              | (intro _; intro j hj; first | rfl | (have hj' : j < 1 := hj
                                                     obtain rfl : j = 0 := by omega
                                                     exact ⟨rfl, rfl⟩))
              | (intro j hj; obtain rfl : j = 0 := by omega
                 first | exact ⟨rfl, rfl⟩ | exact .inl ⟨rfl, rfl⟩ | exact .inr (by omega) | exact ⟨by assumption, by assumption⟩ | assumption | trivial)
              | exact .inr (by assumption)
              | (intro j hj; exact .inr (by simp only [St.set_n, St.new_n] at *; omega))
              | (intro e he; rcases List.mem_singleton.1 he with rfl; exact ⟨rfl, rfl⟩)
              | (rw [St.set_ne _ _ (by first | assumption | omega | (simp only [St.set_n, St.new_n] at *; omega))]; assumption)
              | (rw [St.set_ne _ _ (by first | assumption | omega | (simp only [St.set_n, St.new_n] at *; omega)), St.set_ne _ _ (by first | assumption | omega | (simp only [St.set_n, St.new_n] at *; omega))]; assumption)
              | (simp only [decide_eq_true_eq, decide_eq_false_iff_not, Bool.not_eq_true, beq_iff_eq, beq_eq_false_iff_ne, ne_eq, ge_iff_le, gt_iff_lt] at *; omega)) ?_; conv => whnf)
          | (rw [St.set_same]; conv => whnf)
          | (rw [St.new_same]; conv => whnf)
          | (rw [St.set_ne _ _ (by first | assumption | omega | (simp only [St.set_n, St.new_n] at *; omega))]; conv => whnf)
          | (rw [St.new_ne _ _ (by first | assumption | omega | (simp only [St.set_n, St.new_n] at *; omega))]; conv => whnf))
      refine Exists.intro (fun _ _ => True) ?_
      conv => whnf
      repeat' (first
          | (refine Bc_t ?_; conv => whnf)
          | (refine Bc_f ?_; conv => whnf)
          | (rw [g1]; conv => whnf)
          | (rw [g2]; conv => whnf)
          | (rw [g3]; conv => whnf)
          | (rw [g4]; conv => whnf)
          | (rw [g5]; conv => whnf)
          | (rw [g6]; conv => whnf)
          | (rw [hr]; conv => whnf)
          | (refine Bc_split (fun hb => ?_) (fun hb => ?_) <;> (rw [hb]; conv => whnf))
          | (refine And.intro (by first
              | omega
              | assumption
              | (simp only [St.set_n, St.new_n] at *; omega)
              | (simp; done)
              | (simp; omega)
              | (intro _; exact trivial)
              | (intro _; intro _ _; exact trivial)
              | (intro _; intro j hj; first | rfl | (have hj' : j < 1 := hj
                                                     obtain rfl : j = 0 := by omega
                                                     exact ⟨rfl, rfl⟩))
              | (intro j hj; obtain rfl : j = 0 := by omega
                 first | exact ⟨rfl, rfl⟩ | exact .inl ⟨rfl, rfl⟩ | exact .inr (by omega) | exact ⟨by assumption, by assumption⟩ | assumption | trivial)
              | exact .inr (by assumption)
              | (intro j hj; exact .inr (by simp only [St.set_n, St.new_n] at *; omega))
              | (intro e he; rcases List.mem_singleton.1 he with rfl; exact ⟨rfl, rfl⟩)
              | (rw [St.set_ne _ _ (by first | assumption | omega | (simp only [St.set_n, St.new_n] at *; omega))]; assumption)
              | (rw [St.set_ne _ _ (by first | assumption | omega | (simp only [St.set_n, St.new_n] at *; omega)), St.set_ne _ _ (by first | assumption | omega | (simp only [St.set_n, St.new_n] at *; omega))]; assumption)
              | (simp only [decide_eq_true_eq, decide_eq_false_iff_not, Bool.not_eq_true, beq_iff_eq, beq_eq_false_iff_ne, ne_eq, ge_iff_le, gt_iff_lt] at *; omega)) ?_; conv => whnf)
          | (rw [St.set_same]; conv => whnf)
          | (rw [St.new_same]; conv => whnf)
          | (rw [St.set_ne _ _ (by first | assumption | omega | (simp only [St.set_n, St.new_n] at *; omega))]; conv => whnf)
          | (rw [St.new_ne _ _ (by first | assumption | omega | (simp only [St.set_n, St.new_n] at *; omega))]; conv => whnf))
      refine ACallsW.of (same_ok (l := ts.take j) (l' := ts.take j) (.inr ⟨.no, congrArg _ hmt⟩) (.inr ⟨.no, congrArg _ hlt⟩) (by have := lexAll_len hl; rw [List.length_take]; omega) _ Non) (fun _ _ _ h => h.elim) ?_
      rintro _ σ1 _ ⟨e1, rfl⟩
      have e2 := e1.symm
      subst e2
      conv => whnf
      repeat' (first
          | (refine Bc_t ?_; conv => whnf)
          | (refine Bc_f ?_; conv => whnf)
          | (rw [g1]; conv => whnf)
          | (rw [g2]; conv => whnf)
          | (rw [g3]; conv => whnf)
          | (rw [g4]; conv => whnf)
          | (rw [g5]; conv => whnf)
          | (rw [g6]; conv => whnf)
          | (rw [hr]; conv => whnf)
          | (refine Bc_split (fun hb => ?_) (fun hb => ?_) <;> (rw [hb]; conv => whnf))
          | (refine And.intro (by first
              | omega
              | assumption
              | (simp only [St.set_n, St.new_n] at *; omega)
              | (simp; done)
              | (simp; omega)
              | (intro _; exact trivial)
              | (intro _; intro _ _; exact trivial)
              | (intro _; intro j hj; first | rfl | (have hj' : j < 1 := hj
                                                     obtain rfl : j = 0 := by omega
                                                     exact ⟨rfl, rfl⟩))
              | (intro j hj; obtain rfl : j = 0 := by omega
                 first | exact ⟨rfl, rfl⟩ | exact .inl ⟨rfl, rfl⟩ | exact .inr (by omega) | exact ⟨by assumption, by assumption⟩ | assumption | trivial)
              | exact .inr (by assumption)
              | (intro j hj; exact .inr (by simp only [St.set_n, St.new_n] at *; omega))
              | (intro e he; rcases List.mem_singleton.1 he with rfl; exact ⟨rfl, rfl⟩)
              | (rw [St.set_ne _ _ (by first | assumption | omega | (simp only [St.set_n, St.new_n] at *; omega))]; assumption)
              | (rw [St.set_ne _ _ (by first | assumption | omega | (simp only [St.set_n, St.new_n] at *; omega)), St.set_ne _ _ (by first | assumption | omega | (simp only [St.set_n, St.new_n] at *; omega))]; assumption)
              | (simp only [decide_eq_true_eq, decide_eq_false_iff_not, Bool.not_eq_true, beq_iff_eq, beq_eq_false_iff_ne, ne_eq, ge_iff_le, gt_iff_lt] at *; omega)) ?_; conv => whnf)
          | (rw [St.set_same]; conv => whnf)
          | (rw [St.new_same]; conv => whnf)
          | (rw [St.set_ne _ _ (by first | assumption | omega | (simp only [St.set_n, St.new_n] at *; omega))]; conv => whnf)
          | (rw [St.new_ne _ _ (by first | assumption | omega | (simp only [St.set_n, St.new_n] at *; omega))]; conv => whnf))
      exact Fin.of ⟨rfl, congrArg (fun z => AEnd.ret (A.bool z)) (decide_eq_true rfl)⟩
    · have g2 : decide ((j : Int) ≥ ((ts ++ [endTk s]).map tkA).length) = true := by rw [List.length_map]; exact decide_eq_true (by omega)
      conv => whnf
      repeat' (first
          | (refine Bc_t ?_; conv => whnf)
          | (refine Bc_f ?_; conv => whnf)
          | (rw [g1]; conv => whnf)
          | (rw [g2]; conv => whnf)
          | (rw [g3]; conv => whnf)
          | (rw [g4]; conv => whnf)
          | (rw [g5]; conv => whnf)
          | (rw [g6]; conv => whnf)
          | (rw [hr]; conv => whnf)
          | (refine Bc_split (fun hb => ?_) (fun hb => ?_) <;> (rw [hb]; conv => whnf))
          | (refine And.intro (by first
              | omega
              | assumption
              | (simp only [St.set_n, St.new_n] at *; omega)
              | (simp; done)
              | (simp; omega)
              | (intro _; exact trivial)
              | (intro _; intro _ _; exact trivial)
              | (intro _; intro j hj; first | rfl | (have hj' : j < 1 := hj
                                                     obtain rfl : j = 0 := by omega
                                                     exact ⟨rfl, rfl⟩))
              | (intro j hj; obtain rfl : j = 0 := by omega
                 first | exact ⟨rfl, rfl⟩ | exact .inl ⟨rfl, rfl⟩ | exact .inr (by omega) | exact ⟨by assumption, by assumption⟩ | assumption | trivial)
              | exact .inr (by assumption)
              | (intro j hj; exact .inr (by simp only [St.set_n, St.new_n] at *; omega))
              | (intro e he; rcases List.mem_singleton.1 he with rfl; exact ⟨rfl, rfl⟩)
              | (rw [St.set_ne _ _ (by first | assumption | omega | (simp only [St.set_n, St.new_n] at *; omega))]; assumption)
              | (rw [St.set_ne _ _ (by first | assumption | omega | (simp only [St.set_n, St.new_n] at *; omega)), St.set_ne _ _ (by first | assumption | omega | (simp only [St.set_n, St.new_n] at *; omega))]; assumption)
              | (simp only [decide_eq_true_eq, decide_eq_false_iff_not, Bool.not_eq_true, beq_iff_eq, beq_eq_false_iff_ne, ne_eq, ge_iff_le, gt_iff_lt] at *; omega)) ?_; conv => whnf)
          | (rw [St.set_same]; conv => whnf)
          | (rw [St.new_same]; conv => whnf)
          | (rw [St.set_ne _ _ (by first | assumption | omega | (simp only [St.set_n, St.new_n] at *; omega))]; conv => whnf)
          | (rw [St.new_ne _ _ (by first | assumption | omega | (simp only [St.set_n, St.new_n] at *; omega))]; conv => whnf))
      exact Fin.of ⟨rfl, rfl⟩
end
end Go.Proofs.YtjeccchbeflddaaDoor.Ga
