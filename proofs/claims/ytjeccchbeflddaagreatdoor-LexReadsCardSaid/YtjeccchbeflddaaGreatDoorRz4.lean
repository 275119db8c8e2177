/- The reference's lexer: texts. -/
import Derived.Test.YtjeccchbeflddaaGreatDoorRz3
set_option linter.unusedVariables false
set_option linter.unusedSimpArgs false
namespace Go.Proofs.YtjeccchbeflddaaGreatDoor.Ga
open Lx

def c_ztext : SFun := ⟨55, (.seq (.reg [⟨(some 4), (.mov (.const (.str []))), none⟩, ⟨(some 5), (.mov (.const (.int .i64 0))), none⟩]) (.seq (.reg [⟨(some 10), (.buildSl 1 (.int .u8 0) 0 []), none⟩, ⟨(some 6), (.mov (.tmp 10)), none⟩]) (.seq (.seq (.reg [⟨(some 11), (.mov (.tmp 1)), none⟩, ⟨(some 12), (.bin .add .none (.tmp 11) (.const (.int .i64 1))), none⟩, ⟨(some 7), (.mov (.tmp 12)), none⟩]) (.block 0 (.loop (.seq (.seq (.reg [⟨(some 13), (.mov (.tmp 7)), none⟩, ⟨(some 14), (.mov (.tmp 0)), none⟩, ⟨(some 15), (.len .str (.tmp 14)), none⟩, ⟨(some 16), (.bin .lss .none (.tmp 13) (.tmp 15)), none⟩]) (.cond (.tmp 16) .skip (.exit 0))) (.seq (.block 1 (.seq (.seq (.reg [⟨(some 19), (.mov (.tmp 0)), none⟩, ⟨(some 20), (.mov (.tmp 7)), none⟩, ⟨(some 21), (.idxStr (.tmp 19) (.tmp 20)), none⟩, ⟨(some 22), (.bin .eql .none (.tmp 21) (.const (.int .u8 34))), none⟩]) (.cond (.tmp 22) (.seq (.reg [⟨(some 23), (.mov (.tmp 6)), none⟩, ⟨(some 24), (.toStr (.tmp 23)), none⟩, ⟨(some 25), (.mov (.tmp 7)), none⟩, ⟨(some 26), (.bin .add .none (.tmp 25) (.const (.int .i64 1))), none⟩, ⟨(some 27), (.mov (.tmp 1)), none⟩, ⟨(some 28), (.bin .sub .none (.tmp 26) (.tmp 27)), none⟩, ⟨(some 4), (.mov (.tmp 24)), none⟩, ⟨(some 5), (.mov (.tmp 28)), none⟩]) .ret) .skip)) (.seq (.seq (.reg [⟨(some 29), (.mov (.tmp 0)), none⟩, ⟨(some 30), (.mov (.tmp 7)), none⟩, ⟨(some 31), (.idxStr (.tmp 29) (.tmp 30)), none⟩, ⟨(some 32), (.bin .neq .none (.tmp 31) (.const (.int .u8 92))), none⟩]) (.cond (.tmp 32) (.seq (.reg [⟨(some 33), (.mov (.tmp 6)), none⟩, ⟨(some 34), (.mov (.tmp 0)), none⟩, ⟨(some 35), (.mov (.tmp 7)), none⟩, ⟨(some 36), (.idxStr (.tmp 34) (.tmp 35)), none⟩, ⟨(some 37), (.buildSl 1 (.int .u8 0) 1 [(0, (.tmp 36))]), none⟩, ⟨(some 38), (.append false 1 1 (.tmp 33) (.tmp 37)), none⟩, ⟨(some 6), (.mov (.tmp 38)), none⟩]) (.exit 1)) .skip)) (.seq (.reg [⟨(some 40), (.mov (.tmp 0)), none⟩, ⟨(some 41), (.mov (.tmp 7)), none⟩, ⟨(some 42), (.bin .add .none (.tmp 41) (.const (.int .i64 1))), none⟩, ⟨(some 43), (.call 50 [(.tmp 40), (.tmp 42)]), none⟩, ⟨(some 39), (.mov (.tmp 43)), none⟩, ⟨(some 44), (.extract (.tmp 39) 0), none⟩, ⟨(some 45), (.extract (.tmp 39) 1), none⟩, ⟨(some 8), (.mov (.tmp 44)), none⟩, ⟨(some 9), (.mov (.tmp 45)), none⟩]) (.seq (.seq (.reg [⟨(some 46), (.mov (.tmp 9)), none⟩, ⟨(some 47), (.bin .eql .none (.tmp 46) (.const (.int .i64 0))), none⟩]) (.cond (.tmp 47) (.seq (.reg [⟨(some 4), (.mov (.const (.str []))), none⟩, ⟨(some 5), (.mov (.const (.int .i64 0))), none⟩]) .ret) .skip)) (.seq (.reg [⟨(some 48), (.mov (.tmp 6)), none⟩, ⟨(some 49), (.mov (.tmp 8)), none⟩, ⟨(some 50), (.buildSl 1 (.int .u8 0) 1 [(0, (.tmp 49))]), none⟩, ⟨(some 51), (.append false 1 1 (.tmp 48) (.tmp 50)), none⟩, ⟨(some 6), (.mov (.tmp 51)), none⟩]) (.reg [⟨(some 52), (.mov (.tmp 7)), none⟩, ⟨(some 53), (.mov (.tmp 9)), none⟩, ⟨(some 54), (.bin .add .none (.tmp 52) (.tmp 53)), none⟩, ⟨(some 7), (.mov (.tmp 54)), none⟩]))))))) (.reg [⟨(some 17), (.mov (.tmp 7)), none⟩, ⟨(some 18), (.bin .add .none (.tmp 17) (.const (.int .i64 1))), none⟩, ⟨(some 7), (.mov (.tmp 18)), none⟩])))))) (.seq (.reg [⟨(some 4), (.mov (.const (.str []))), none⟩, ⟨(some 5), (.mov (.const (.int .i64 0))), none⟩]) .ret)))), [(.tmp 4), (.tmp 5)]⟩
theorem c_ztext_ok : cFun Tryz.prog Tryz.f37 = some c_ztext := by kernel_rfl

def textA (s : List UInt8) (i : Nat) : A := match txt 0 0 (s.drop (i + 1)) with
  | none => .tup [.str [], .int .i64 0]
  | some (v, l) => .tup [.str v, .int .i64 ((s.length - l.length - i : Nat))]

section
attribute [local irreducible] Bc ACallsW ALoop Fin St.set St.new appendS
set_option maxHeartbeats 4000000 in
theorem ztext_raw (s : List UInt8) (i : Nat) (hs : s.length ≤ 10000) (hi : i < s.length) (σ : St) : ACalls Tryz.prog 37 [.str s, .int .i64 i] σ (fun id _ => σ.n ≤ id) (fun e σ' => e = .ret (textA s i)) := by
  refine acalls_go mixed Tryz.func37 c_ztext_ok (Nat.le_of_ble_eq_true rfl) ?_
  conv => whnf
  unfold ALoop
  refine ⟨fun k env σ1 => ∃ (j : Nat) (v : List UInt8) (b : A), k = s.length - j ∧ i + 1 ≤ j ∧ j ≤ s.length ∧ v.length ≤ j ∧ σ.n ≤ σ1.n ∧ BufF σ.n σ1 v b ∧
      txt 0 0 (s.drop (i + 1)) = (txt 0 0 (s.drop j)).map (fun p => (v ++ p.1, p.2)) ∧ env = [(0, .str s), (1, .int .i64 i), (6, b), (7, .int .i64 j)], _,
    [(0, .str s), (1, .int .i64 i), (6, .sl .full 1 (bs [])), (7, .int .i64 (i + 1 : Nat))], ⟨rfl, rfl, rfl, int_eq (by rw [w64 (by omega) (by omega)]; omega), trivial⟩,
    ⟨i + 1, [], _, rfl, by omega, by omega, by simp, Nat.le_refl _, .inl rfl, by cases txt 0 0 (s.drop (i + 1)) <;> rfl, rfl⟩, ?_⟩
  rintro k env σ1 ⟨j, v, b, rfl, hij, hj, hvj, hn, hbuf, htx, rfl⟩
  by_cases hlt : j < s.length
  rotate_left 1
  · obtain rfl : j = s.length := by omega
    have g1 : decide ((s.length : Int) < s.length) = false := by simp
    have hres : textA s i = .tup [.str [], .int .i64 0] := by
      unfold textA
      rw [htx, List.drop_length, txt_nil]
      rfl
    conv => whnf
    repeat' (first
        | (refine Bc_t ?_; conv => whnf)
        | (refine Bc_f ?_; conv => whnf)
        | (rw [g1]; conv => whnf)
        | (rw [g2]; conv => whnf)
        | (rw [g3]; conv => whnf)
        | (rw [g4]; conv => whnf)
        | (rw [g5]; conv => whnf)
        | (rw [g6]; conv => whnf)
        | (rw [g7]; conv => whnf)
        | (rw [g8]; conv => whnf)
        | (rw [g9]; conv => whnf)
        | (rw [hr]; conv => whnf)
        | (refine Bc_split (fun hb => ?_) (fun hb => ?_) <;> (rw [hb]; conv => whnf))
        | (refine And.intro (by first
            | omega
            | assumption
            | (simp only [St.set_n, St.new_n] at *; omega)
            | (simp; done)
            | (simp; omega)
            | (intro _ _; first | assumption | (simp only [St.set_n, St.new_n] at *; omega))
            | (intro _; exact trivial)
            | (intro _; intro _ _; exact trivial)
            | (intro _; intro j hj; first | rfl | (have hj' : j < 1 := hj
                                                   obtain rfl : j = 0 := by omega
                                                   exact ⟨rfl, rfl⟩))
            | (intro j hj; obtain rfl : j = 0 := by omega
               first | exact ⟨rfl, rfl⟩ | exact .inl ⟨rfl, rfl⟩ | exact .inr (by omega) | exact ⟨by assumption, by assumption⟩ | assumption | trivial)
            | exact .inr (by assumption)
            | (intro j hj; exact .inr (by simp only [St.set_n, St.new_n] at *; omega))
            | (intro e he; rcases List.mem_singleton.1 he with rfl; exact ⟨rfl, rfl⟩)
            | (rw [St.set_ne _ _ (by first | assumption | omega | (simp only [St.set_n, St.new_n] at *; omega))]; assumption)
            | (rw [St.set_ne _ _ (by first | assumption | omega | (simp only [St.set_n, St.new_n] at *; omega)), St.set_ne _ _ (by first | assumption | omega | (simp only [St.set_n, St.new_n] at *; omega))]; assumption)
            | (simp only [decide_eq_true_eq, decide_eq_false_iff_not, Bool.not_eq_true, beq_iff_eq, beq_eq_false_iff_ne, ne_eq, ge_iff_le, gt_iff_lt] at *; omega)) ?_; conv => whnf)
        | (rw [St.set_same]; conv => whnf)
        | (rw [St.new_same]; conv => whnf)
        | (rw [St.set_ne _ _ (by first | assumption | omega | (simp only [St.set_n, St.new_n] at *; omega))]; conv => whnf)
        | (rw [St.new_ne _ _ (by first | assumption | omega | (simp only [St.set_n, St.new_n] at *; omega))]; conv => whnf))
    exact Fin.of (by rw [hres]; rfl)
  have g1 : decide ((j : Int) < s.length) = true := decide_eq_true (by omega)
  have hgd : s.getD (j : Int).toNat 0 = s.getD j 0 := rfl
  rw [one_drop hlt, txt0] at htx
  have c1 := u8_beqz (s.getD j 0) 34
  have c2 := u8_beqz (s.getD j 0) 92
  generalize hc : s.getD j 0 = c at c1 c2 htx hgd
  cases h34 : (c == 34) with
  | true =>
    rw [h34] at c1 htx
    have htx : txt 0 0 (s.drop (i + 1)) = some (v ++ [], s.drop (j + 1)) := htx
    have g2 : (((s.getD (j : Int).toNat 0).toNat : Int) == 34) = true := by rw [hgd]; exact c1
    have hres : textA s i = .tup [.str v, .int .i64 ((j + 1 - i : Nat))] := by
      unfold textA
      rw [htx]
      show A.tup [.str (v ++ []), .int .i64 ((s.length - (s.drop (j + 1)).length - i : Nat))] = _
      rw [List.append_nil, List.length_drop, show s.length - (s.length - (j + 1)) - i = j + 1 - i by omega]
    have hsub : IntKind.i64.wrap (IntKind.i64.wrap ((j : Int) + 1) - (i : Int)) = ((j + 1 - i : Nat) : Int) := by rw [w64 (n := (j : Int) + 1) (by omega) (by omega), w64 (by omega) (by omega)]; omega
    rcases hbuf with rfl | ⟨t, _, _, _, rfl⟩
    · conv => whnf
      repeat' (first
          | (refine Bc_t ?_; conv => whnf)
          | (refine Bc_f ?_; conv => whnf)
          | (rw [g1]; conv => whnf)
          | (rw [g2]; conv => whnf)
          | (rw [g3]; conv => whnf)
          | (rw [g4]; conv => whnf)
          | (rw [g5]; conv => whnf)
          | (rw [g6]; conv => whnf)
          | (rw [g7]; conv => whnf)
          | (rw [g8]; conv => whnf)
          | (rw [g9]; conv => whnf)
          | (rw [hr]; conv => whnf)
          | (refine Bc_split (fun hb => ?_) (fun hb => ?_) <;> (rw [hb]; conv => whnf))
          | (refine And.intro (by first
              | omega
              | assumption
              | (simp only [St.set_n, St.new_n] at *; omega)
              | (simp; done)
              | (simp; omega)
              | (intro _ _; first | assumption | (simp only [St.set_n, St.new_n] at *; omega))
              | (intro _; exact trivial)
              | (intro _; intro _ _; exact trivial)
              | (intro _; intro j hj; first | rfl | (have hj' : j < 1 := hj
                                                     obtain rfl : j = 0 := by omega
                                                     exact ⟨rfl, rfl⟩))
              | (intro j hj; obtain rfl : j = 0 := by omega
                 first | exact ⟨rfl, rfl⟩ | exact .inl ⟨rfl, rfl⟩ | exact .inr (by omega) | exact ⟨by assumption, by assumption⟩ | assumption | trivial)
              | exact .inr (by assumption)
              | (intro j hj; exact .inr (by simp only [St.set_n, St.new_n] at *; omega))
              | (intro e he; rcases List.mem_singleton.1 he with rfl; exact ⟨rfl, rfl⟩)
              | (rw [St.set_ne _ _ (by first | assumption | omega | (simp only [St.set_n, St.new_n] at *; omega))]; assumption)
              | (rw [St.set_ne _ _ (by first | assumption | omega | (simp only [St.set_n, St.new_n] at *; omega)), St.set_ne _ _ (by first | assumption | omega | (simp only [St.set_n, St.new_n] at *; omega))]; assumption)
              | (simp only [decide_eq_true_eq, decide_eq_false_iff_not, Bool.not_eq_true, beq_iff_eq, beq_eq_false_iff_ne, ne_eq, ge_iff_le, gt_iff_lt] at *; omega)) ?_; conv => whnf)
          | (rw [St.set_same]; conv => whnf)
          | (rw [St.new_same]; conv => whnf)
          | (rw [St.set_ne _ _ (by first | assumption | omega | (simp only [St.set_n, St.new_n] at *; omega))]; conv => whnf)
          | (rw [St.new_ne _ _ (by first | assumption | omega | (simp only [St.set_n, St.new_n] at *; omega))]; conv => whnf))
      refine ⟨v, rfl, ?_⟩
      have hr := hsub
      conv => whnf
      repeat' (first
          | (refine Bc_t ?_; conv => whnf)
          | (refine Bc_f ?_; conv => whnf)
          | (rw [g1]; conv => whnf)
          | (rw [g2]; conv => whnf)
          | (rw [g3]; conv => whnf)
          | (rw [g4]; conv => whnf)
          | (rw [g5]; conv => whnf)
          | (rw [g6]; conv => whnf)
          | (rw [g7]; conv => whnf)
          | (rw [g8]; conv => whnf)
          | (rw [g9]; conv => whnf)
          | (rw [hr]; conv => whnf)
          | (refine Bc_split (fun hb => ?_) (fun hb => ?_) <;> (rw [hb]; conv => whnf))
          | (refine And.intro (by first
              | omega
              | assumption
              | (simp only [St.set_n, St.new_n] at *; omega)
              | (simp; done)
              | (simp; omega)
              | (intro _ _; first | assumption | (simp only [St.set_n, St.new_n] at *; omega))
              | (intro _; exact trivial)
              | (intro _; intro _ _; exact trivial)
              | (intro _; intro j hj; first | rfl | (have hj' : j < 1 := hj
                                                     obtain rfl : j = 0 := by omega
                                                     exact ⟨rfl, rfl⟩))
              | (intro j hj; obtain rfl : j = 0 := by omega
                 first | exact ⟨rfl, rfl⟩ | exact .inl ⟨rfl, rfl⟩ | exact .inr (by omega) | exact ⟨by assumption, by assumption⟩ | assumption | trivial)
              | exact .inr (by assumption)
              | (intro j hj; exact .inr (by simp only [St.set_n, St.new_n] at *; omega))
              | (intro e he; rcases List.mem_singleton.1 he with rfl; exact ⟨rfl, rfl⟩)
              | (rw [St.set_ne _ _ (by first | assumption | omega | (simp only [St.set_n, St.new_n] at *; omega))]; assumption)
              | (rw [St.set_ne _ _ (by first | assumption | omega | (simp only [St.set_n, St.new_n] at *; omega)), St.set_ne _ _ (by first | assumption | omega | (simp only [St.set_n, St.new_n] at *; omega))]; assumption)
              | (simp only [decide_eq_true_eq, decide_eq_false_iff_not, Bool.not_eq_true, beq_iff_eq, beq_eq_false_iff_ne, ne_eq, ge_iff_le, gt_iff_lt] at *; omega)) ?_; conv => whnf)
          | (rw [St.set_same]; conv => whnf)
          | (rw [St.new_same]; conv => whnf)
          | (rw [St.set_ne _ _ (by first | assumption | omega | (simp only [St.set_n, St.new_n] at *; omega))]; conv => whnf)
          | (rw [St.new_ne _ _ (by first | assumption | omega | (simp only [St.set_n, St.new_n] at *; omega))]; conv => whnf))
      refine Fin.of ?_
      rw [hres, ← hsub]
      rfl
    · conv => whnf
      repeat' (first
          | (refine Bc_t ?_; conv => whnf)
          | (refine Bc_f ?_; conv => whnf)
          | (rw [g1]; conv => whnf)
          | (rw [g2]; conv => whnf)
          | (rw [g3]; conv => whnf)
          | (rw [g4]; conv => whnf)
          | (rw [g5]; conv => whnf)
          | (rw [g6]; conv => whnf)
          | (rw [g7]; conv => whnf)
          | (rw [g8]; conv => whnf)
          | (rw [g9]; conv => whnf)
          | (rw [hr]; conv => whnf)
          | (refine Bc_split (fun hb => ?_) (fun hb => ?_) <;> (rw [hb]; conv => whnf))
          | (refine And.intro (by first
              | omega
              | assumption
              | (simp only [St.set_n, St.new_n] at *; omega)
              | (simp; done)
              | (simp; omega)
              | (intro _ _; first | assumption | (simp only [St.set_n, St.new_n] at *; omega))
              | (intro _; exact trivial)
              | (intro _; intro _ _; exact trivial)
              | (intro _; intro j hj; first | rfl | (have hj' : j < 1 := hj
                                                     obtain rfl : j = 0 := by omega
                                                     exact ⟨rfl, rfl⟩))
              | (intro j hj; obtain rfl : j = 0 := by omega
                 first | exact ⟨rfl, rfl⟩ | exact .inl ⟨rfl, rfl⟩ | exact .inr (by omega) | exact ⟨by assumption, by assumption⟩ | assumption | trivial)
              | exact .inr (by assumption)
              | (intro j hj; exact .inr (by simp only [St.set_n, St.new_n] at *; omega))
              | (intro e he; rcases List.mem_singleton.1 he with rfl; exact ⟨rfl, rfl⟩)
              | (rw [St.set_ne _ _ (by first | assumption | omega | (simp only [St.set_n, St.new_n] at *; omega))]; assumption)
              | (rw [St.set_ne _ _ (by first | assumption | omega | (simp only [St.set_n, St.new_n] at *; omega)), St.set_ne _ _ (by first | assumption | omega | (simp only [St.set_n, St.new_n] at *; omega))]; assumption)
              | (simp only [decide_eq_true_eq, decide_eq_false_iff_not, Bool.not_eq_true, beq_iff_eq, beq_eq_false_iff_ne, ne_eq, ge_iff_le, gt_iff_lt] at *; omega)) ?_; conv => whnf)
          | (rw [St.set_same]; conv => whnf)
          | (rw [St.new_same]; conv => whnf)
          | (rw [St.set_ne _ _ (by first | assumption | omega | (simp only [St.set_n, St.new_n] at *; omega))]; conv => whnf)
          | (rw [St.new_ne _ _ (by first | assumption | omega | (simp only [St.set_n, St.new_n] at *; omega))]; conv => whnf))
      refine ⟨v, rfl, ?_⟩
      have hr := hsub
      conv => whnf
      repeat' (first
          | (refine Bc_t ?_; conv => whnf)
          | (refine Bc_f ?_; conv => whnf)
          | (rw [g1]; conv => whnf)
          | (rw [g2]; conv => whnf)
          | (rw [g3]; conv => whnf)
          | (rw [g4]; conv => whnf)
          | (rw [g5]; conv => whnf)
          | (rw [g6]; conv => whnf)
          | (rw [g7]; conv => whnf)
          | (rw [g8]; conv => whnf)
          | (rw [g9]; conv => whnf)
          | (rw [hr]; conv => whnf)
          | (refine Bc_split (fun hb => ?_) (fun hb => ?_) <;> (rw [hb]; conv => whnf))
          | (refine And.intro (by first
              | omega
              | assumption
              | (simp only [St.set_n, St.new_n] at *; omega)
              | (simp; done)
              | (simp; omega)
              | (intro _ _; first | assumption | (simp only [St.set_n, St.new_n] at *; omega))
              | (intro _; exact trivial)
              | (intro _; intro _ _; exact trivial)
              | (intro _; intro j hj; first | rfl | (have hj' : j < 1 := hj
                                                     obtain rfl : j = 0 := by omega
                                                     exact ⟨rfl, rfl⟩))
              | (intro j hj; obtain rfl : j = 0 := by omega
                 first | exact ⟨rfl, rfl⟩ | exact .inl ⟨rfl, rfl⟩ | exact .inr (by omega) | exact ⟨by assumption, by assumption⟩ | assumption | trivial)
              | exact .inr (by assumption)
              | (intro j hj; exact .inr (by simp only [St.set_n, St.new_n] at *; omega))
              | (intro e he; rcases List.mem_singleton.1 he with rfl; exact ⟨rfl, rfl⟩)
              | (rw [St.set_ne _ _ (by first | assumption | omega | (simp only [St.set_n, St.new_n] at *; omega))]; assumption)
              | (rw [St.set_ne _ _ (by first | assumption | omega | (simp only [St.set_n, St.new_n] at *; omega)), St.set_ne _ _ (by first | assumption | omega | (simp only [St.set_n, St.new_n] at *; omega))]; assumption)
              | (simp only [decide_eq_true_eq, decide_eq_false_iff_not, Bool.not_eq_true, beq_iff_eq, beq_eq_false_iff_ne, ne_eq, ge_iff_le, gt_iff_lt] at *; omega)) ?_; conv => whnf)
          | (rw [St.set_same]; conv => whnf)
          | (rw [St.new_same]; conv => whnf)
          | (rw [St.set_ne _ _ (by first | assumption | omega | (simp only [St.set_n, St.new_n] at *; omega))]; conv => whnf)
          | (rw [St.new_ne _ _ (by first | assumption | omega | (simp only [St.set_n, St.new_n] at *; omega))]; conv => whnf))
      refine Fin.of ?_
      rw [hres, ← hsub]
      rfl
  | false =>
  rw [h34] at c1 htx
  have g2 : (((s.getD (j : Int).toNat 0).toNat : Int) == 34) = false := by rw [hgd]; exact c1
  obtain ⟨o, rfl⟩ : ∃ o, b = .sl o 1 (bs v) := by rcases hbuf with rfl | ⟨t, _, _, _, rfl⟩ <;> exact ⟨_, rfl⟩
  cases h92 : (c == 92) with
  | false =>
    rw [h92] at c2 htx
    have htx : txt 0 0 (s.drop (i + 1)) = ((txt 0 0 (s.drop (j + 1))).map fun p => (c :: p.1, p.2)).map (fun p => (v ++ p.1, p.2)) := htx
    have g3 : (((s.getD (j : Int).toNat 0).toNat : Int) != 92) = true := by rw [hgd]; show (!_) = true; rw [show (((c.toNat : Int)) == 92) = false from c2]; rfl
    conv => whnf
    repeat' (first
        | (refine Bc_t ?_; conv => whnf)
        | (refine Bc_f ?_; conv => whnf)
        | (rw [g1]; conv => whnf)
        | (rw [g2]; conv => whnf)
        | (rw [g3]; conv => whnf)
        | (rw [g4]; conv => whnf)
        | (rw [g5]; conv => whnf)
        | (rw [g6]; conv => whnf)
        | (rw [g7]; conv => whnf)
        | (rw [g8]; conv => whnf)
        | (rw [g9]; conv => whnf)
        | (rw [hr]; conv => whnf)
        | (refine Bc_split (fun hb => ?_) (fun hb => ?_) <;> (rw [hb]; conv => whnf))
        | (refine And.intro (by first
            | omega
            | assumption
            | (simp only [St.set_n, St.new_n] at *; omega)
            | (simp; done)
            | (simp; omega)
            | (intro _ _; first | assumption | (simp only [St.set_n, St.new_n] at *; omega))
            | (intro _; exact trivial)
            | (intro _; intro _ _; exact trivial)
            | (intro _; intro j hj; first | rfl | (have hj' : j < 1 := hj
                                                   obtain rfl : j = 0 := by omega
                                                   exact ⟨rfl, rfl⟩))
            | (intro j hj; obtain rfl : j = 0 := by omega
               first | exact ⟨rfl, rfl⟩ | exact .inl ⟨rfl, rfl⟩ | exact .inr (by omega) | exact ⟨by assumption, by assumption⟩ | assumption | trivial)
            | exact .inr (by assumption)
            | (intro j hj; exact .inr (by simp only [St.set_n, St.new_n] at *; omega))
            | (intro e he; rcases List.mem_singleton.1 he with rfl; exact ⟨rfl, rfl⟩)
            | (rw [St.set_ne _ _ (by first | assumption | omega | (simp only [St.set_n, St.new_n] at *; omega))]; assumption)
            | (rw [St.set_ne _ _ (by first | assumption | omega | (simp only [St.set_n, St.new_n] at *; omega)), St.set_ne _ _ (by first | assumption | omega | (simp only [St.set_n, St.new_n] at *; omega))]; assumption)
            | (simp only [decide_eq_true_eq, decide_eq_false_iff_not, Bool.not_eq_true, beq_iff_eq, beq_eq_false_iff_ne, ne_eq, ge_iff_le, gt_iff_lt] at *; omega)) ?_; conv => whnf)
        | (rw [St.set_same]; conv => whnf)
        | (rw [St.new_same]; conv => whnf)
        | (rw [St.set_ne _ _ (by first | assumption | omega | (simp only [St.set_n, St.new_n] at *; omega))]; conv => whnf)
        | (rw [St.new_ne _ _ (by first | assumption | omega | (simp only [St.set_n, St.new_n] at *; omega))]; conv => whnf))
    refine app_step (w := [s.getD j 0]) (fun _ h => h) hbuf (by simp only [List.length_singleton]; omega) hn (fun b' σ' hb' hn' => ?_)
    conv => whnf
    refine ⟨_, [(0, .str s), (1, .int .i64 i), (6, b'), (7, .int .i64 (j + 1 : Nat))], ?_, ⟨rfl, rfl, rfl, int_eq (by rw [w64 (by omega) (by omega)]; omega), trivial⟩, j + 1, v ++ [s.getD j 0], b', rfl, by omega, by omega, by simp; omega, by omega, hb', ?_, rfl⟩
    · omega
    · rw [htx, hc]
      cases txt 0 0 (s.drop (j + 1)) with
      | none => rfl
      | some p => simp
  | true =>
    rw [h92] at c2 htx
    have htx : txt 0 0 (s.drop (i + 1)) = (txt 1 0 (s.drop (j + 1))).map (fun p => (v ++ p.1, p.2)) := htx
    rw [txt_form] at htx
    have g3 : (((s.getD (j : Int).toNat 0).toNat : Int) != 92) = false := by rw [hgd]; show (!_) = false; rw [show (((c.toNat : Int)) == 92) = true from c2]; rfl
    have hr : IntKind.i64.wrap ((j : Int) + 1) = ((j + 1 : Nat) : Int) := by rw [w64 (by omega) (by omega)]; omega
    conv => whnf
    repeat' (first
        | (refine Bc_t ?_; conv => whnf)
        | (refine Bc_f ?_; conv => whnf)
        | (rw [g1]; conv => whnf)
        | (rw [g2]; conv => whnf)
        | (rw [g3]; conv => whnf)
        | (rw [g4]; conv => whnf)
        | (rw [g5]; conv => whnf)
        | (rw [g6]; conv => whnf)
        | (rw [g7]; conv => whnf)
        | (rw [g8]; conv => whnf)
        | (rw [g9]; conv => whnf)
        | (rw [hr]; conv => whnf)
        | (refine Bc_split (fun hb => ?_) (fun hb => ?_) <;> (rw [hb]; conv => whnf))
        | (refine And.intro (by first
            | omega
            | assumption
            | (simp only [St.set_n, St.new_n] at *; omega)
            | (simp; done)
            | (simp; omega)
            | (intro _ _; first | assumption | (simp only [St.set_n, St.new_n] at *; omega))
            | (intro _; exact trivial)
            | (intro _; intro _ _; exact trivial)
            | (intro _; intro j hj; first | rfl | (have hj' : j < 1 := hj
                                                   obtain rfl : j = 0 := by omega
                                                   exact ⟨rfl, rfl⟩))
            | (intro j hj; obtain rfl : j = 0 := by omega
               first | exact ⟨rfl, rfl⟩ | exact .inl ⟨rfl, rfl⟩ | exact .inr (by omega) | exact ⟨by assumption, by assumption⟩ | assumption | trivial)
            | exact .inr (by assumption)
            | (intro j hj; exact .inr (by simp only [St.set_n, St.new_n] at *; omega))
            | (intro e he; rcases List.mem_singleton.1 he with rfl; exact ⟨rfl, rfl⟩)
            | (rw [St.set_ne _ _ (by first | assumption | omega | (simp only [St.set_n, St.new_n] at *; omega))]; assumption)
            | (rw [St.set_ne _ _ (by first | assumption | omega | (simp only [St.set_n, St.new_n] at *; omega)), St.set_ne _ _ (by first | assumption | omega | (simp only [St.set_n, St.new_n] at *; omega))]; assumption)
            | (simp only [decide_eq_true_eq, decide_eq_false_iff_not, Bool.not_eq_true, beq_iff_eq, beq_eq_false_iff_ne, ne_eq, ge_iff_le, gt_iff_lt] at *; omega)) ?_; conv => whnf)
        | (rw [St.set_same]; conv => whnf)
        | (rw [St.new_same]; conv => whnf)
        | (rw [St.set_ne _ _ (by first | assumption | omega | (simp only [St.set_n, St.new_n] at *; omega))]; conv => whnf)
        | (rw [St.new_ne _ _ (by first | assumption | omega | (simp only [St.set_n, St.new_n] at *; omega))]; conv => whnf))
    refine ACallsW.of (zform_ok s (j + 1) hs (by omega) _ Non) (fun _ _ _ h => h.elim) ?_
    rintro _ σ2 _ ⟨e1, rfl⟩
    have e2 := e1.symm
    subst e2
    cases hf : form (s.drop (j + 1)) with
    | none =>
      rw [hf] at htx
      have e3 : formA s (j + 1) = .tup [.int .u8 0, .int .i64 0] := by rw [formA, hf]
      have hres : textA s i = .tup [.str [], .int .i64 0] := by
        unfold textA
        rw [htx]
        rfl
      rw [e3]
      conv => whnf
      repeat' (first
          | (refine Bc_t ?_; conv => whnf)
          | (refine Bc_f ?_; conv => whnf)
          | (rw [g1]; conv => whnf)
          | (rw [g2]; conv => whnf)
          | (rw [g3]; conv => whnf)
          | (rw [g4]; conv => whnf)
          | (rw [g5]; conv => whnf)
          | (rw [g6]; conv => whnf)
          | (rw [g7]; conv => whnf)
          | (rw [g8]; conv => whnf)
          | (rw [g9]; conv => whnf)
          | (rw [hr]; conv => whnf)
          | (refine Bc_split (fun hb => ?_) (fun hb => ?_) <;> (rw [hb]; conv => whnf))
          | (refine And.intro (by first
              | omega
              | assumption
              | (simp only [St.set_n, St.new_n] at *; omega)
              | (simp; done)
              | (simp; omega)
              | (intro _ _; first | assumption | (simp only [St.set_n, St.new_n] at *; omega))
              | (intro _; exact trivial)
              | (intro _; intro _ _; exact trivial)
              | (intro _; intro j hj; first | rfl | (have hj' : j < 1 := hj
                                                     obtain rfl : j = 0 := by omega
                                                     exact ⟨rfl, rfl⟩))
              | (intro j hj; obtain rfl : j = 0 := by omega
                 first | exact ⟨rfl, rfl⟩ | exact .inl ⟨rfl, rfl⟩ | exact .inr (by omega) | exact ⟨by assumption, by assumption⟩ | assumption | trivial)
              | exact .inr (by assumption)
              | (intro j hj; exact .inr (by simp only [St.set_n, St.new_n] at *; omega))
              | (intro e he; rcases List.mem_singleton.1 he with rfl; exact ⟨rfl, rfl⟩)
              | (rw [St.set_ne _ _ (by first | assumption | omega | (simp only [St.set_n, St.new_n] at *; omega))]; assumption)
              | (rw [St.set_ne _ _ (by first | assumption | omega | (simp only [St.set_n, St.new_n] at *; omega)), St.set_ne _ _ (by first | assumption | omega | (simp only [St.set_n, St.new_n] at *; omega))]; assumption)
              | (simp only [decide_eq_true_eq, decide_eq_false_iff_not, Bool.not_eq_true, beq_iff_eq, beq_eq_false_iff_ne, ne_eq, ge_iff_le, gt_iff_lt] at *; omega)) ?_; conv => whnf)
          | (rw [St.set_same]; conv => whnf)
          | (rw [St.new_same]; conv => whnf)
          | (rw [St.set_ne _ _ (by first | assumption | omega | (simp only [St.set_n, St.new_n] at *; omega))]; conv => whnf)
          | (rw [St.new_ne _ _ (by first | assumption | omega | (simp only [St.set_n, St.new_n] at *; omega))]; conv => whnf))
      exact Fin.of (by rw [hres]; rfl)
    | some q =>
      obtain ⟨x, r⟩ := q
      rw [hf] at htx
      have htx : txt 0 0 (s.drop (i + 1)) = ((txt 0 0 r).map fun p => (x :: p.1, p.2)).map (fun p => (v ++ p.1, p.2)) := htx
      obtain ⟨f1, f2⟩ := form_suf hf
      rw [List.length_drop] at f2
      have e3 : formA s (j + 1) = .tup [.int .u8 x.toNat, .int .i64 ((s.length - (j + 1) - r.length : Nat))] := by rw [formA, hf]
      have hrd := suf_drop (f1.trans (List.drop_suffix (j + 1) s))
      generalize hnn : s.length - (j + 1) - r.length = nn at e3
      have g4 : ((nn : Int) == 0) = false := beq_eq_false_iff_ne.2 (by omega)
      rw [e3]
      clear hr
      conv => whnf
      repeat' (first
          | (refine Bc_t ?_; conv => whnf)
          | (refine Bc_f ?_; conv => whnf)
          | (rw [g1]; conv => whnf)
          | (rw [g2]; conv => whnf)
          | (rw [g3]; conv => whnf)
          | (rw [g4]; conv => whnf)
          | (rw [g5]; conv => whnf)
          | (rw [g6]; conv => whnf)
          | (rw [g7]; conv => whnf)
          | (rw [g8]; conv => whnf)
          | (rw [g9]; conv => whnf)
          | (rw [hr]; conv => whnf)
          | (refine Bc_split (fun hb => ?_) (fun hb => ?_) <;> (rw [hb]; conv => whnf))
          | (refine And.intro (by first
              | omega
              | assumption
              | (simp only [St.set_n, St.new_n] at *; omega)
              | (simp; done)
              | (simp; omega)
              | (intro _ _; first | assumption | (simp only [St.set_n, St.new_n] at *; omega))
              | (intro _; exact trivial)
              | (intro _; intro _ _; exact trivial)
              | (intro _; intro j hj; first | rfl | (have hj' : j < 1 := hj
                                                     obtain rfl : j = 0 := by omega
                                                     exact ⟨rfl, rfl⟩))
              | (intro j hj; obtain rfl : j = 0 := by omega
                 first | exact ⟨rfl, rfl⟩ | exact .inl ⟨rfl, rfl⟩ | exact .inr (by omega) | exact ⟨by assumption, by assumption⟩ | assumption | trivial)
              | exact .inr (by assumption)
              | (intro j hj; exact .inr (by simp only [St.set_n, St.new_n] at *; omega))
              | (intro e he; rcases List.mem_singleton.1 he with rfl; exact ⟨rfl, rfl⟩)
              | (rw [St.set_ne _ _ (by first | assumption | omega | (simp only [St.set_n, St.new_n] at *; omega))]; assumption)
              | (rw [St.set_ne _ _ (by first | assumption | omega | (simp only [St.set_n, St.new_n] at *; omega)), St.set_ne _ _ (by first | assumption | omega | (simp only [St.set_n, St.new_n] at *; omega))]; assumption)
              | (simp only [decide_eq_true_eq, decide_eq_false_iff_not, Bool.not_eq_true, beq_iff_eq, beq_eq_false_iff_ne, ne_eq, ge_iff_le, gt_iff_lt] at *; omega)) ?_; conv => whnf)
          | (rw [St.set_same]; conv => whnf)
          | (rw [St.new_same]; conv => whnf)
          | (rw [St.set_ne _ _ (by first | assumption | omega | (simp only [St.set_n, St.new_n] at *; omega))]; conv => whnf)
          | (rw [St.new_ne _ _ (by first | assumption | omega | (simp only [St.set_n, St.new_n] at *; omega))]; conv => whnf))
      refine app_step (w := [x]) (fun _ h => h) hbuf (by simp only [List.length_singleton]; omega) hn (fun b' σ' hb' hn' => ?_)
      conv => whnf
      refine ⟨_, [(0, .str s), (1, .int .i64 i), (6, b'), (7, .int .i64 (s.length - r.length : Nat))], ?_, ⟨rfl, rfl, rfl, int_eq (by rw [w64 (n := (j : Int) + nn) (by omega) (by omega), w64 (by omega) (by omega)]; omega), trivial⟩, s.length - r.length, v ++ [x], b', rfl, by omega, by omega, by simp; omega, by omega, hb', ?_, rfl⟩
      · omega
      · rw [htx, hrd]
        cases txt 0 0 r with
        | none => rfl
        | some p => simp
theorem str_textA (n : Nat) (s : List UInt8) (i : Nat) : Str n (textA s i) (textA s i) := by
  unfold textA
  cases txt 0 0 (s.drop (i + 1)) with
  | none =>
    refine .tup _ _ rfl (fun j x x' h h' => ?_)
    match j with
    | 0 => simp at h h'; subst h h'; exact .str _
    | 1 => simp at h h'; subst h h'; exact .int _ _
    | j + 2 => simp at h
  | some p =>
    refine .tup _ _ rfl (fun j x x' h h' => ?_)
    match j with
    | 0 => simp at h h'; subst h h'; exact .str _
    | 1 => simp at h h'; subst h h'; exact .int _ _
    | j + 2 => simp at h
theorem ztext_ok (s : List UInt8) (i : Nat) (hs : s.length ≤ 10000) (hi : i < s.length) (σ : St) (m) : ACalls Tryz.prog 37 [.str s, .int .i64 i] σ m (fun e σ' => σ' = σ ∧ e = .ret (textA s i)) :=
  gc_plain (ztext_raw s i hs hi σ) (fun _ _ h => h) (str_textA _ _ _) m
end
end Go.Proofs.YtjeccchbeflddaaGreatDoor.Ga
