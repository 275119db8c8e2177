/- The reference's words. -/
import Derived.Test.YtjeccchbeflddaaGreatDoorLa11
set_option linter.unusedVariables false
set_option linter.unusedSimpArgs false
namespace Go.Proofs.YtjeccchbeflddaaGreatDoor.Lx
def wordL : List (List UInt8) := [[97, 110, 100], [97, 115], [98, 101, 103, 105, 110], [100, 111], [100, 111, 110, 101], [100, 111, 119, 110, 116, 111], [101, 108, 115, 101], [101, 110, 100], [101, 120, 99, 101, 112, 116, 105, 111, 110], [102, 97, 108, 115, 101], [102, 111, 114], [102, 117, 110], [102, 117, 110, 99, 116, 105, 111, 110], [105, 102], [105, 110], [108, 101, 116], [109, 97, 116, 99, 104], [109, 111, 100], [109, 117, 116, 97, 98, 108, 101], [110, 111, 116], [111, 102], [114, 97, 105, 115, 101], [114, 101, 99], [116, 104, 101, 110], [116, 111], [116, 114, 117, 101], [116, 114, 121], [116, 121, 112, 101], [119, 104, 101, 110], [119, 104, 105, 108, 101], [119, 105, 116, 104]]
theorem words_flat : wordsText = 32 :: wordL.flatMap (fun w => w ++ [32]) := by decide +kernel
theorem words_noblank : ∀ w ∈ wordL, ∀ b ∈ w, b ≠ 32 := by decide +kernel
theorem words_are : ∀ w ∈ wordL, isWord w = true := by decide +kernel

theorem pre_same : ∀ (s w r : List UInt8), (∀ b ∈ s, b ≠ 32) → (∀ b ∈ w, b ≠ 32) → s ++ [32] <+: w ++ 32 :: r → s = w
  | [], [], r, _, _, _ => rfl
  | [], b :: w, r, _, hw, h => by
    have := List.cons_prefix_cons.1 (show (32 :: []) <+: b :: (w ++ 32 :: r) from h)
    exact absurd this.1.symm (hw b (List.mem_cons_self ..))
  | a :: s, [], r, hs, _, h => by
    have := List.cons_prefix_cons.1 (show a :: (s ++ [32]) <+: 32 :: r from h)
    exact absurd this.1 (hs a (List.mem_cons_self ..))
  | a :: s, b :: w, r, hs, hw, h => by
    have := List.cons_prefix_cons.1 (show a :: (s ++ [32]) <+: b :: (w ++ 32 :: r) from h)
    rw [this.1, pre_same s w r (fun x hx => hs x (List.mem_cons_of_mem _ hx)) (fun x hx => hw x (List.mem_cons_of_mem _ hx)) this.2]

theorem word_at : ∀ (W : List (List UInt8)) (s : List UInt8), (∀ w ∈ W, ∀ b ∈ w, b ≠ 32) → (∀ b ∈ s, b ≠ 32) → ∀ i, 32 :: (s ++ [32]) <+: (32 :: W.flatMap (fun w => w ++ [32])).drop i → s ∈ W
  | [], s, _, hs, i, h => by
    have := h.length_le
    simp only [List.length_cons, List.length_append, List.length_drop, List.flatMap_nil, List.length_nil] at this
    omega
  | w :: W, s, hW, hs, i, h => by
    have hw := hW w (List.mem_cons_self ..)
    have eT : (32 :: (w :: W).flatMap (fun w => w ++ [32])) = 32 :: (w ++ 32 :: W.flatMap (fun w => w ++ [32])) := by
      simp [List.flatMap_cons]
    rw [eT] at h
    cases i with
    | zero =>
      have := (List.cons_prefix_cons.1 (show 32 :: (s ++ [32]) <+: 32 :: (w ++ 32 :: W.flatMap (fun w => w ++ [32])) from h)).2
      rw [pre_same s w _ hs hw this]
      exact List.mem_cons_self ..
    | succ j =>
      rw [List.drop_succ_cons] at h
      by_cases hj : j < w.length
      · rw [List.drop_append_of_le_length (by omega), List.drop_eq_getElem_cons hj, List.cons_append] at h
        have := (List.cons_prefix_cons.1 h).1
        exact absurd this.symm (hw _ (List.getElem_mem hj))
      · have e : (w ++ 32 :: W.flatMap (fun w => w ++ [32])).drop j = (32 :: W.flatMap (fun w => w ++ [32])).drop (j - w.length) := by
          rw [List.drop_append, List.drop_of_length_le (by omega), List.nil_append]
        rw [e] at h
        exact List.mem_cons_of_mem _ (word_at W s (fun x hx => hW x (List.mem_cons_of_mem _ hx)) hs _ h)

theorem isWord_iff (s : List UInt8) : isWord s = decide (s ∈ wordL) := by
  by_cases h : s ∈ wordL
  · rw [words_are s h, decide_eq_true h]
  · rw [decide_eq_false h]
    refine Bool.eq_false_iff.2 fun hw => h ?_
    unfold isWord at hw
    simp only [Bool.and_eq_true, Bool.not_eq_true'] at hw
    obtain ⟨⟨h1, h2⟩, h3⟩ := hw
    have hnb : ∀ b ∈ s, b ≠ 32 := by
      rintro b hb rfl
      unfold Lib.contains at h2
      have h2 := of_decide_eq_false h2
      rcases Lib.index_spec s [32] with ⟨_, q⟩ | ⟨i, q, _⟩
      · obtain ⟨j, hj, hjb⟩ := List.mem_iff_getElem.1 hb
        have := q j (by omega)
        unfold Lib.occAt at this
        rw [List.drop_eq_getElem_cons hj, hjb] at this
        simp [List.isPrefixOf] at this
      · omega
    unfold Lib.contains at h3
    have h3 := of_decide_eq_true h3
    rcases Lib.index_spec wordsText (([32] ++ s) ++ [32]) with ⟨q, _⟩ | ⟨i, _, _, q, _⟩
    · omega
    · unfold Lib.occAt at q
      rw [words_flat] at q
      exact word_at wordL s words_noblank hnb i (List.isPrefixOf_iff_prefix.1 q)
end Go.Proofs.YtjeccchbeflddaaGreatDoor.Lx
namespace Go.Proofs.YtjeccchbeflddaaGreatDoor.Ga
open Lx

def c_rWords : SFun := ⟨2, (.seq (.reg [⟨(some 0), (.mov (.const .nils)), none⟩]) (.seq (.reg [⟨(some 1), (.buildSl 1 (.str []) 31 [(0, (.const (.str [97, 110, 100]))), (1, (.const (.str [97, 115]))), (2, (.const (.str [98, 101, 103, 105, 110]))), (3, (.const (.str [100, 111]))), (4, (.const (.str [100, 111, 110, 101]))), (5, (.const (.str [100, 111, 119, 110, 116, 111]))), (6, (.const (.str [101, 108, 115, 101]))), (7, (.const (.str [101, 110, 100]))), (8, (.const (.str [101, 120, 99, 101, 112, 116, 105, 111, 110]))), (9, (.const (.str [102, 97, 108, 115, 101]))), (10, (.const (.str [102, 111, 114]))), (11, (.const (.str [102, 117, 110]))), (12, (.const (.str [102, 117, 110, 99, 116, 105, 111, 110]))), (13, (.const (.str [105, 102]))), (14, (.const (.str [105, 110]))), (15, (.const (.str [108, 101, 116]))), (16, (.const (.str [109, 97, 116, 99, 104]))), (17, (.const (.str [109, 111, 100]))), (18, (.const (.str [109, 117, 116, 97, 98, 108, 101]))), (19, (.const (.str [110, 111, 116]))), (20, (.const (.str [111, 102]))), (21, (.const (.str [114, 97, 105, 115, 101]))), (22, (.const (.str [114, 101, 99]))), (23, (.const (.str [116, 104, 101, 110]))), (24, (.const (.str [116, 111]))), (25, (.const (.str [116, 114, 117, 101]))), (26, (.const (.str [116, 114, 121]))), (27, (.const (.str [116, 121, 112, 101]))), (28, (.const (.str [119, 104, 101, 110]))), (29, (.const (.str [119, 104, 105, 108, 101]))), (30, (.const (.str [119, 105, 116, 104])))]), none⟩, ⟨(some 0), (.mov (.tmp 1)), none⟩]) .ret)), [(.tmp 0)]⟩
theorem c_rWords_ok : cFun Tryz.prog Tryz.f48 = some c_rWords := by kernel_rfl
def c_rIsWord : SFun := ⟨18, (.seq (.reg [⟨(some 2), (.mov (.const (.bool false))), none⟩]) (.seq (.reg [⟨(some 5), (.call 48 []), none⟩, ⟨(some 3), (.mov (.tmp 5)), none⟩]) (.seq (.seq (.reg [⟨(some 4), (.mov (.const (.int .i64 0))), none⟩]) (.block 0 (.loop (.seq (.seq (.reg [⟨(some 6), (.mov (.tmp 4)), none⟩, ⟨(some 7), (.mov (.tmp 3)), none⟩, ⟨(some 8), (.len .sl (.tmp 7)), none⟩, ⟨(some 9), (.bin .lss .none (.tmp 6) (.tmp 8)), none⟩]) (.cond (.tmp 9) .skip (.exit 0))) (.seq (.block 1 (.seq (.reg [⟨(some 12), (.mov (.tmp 3)), none⟩, ⟨(some 13), (.mov (.tmp 4)), none⟩, ⟨(some 14), (.idxAddr 1 (.tmp 12) (.tmp 13)), none⟩, ⟨(some 15), (.load false 1 (.tmp 14)), none⟩, ⟨(some 16), (.mov (.tmp 0)), none⟩, ⟨(some 17), (.bin .eql .none (.tmp 15) (.tmp 16)), none⟩]) (.cond (.tmp 17) (.seq (.reg [⟨(some 2), (.mov (.const (.bool true))), none⟩]) .ret) .skip))) (.reg [⟨(some 10), (.mov (.tmp 4)), none⟩, ⟨(some 11), (.bin .add .none (.tmp 10) (.const (.int .i64 1))), none⟩, ⟨(some 4), (.mov (.tmp 11)), none⟩])))))) (.seq (.reg [⟨(some 2), (.mov (.const (.bool false))), none⟩]) .ret)))), [(.tmp 2)]⟩
theorem c_rIsWord_ok : cFun Tryz.prog Tryz.f34 = some c_rIsWord := by kernel_rfl

section
attribute [local irreducible] Bc ACallsW ALoop Fin St.set St.new
theorem rWords_ok (σ : St) (m) : ACalls Tryz.prog 48 [] σ m (fun e σ' => σ' = σ ∧ e = .ret (.sl .full 1 (wordL.map A.str))) := by
  refine acalls_go mixed Tryz.func48 c_rWords_ok (Nat.le_of_ble_eq_true rfl) ?_
  conv => whnf
  exact Fin.of ⟨rfl, rfl⟩

theorem rIsWord_ok (s : List UInt8) (σ : St) (m) : ACalls Tryz.prog 34 [.str s] σ m (fun e σ' => σ' = σ ∧ e = .ret (.bool (decide (s ∈ wordL)))) := by
  refine acalls_go mixed Tryz.func34 c_rIsWord_ok (Nat.le_of_ble_eq_true rfl) ?_
  conv => whnf
  refine ACallsW.of (rWords_ok _ Non) (fun _ _ _ h => h.elim) ?_
  rintro _ σ1 _ ⟨e1, rfl⟩
  have e2 := e1.symm
  subst e2
  have hlen : wordL.length = 31 := by decide +kernel
  generalize wordL = W at hlen ⊢
  conv => whnf
  repeat' (first
      | (refine Bc_t ?_; conv => whnf)
      | (refine Bc_f ?_; conv => whnf)
      | (rw [g1]; conv => whnf)
      | (rw [g2]; conv => whnf)
      | (rw [g3]; conv => whnf)
      | (rw [g4]; conv => whnf)
      | (rw [g5]; conv => whnf)
      | (rw [g6]; conv => whnf)
      | (rw [g7]; conv => whnf)
      | (rw [g8]; conv => whnf)
      | (rw [g9]; conv => whnf)
      | (rw [hr]; conv => whnf)
      | (refine Bc_split (fun hb => ?_) (fun hb => ?_) <;> (rw [hb]; conv => whnf))
      | (refine And.intro (by first
          | omega
          | assumption
          | (simp only [St.set_n, St.new_n] at *; omega)
          | (simp; done)
          | (simp; omega)
          | (intro _ _; first | assumption | (simp only [St.set_n, St.new_n] at *; omega))
          | (intro _; exact trivial)
          | (intro _; intro _ _; exact trivial)
          | (intro _; intro j hj; first | rfl | (have hj' : j < 1 := hj
                                                 obtain rfl : j = 0 := by omega
                                                 exact ⟨rfl, rfl⟩))
          | (intro j hj; obtain rfl : j = 0 := by omega
             first | exact ⟨rfl, rfl⟩ | exact .inl ⟨rfl, rfl⟩ | exact .inr (by omega) | exact ⟨by assumption, by assumption⟩ | assumption | trivial)
          | exact .inr (by assumption)
          | (intro j hj; exact .inr (by simp only [St.set_n, St.new_n] at *; omega))
          | (intro e he; rcases List.mem_singleton.1 he with rfl; exact ⟨rfl, rfl⟩)
          | (rw [St.set_ne _ _ (by first | assumption | omega | (simp only [St.set_n, St.new_n] at *; omega))]; assumption)
          | (rw [St.set_ne _ _ (by first | assumption | omega | (simp only [St.set_n, St.new_n] at *; omega)), St.set_ne _ _ (by first | assumption | omega | (simp only [St.set_n, St.new_n] at *; omega))]; assumption)
          | (simp only [decide_eq_true_eq, decide_eq_false_iff_not, Bool.not_eq_true, beq_iff_eq, beq_eq_false_iff_ne, ne_eq, ge_iff_le, gt_iff_lt] at *; omega)) ?_; conv => whnf)
      | (rw [St.set_same]; conv => whnf)
      | (rw [St.new_same]; conv => whnf)
      | (rw [St.set_ne _ _ (by first | assumption | omega | (simp only [St.set_n, St.new_n] at *; omega))]; conv => whnf)
      | (rw [St.new_ne _ _ (by first | assumption | omega | (simp only [St.set_n, St.new_n] at *; omega))]; conv => whnf))
  unfold ALoop
  refine ⟨fun k env σ1 => ∃ i : Nat, k = 31 - i ∧ i ≤ 31 ∧ (∀ x ∈ W.take i, x ≠ s) ∧ σ1 = σ ∧ env = [(0, .str s), (3, .sl .full 1 (W.map A.str)), (4, .int .i64 i)], _,
    [(0, .str s), (3, .sl .full 1 (W.map A.str)), (4, .int .i64 0)], ⟨rfl, rfl, rfl, trivial⟩, ⟨0, rfl, by omega, fun x hx => (by simp at hx), rfl, rfl⟩, ?_⟩
  rintro k env σ1 ⟨i, rfl, hi, hno, rfl, rfl⟩
  by_cases hlt : i < 31
  · obtain ⟨w, hw⟩ : ∃ w, W[i]? = some w := ⟨_, List.getElem?_eq_getElem (by omega)⟩
    have g1 : (W.map A.str)[(i : Int).toNat]? = some (A.str w) := by show (W.map A.str)[i]? = _; rw [List.getElem?_map, hw]; rfl
    have g2 : decide ((i : Int) < (W.map A.str).length) = true := by rw [List.length_map, hlen]; exact decide_eq_true (by omega)
    by_cases hws : w = s
    · have g3 : (w == s) = true := beq_iff_eq.2 hws
      conv => whnf
      repeat' (first
          | (refine Bc_t ?_; conv => whnf)
          | (refine Bc_f ?_; conv => whnf)
          | (rw [g1]; conv => whnf)
          | (rw [g2]; conv => whnf)
          | (rw [g3]; conv => whnf)
          | (rw [g4]; conv => whnf)
          | (rw [g5]; conv => whnf)
          | (rw [g6]; conv => whnf)
          | (rw [g7]; conv => whnf)
          | (rw [g8]; conv => whnf)
          | (rw [g9]; conv => whnf)
          | (rw [hr]; conv => whnf)
          | (refine Bc_split (fun hb => ?_) (fun hb => ?_) <;> (rw [hb]; conv => whnf))
          | (refine And.intro (by first
              | omega
              | assumption
              | (simp only [St.set_n, St.new_n] at *; omega)
              | (simp; done)
              | (simp; omega)
              | (intro _ _; first | assumption | (simp only [St.set_n, St.new_n] at *; omega))
              | (intro _; exact trivial)
              | (intro _; intro _ _; exact trivial)
              | (intro _; intro j hj; first | rfl | (have hj' : j < 1 := hj
                                                     obtain rfl : j = 0 := by omega
                                                     exact ⟨rfl, rfl⟩))
              | (intro j hj; obtain rfl : j = 0 := by omega
                 first | exact ⟨rfl, rfl⟩ | exact .inl ⟨rfl, rfl⟩ | exact .inr (by omega) | exact ⟨by assumption, by assumption⟩ | assumption | trivial)
              | exact .inr (by assumption)
              | (intro j hj; exact .inr (by simp only [St.set_n, St.new_n] at *; omega))
              | (intro e he; rcases List.mem_singleton.1 he with rfl; exact ⟨rfl, rfl⟩)
              | (rw [St.set_ne _ _ (by first | assumption | omega | (simp only [St.set_n, St.new_n] at *; omega))]; assumption)
              | (rw [St.set_ne _ _ (by first | assumption | omega | (simp only [St.set_n, St.new_n] at *; omega)), St.set_ne _ _ (by first | assumption | omega | (simp only [St.set_n, St.new_n] at *; omega))]; assumption)
              | (simp only [decide_eq_true_eq, decide_eq_false_iff_not, Bool.not_eq_true, beq_iff_eq, beq_eq_false_iff_ne, ne_eq, ge_iff_le, gt_iff_lt] at *; omega)) ?_; conv => whnf)
          | (rw [St.set_same]; conv => whnf)
          | (rw [St.new_same]; conv => whnf)
          | (rw [St.set_ne _ _ (by first | assumption | omega | (simp only [St.set_n, St.new_n] at *; omega))]; conv => whnf)
          | (rw [St.new_ne _ _ (by first | assumption | omega | (simp only [St.set_n, St.new_n] at *; omega))]; conv => whnf))
      refine Fin.of ⟨rfl, ?_⟩
      rw [decide_eq_true (hws ▸ List.mem_of_getElem? hw)]
      rfl
    · have g3 : (w == s) = false := beq_eq_false_iff_ne.2 hws
      conv => whnf
      repeat' (first
          | (refine Bc_t ?_; conv => whnf)
          | (refine Bc_f ?_; conv => whnf)
          | (rw [g1]; conv => whnf)
          | (rw [g2]; conv => whnf)
          | (rw [g3]; conv => whnf)
          | (rw [g4]; conv => whnf)
          | (rw [g5]; conv => whnf)
          | (rw [g6]; conv => whnf)
          | (rw [g7]; conv => whnf)
          | (rw [g8]; conv => whnf)
          | (rw [g9]; conv => whnf)
          | (rw [hr]; conv => whnf)
          | (refine Bc_split (fun hb => ?_) (fun hb => ?_) <;> (rw [hb]; conv => whnf))
          | (refine And.intro (by first
              | omega
              | assumption
              | (simp only [St.set_n, St.new_n] at *; omega)
              | (simp; done)
              | (simp; omega)
              | (intro _ _; first | assumption | (simp only [St.set_n, St.new_n] at *; omega))
              | (intro _; exact trivial)
              | (intro _; intro _ _; exact trivial)
              | (intro _; intro j hj; first | rfl | (have hj' : j < 1 := hj
                                                     obtain rfl : j = 0 := by omega
                                                     exact ⟨rfl, rfl⟩))
              | (intro j hj; obtain rfl : j = 0 := by omega
                 first | exact ⟨rfl, rfl⟩ | exact .inl ⟨rfl, rfl⟩ | exact .inr (by omega) | exact ⟨by assumption, by assumption⟩ | assumption | trivial)
              | exact .inr (by assumption)
              | (intro j hj; exact .inr (by simp only [St.set_n, St.new_n] at *; omega))
              | (intro e he; rcases List.mem_singleton.1 he with rfl; exact ⟨rfl, rfl⟩)
              | (rw [St.set_ne _ _ (by first | assumption | omega | (simp only [St.set_n, St.new_n] at *; omega))]; assumption)
              | (rw [St.set_ne _ _ (by first | assumption | omega | (simp only [St.set_n, St.new_n] at *; omega)), St.set_ne _ _ (by first | assumption | omega | (simp only [St.set_n, St.new_n] at *; omega))]; assumption)
              | (simp only [decide_eq_true_eq, decide_eq_false_iff_not, Bool.not_eq_true, beq_iff_eq, beq_eq_false_iff_ne, ne_eq, ge_iff_le, gt_iff_lt] at *; omega)) ?_; conv => whnf)
          | (rw [St.set_same]; conv => whnf)
          | (rw [St.new_same]; conv => whnf)
          | (rw [St.set_ne _ _ (by first | assumption | omega | (simp only [St.set_n, St.new_n] at *; omega))]; conv => whnf)
          | (rw [St.new_ne _ _ (by first | assumption | omega | (simp only [St.set_n, St.new_n] at *; omega))]; conv => whnf))
      refine ⟨_, [(0, .str s), (3, .sl .full 1 (W.map A.str)), (4, .int .i64 (i + 1 : Nat))], ?_, ⟨rfl, rfl, int_eq (by rw [w64 (by omega) (by omega)]; omega), trivial⟩, i + 1, rfl, by omega, fun x hx => ?_, rfl, rfl⟩
      · omega
      · rw [List.take_add_one, hw] at hx
        rcases List.mem_append.1 hx with q | q
        · exact hno x q
        · simp at q; rw [q]; exact hws
  · obtain rfl : i = 31 := by omega
    have g2 : decide (((31 : Nat) : Int) < (W.map A.str).length) = false := by rw [List.length_map, hlen]; decide
    conv => whnf
    repeat' (first
        | (refine Bc_t ?_; conv => whnf)
        | (refine Bc_f ?_; conv => whnf)
        | (rw [g1]; conv => whnf)
        | (rw [g2]; conv => whnf)
        | (rw [g3]; conv => whnf)
        | (rw [g4]; conv => whnf)
        | (rw [g5]; conv => whnf)
        | (rw [g6]; conv => whnf)
        | (rw [g7]; conv => whnf)
        | (rw [g8]; conv => whnf)
        | (rw [g9]; conv => whnf)
        | (rw [hr]; conv => whnf)
        | (refine Bc_split (fun hb => ?_) (fun hb => ?_) <;> (rw [hb]; conv => whnf))
        | (refine And.intro (by first
            | omega
            | assumption
            | (simp only [St.set_n, St.new_n] at *; omega)
            | (simp; done)
            | (simp; omega)
            | (intro _ _; first | assumption | (simp only [St.set_n, St.new_n] at *; omega))
            | (intro _; exact trivial)
            | (intro _; intro _ _; exact trivial)
            | (intro _; intro j hj; first | rfl | (have hj' : j < 1 := hj
                                                   obtain rfl : j = 0 := by omega
                                                   exact ⟨rfl, rfl⟩))
            | (intro j hj; obtain rfl : j = 0 := by omega
               first | exact ⟨rfl, rfl⟩ | exact .inl ⟨rfl, rfl⟩ | exact .inr (by omega) | exact ⟨by assumption, by assumption⟩ | assumption | trivial)
            | exact .inr (by assumption)
            | (intro j hj; exact .inr (by simp only [St.set_n, St.new_n] at *; omega))
            | (intro e he; rcases List.mem_singleton.1 he with rfl; exact ⟨rfl, rfl⟩)
            | (rw [St.set_ne _ _ (by first | assumption | omega | (simp only [St.set_n, St.new_n] at *; omega))]; assumption)
            | (rw [St.set_ne _ _ (by first | assumption | omega | (simp only [St.set_n, St.new_n] at *; omega)), St.set_ne _ _ (by first | assumption | omega | (simp only [St.set_n, St.new_n] at *; omega))]; assumption)
            | (simp only [decide_eq_true_eq, decide_eq_false_iff_not, Bool.not_eq_true, beq_iff_eq, beq_eq_false_iff_ne, ne_eq, ge_iff_le, gt_iff_lt] at *; omega)) ?_; conv => whnf)
        | (rw [St.set_same]; conv => whnf)
        | (rw [St.new_same]; conv => whnf)
        | (rw [St.set_ne _ _ (by first | assumption | omega | (simp only [St.set_n, St.new_n] at *; omega))]; conv => whnf)
        | (rw [St.new_ne _ _ (by first | assumption | omega | (simp only [St.set_n, St.new_n] at *; omega))]; conv => whnf))
    refine Fin.of ⟨rfl, ?_⟩
    rw [← hlen, List.take_length] at hno
    rw [decide_eq_false (fun q => hno s q rfl)]
    rfl

end
end Go.Proofs.YtjeccchbeflddaaGreatDoor.Ga
