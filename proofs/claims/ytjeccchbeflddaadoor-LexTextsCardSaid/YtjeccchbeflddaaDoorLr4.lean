/- A word is a word. -/
import Derived.Test.YtjeccchbeflddaaDoorLr3
set_option linter.unusedVariables false
set_option linter.unusedSimpArgs false
namespace Go.Proofs.YtjeccchbeflddaaDoor.Lx

theorem words_flat : wordsText = 32 :: wordL.flatMap (fun w => w ++ [32]) := by decide +kernel
theorem words_noblank : ∀ w ∈ wordL, ∀ b ∈ w, b ≠ 32 := by decide +kernel
theorem words_are : ∀ w ∈ wordL, isWord w = true := by decide +kernel

theorem pre_same : ∀ (s w r : List UInt8), (∀ b ∈ s, b ≠ 32) → (∀ b ∈ w, b ≠ 32) → s ++ [32] <+: w ++ 32 :: r → s = w
  | [], [], r, _, _, _ => rfl
  | [], b :: w, r, _, hw, h => by
    have := List.cons_prefix_cons.1 (show (32 :: []) <+: b :: (w ++ 32 :: r) from h)
    exact absurd this.1.symm (hw b (List.mem_cons_self ..))
  | a :: s, [], r, hs, _, h => by
    have := List.cons_prefix_cons.1 (show a :: (s ++ [32]) <+: 32 :: r from h)
    exact absurd this.1 (hs a (List.mem_cons_self ..))
  | a :: s, b :: w, r, hs, hw, h => by
    have := List.cons_prefix_cons.1 (show a :: (s ++ [32]) <+: b :: (w ++ 32 :: r) from h)
    rw [this.1, pre_same s w r (fun x hx => hs x (List.mem_cons_of_mem _ hx)) (fun x hx => hw x (List.mem_cons_of_mem _ hx)) this.2]

theorem word_at : ∀ (W : List (List UInt8)) (s : List UInt8), (∀ w ∈ W, ∀ b ∈ w, b ≠ 32) → (∀ b ∈ s, b ≠ 32) → ∀ i, 32 :: (s ++ [32]) <+: (32 :: W.flatMap (fun w => w ++ [32])).drop i → s ∈ W
  | [], s, _, hs, i, h => by
    have := h.length_le
    simp only [List.length_cons, List.length_append, List.length_drop, List.flatMap_nil, List.length_nil] at this
    omega
  | w :: W, s, hW, hs, i, h => by
    have hw := hW w (List.mem_cons_self ..)
    have eT : (32 :: (w :: W).flatMap (fun w => w ++ [32])) = 32 :: (w ++ 32 :: W.flatMap (fun w => w ++ [32])) := by
      simp [List.flatMap_cons]
    rw [eT] at h
    cases i with
    | zero =>
      have := (List.cons_prefix_cons.1 (show 32 :: (s ++ [32]) <+: 32 :: (w ++ 32 :: W.flatMap (fun w => w ++ [32])) from h)).2
      rw [pre_same s w _ hs hw this]
      exact List.mem_cons_self ..
    | succ j =>
      rw [List.drop_succ_cons] at h
      by_cases hj : j < w.length
      · rw [List.drop_append_of_le_length (by omega), List.drop_eq_getElem_cons hj, List.cons_append] at h
        have := (List.cons_prefix_cons.1 h).1
        exact absurd this.symm (hw _ (List.getElem_mem hj))
      · have e : (w ++ 32 :: W.flatMap (fun w => w ++ [32])).drop j = (32 :: W.flatMap (fun w => w ++ [32])).drop (j - w.length) := by
          rw [List.drop_append, List.drop_of_length_le (by omega), List.nil_append]
        rw [e] at h
        exact List.mem_cons_of_mem _ (word_at W s (fun x hx => hW x (List.mem_cons_of_mem _ hx)) hs _ h)

theorem isWord_iff (s : List UInt8) : isWord s = decide (s ∈ wordL) := by
  by_cases h : s ∈ wordL
  · rw [words_are s h, decide_eq_true h]
  · rw [decide_eq_false h]
    refine Bool.eq_false_iff.2 fun hw => h ?_
    unfold isWord at hw
    simp only [Bool.and_eq_true, Bool.not_eq_true'] at hw
    obtain ⟨⟨h1, h2⟩, h3⟩ := hw
    have hnb : ∀ b ∈ s, b ≠ 32 := by
      rintro b hb rfl
      unfold Lib.contains at h2
      have h2 := of_decide_eq_false h2
      rcases Lib.index_spec s [32] with ⟨_, q⟩ | ⟨i, q, _⟩
      · obtain ⟨j, hj, hjb⟩ := List.mem_iff_getElem.1 hb
        have := q j (by omega)
        unfold Lib.occAt at this
        rw [List.drop_eq_getElem_cons hj, hjb] at this
        simp [List.isPrefixOf] at this
      · omega
    unfold Lib.contains at h3
    have h3 := of_decide_eq_true h3
    rcases Lib.index_spec wordsText (([32] ++ s) ++ [32]) with ⟨q, _⟩ | ⟨i, _, _, q, _⟩
    · omega
    · unfold Lib.occAt at q
      rw [words_flat] at q
      exact word_at wordL s words_noblank hnb i (List.isPrefixOf_iff_prefix.1 q)
end Go.Proofs.YtjeccchbeflddaaDoor.Lx
