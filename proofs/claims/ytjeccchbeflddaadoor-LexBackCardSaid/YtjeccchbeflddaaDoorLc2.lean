/- What the lexer says of sources joined, and of a gap more. -/
import Derived.Test.YtjeccchbeflddaaDoorLc
set_option linter.unusedVariables false
set_option linter.unusedSimpArgs false
namespace Go.Proofs.YtjeccchbeflddaaDoor.Lx

/-- An error is one. -/
theorem tok_err {l : List UInt8} {k : Nat} (hl : l ≠ []) (h : tok l = .error k) : k ≠ 0 := by
  cases l with
  | nil => exact absurd rfl hl
  | cons c r =>
    rw [tok_eq _ c r rfl] at h
    split at h
    · cases h
    · split at h
      · split at h
        · cases h
        · rename_i e he
          injection h with h
          subst h
          rcases numOf_err he with rfl | rfl <;> decide
      · split at h
        · split at h
          · cases h
          · injection h with h; subst h; decide
        · split at h
          · injection h with h; subst h; decide
          · cases h
theorem lexF_err : ∀ (f len : Nat) (l : List UInt8) (p : Nat × Nat), l.length < f → lexF f len l = .error p → p.1 ≠ 0
  | 0, len, l, p, hf, h => absurd hf (Nat.not_lt_zero _)
  | f + 1, len, l, p, hf, h => by
    rw [lexF_succ] at h
    cases hs : skip 0 [] l with
    | mk b l1 =>
      rw [hs] at h
      cases b with
      | false => injection h with h; subst h; exact (by decide : (20 : Nat) ≠ 0)
      | true =>
        simp only at h
        have q1 := ((skip_suf _ _ _ _ _ hs).1 rfl).length_le
        cases l1 with
        | nil => rw [lexT_nil] at h; cases h
        | cons c r =>
          cases ht : tok (c :: r) with
          | error k => rw [lexT_cons, ht] at h; injection h with h; subst h; exact tok_err (by simp) ht
          | ok q =>
            obtain ⟨k, n, S, l2⟩ := q
            have q2 := (tok_suf ht).2
            rw [lexT_ok ht] at h
            cases hl : lexF f len l2 with
            | ok us => rw [hl] at h; cases h
            | error e => rw [hl] at h; injection h with h; subst h; exact lexF_err f len l2 e (by omega) hl
theorem lexAll_err {s : List UInt8} {p : Nat × Nat} (h : lexAll s = .error p) : p.1 ≠ 0 := lexF_err _ _ _ _ (Nat.lt_succ_self _) h

theorem Rd.of_skip {l l' : List UInt8} {us : List Tk} (h : skip 0 [] l' = skip 0 [] l) (hr : Rd l us) : Rd l' us := by
  cases hr with
  | fin h1 => exact .fin (h.trans h1)
  | tok h1 h2 h3 => exact .tok (h.trans h1) h2 h3

theorem take_app {l l2 e : List UInt8} (h : l2 <:+ l) : l.take (l.length - l2.length) ++ (l2 ++ e) = l ++ e := by
  obtain ⟨g, rfl⟩ := h
  rw [List.take_left' (by simp), List.append_assoc]

/-- JOINED by a blank. -/
theorem Rd.join {a b : List UInt8} {x y : List Tk} (hx : Rd a x) (hy : Rd b y) (c : UInt8) (hc : isBlank c = true) : Rd (a ++ c :: b) (x.map (fun t => (t.1, t.2.1 + (b.length + 1), t.2.2)) ++ y) := by
  induction hx with
  | @fin l h =>
    refine Rd.of_skip ?_ hy
    have := skip_swap l 0 [] [] (by rwa [List.append_nil]) (c :: b)
    rw [this, skip_blank c b hc]
  | @tok l l1 l2 k n S ts h1 h2 h3 ih =>
    have q1 := ((skip_suf _ _ _ _ _ h1).1 rfl)
    have q2 := (tok_suf h2)
    have := Rd.swap h1 h2 (Mild.blank l2 l2 c b (List.prefix_refl _) hc) ih
    rw [take_app (q2.1.trans q1)] at this
    have e2 : l1.length - l2.length + (l2 ++ c :: b).length = l1.length + (b.length + 1) := by
      rw [List.length_append, List.length_cons]
      have := q2.2
      omega
    rw [e2] at this
    exact this

theorem joins {a b : List UInt8} {x y : List Tk} (ha : lexAll a = .ok x) (hb : lexAll b = .ok y) :
    lexAll (a ++ [9] ++ b) = .ok (x ++ y.map fun t => (t.1, t.2.1 + (a.length + 1), t.2.2)) := by
  obtain ⟨us, h1, rfl⟩ := lexAll_rd.1 ha
  obtain ⟨vs, h2, rfl⟩ := lexAll_rd.1 hb
  rw [List.append_assoc]
  refine lexAll_rd.2 ⟨_, Rd.join h1 h2 9 (by decide), ?_⟩
  rw [List.map_append, List.map_map, List.map_map]
  congr 1
  · refine List.map_congr_left fun t ht => ?_
    have := (rd_le h1 t ht).2
    simp only [place, Function.comp, Prod.mk.injEq, true_and, and_true, List.length_append, List.length_cons, List.length_nil]
    omega
  · refine List.map_congr_left fun t ht => ?_
    have := (rd_le h2 t ht).2
    simp only [place, Function.comp, Prod.mk.injEq, true_and, and_true, List.length_append, List.length_cons, List.length_nil]
    omega

/-- A text that is a gap, whatever stands behind it. -/
def Gap (g : List UInt8) : Prop := ∀ e, skip 0 [] (g ++ e) = skip 0 [] e

/-- A GAP MORE, one that begins with a blank, where a token begins (or at the end). -/
theorem Rd.gap {l : List UInt8} {us : List Tk} (h : Rd l us) {c : UInt8} {w : List UInt8} (hc : isBlank c = true) (hg : Gap (c :: w)) : ∀ i, i ≤ us.length →
    Rd (l.take (l.length - left us i) ++ (c :: w) ++ l.drop (l.length - left us i)) (((us.take i).map fun t => (t.1, t.2.1 + (c :: w).length, t.2.2)) ++ us.drop i) := by
  induction h with
  | @fin l h =>
    intro i hi
    have : i = 0 := by simpa using hi
    subst this
    simp only [left, List.getElem?_nil, Option.map_none, Option.getD_none, Nat.sub_zero, List.take_length, List.drop_length, List.append_nil, List.take_nil, List.map_nil, List.nil_append, List.drop_nil]
    refine .fin ?_
    have := skip_swap l 0 [] [] (by rwa [List.append_nil]) (c :: w)
    rw [this]
    have := hg []
    rw [List.append_nil] at this
    rw [this]
    rfl
  | @tok l l1 l2 k n S ts h1 h2 h3 ih =>
    intro i hi
    have q1 := ((skip_suf _ _ _ _ _ h1).1 rfl)
    have q2 := (tok_suf h2)
    cases i with
    | zero =>
      simp only [left, List.getElem?_cons_zero, Option.map_some, Option.getD_some, List.take_zero, List.map_nil, List.nil_append, List.drop_zero]
      refine Rd.of_skip ?_ (Rd.tok h1 h2 h3)
      obtain ⟨g, hgl⟩ := q1
      subst hgl
      rw [List.take_left' (by simp), List.drop_left' (by simp), List.append_assoc, skip_swap g 0 [] l1 h1, skip_swap g 0 [] l1 h1]
      exact hg l1
    | succ i =>
      have hi' : i ≤ ts.length := by simpa using hi
      have e0 : left ((k, l1.length, n, S) :: ts) (i + 1) = left ts i := by simp [left]
      have hle : left ts i ≤ l2.length := by
        unfold left
        cases hq : ts[i]? with
        | none => simp
        | some t => simpa using (rd_le h3 t (List.mem_of_getElem? hq)).2
      have hm : Mild l2 (l2.take (l2.length - left ts i) ++ (c :: w) ++ l2.drop (l2.length - left ts i)) := by
        rw [List.append_assoc]
        exact Mild.blank l2 _ c (w ++ l2.drop (l2.length - left ts i)) (List.take_prefix _ _) hc
      have := Rd.swap h1 h2 hm (ih i hi')
      rw [e0]
      have e1 : l.take (l.length - l2.length) ++ (l2.take (l2.length - left ts i) ++ (c :: w) ++ l2.drop (l2.length - left ts i)) = l.take (l.length - left ts i) ++ (c :: w) ++ l.drop (l.length - left ts i) := by
        obtain ⟨g, hgl⟩ := q2.1.trans q1
        subst hgl
        rw [List.take_left' (by simp), show (g ++ l2).length - left ts i = g.length + (l2.length - left ts i) by simp; omega, List.take_length_add_append, List.drop_length_add_append]
        simp only [List.append_assoc]
      rw [e1] at this
      have e2 : l1.length - l2.length + (l2.take (l2.length - left ts i) ++ (c :: w) ++ l2.drop (l2.length - left ts i)).length = l1.length + (c :: w).length := by
        simp only [List.length_append, List.length_take, List.length_drop]
        have := q2.2
        omega
      rw [e2] at this
      exact this
end Go.Proofs.YtjeccchbeflddaaDoor.Lx
