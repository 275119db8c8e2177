/- A token's text is what stands in the source; between two tokens there is a gap. -/
import Derived.Test.YtjeccchbeflddaaDoorLa11
import Derived.Test.YtjeccchbeflddaaDoorLc2
import Derived.Lib.ItoaNum
set_option linter.unusedVariables false
set_option linter.unusedSimpArgs false
namespace Go.Proofs.YtjeccchbeflddaaDoor.Lx
open Ga (textOf)

theorem decVal_cons (acc : Nat) (c : UInt8) (r : List UInt8) : decVal acc (c :: r) = decVal (acc * 10 + (c.toNat - 48)) r := by
  show decVal acc (c :: r) = _
  exact Eq.refl _
theorem decVal_nil (acc : Nat) : decVal acc [] = acc := rfl
theorem decVal_app (c : UInt8) (r : List UInt8) : ∀ (acc : Nat), decVal acc (r ++ [c]) = decVal acc r * 10 + (c.toNat - 48) := by
  induction r with
  | nil => intro acc; rw [List.nil_append, decVal_cons, decVal_nil, decVal_nil]
  | cons d r ih => intro acc; rw [List.cons_append, decVal_cons, decVal_cons]; exact ih _

theorem u8_48 {c : UInt8} (h : isDigit c = true) : UInt8.ofNat (48 + (c.toNat - 48)) = c ∧ c.toNat - 48 < 10 := by
  simp only [isDigit, Bool.and_eq_true, decide_eq_true_eq] at h
  obtain ⟨h1, h2⟩ := h
  have e : 48 + (c.toNat - 48) = c.toNat := by omega
  exact ⟨by rw [e]; exact UInt8.ofNat_toNat, by omega⟩

theorem digits_back : ∀ (t : List UInt8), t ≠ [] → t.all isDigit = true → (t.head? = some 48 → t.length = 1) → Lib.decDigits (decVal 0 t) = t := by
  intro t
  induction hn : t.length generalizing t with
  | zero => intro h; exact absurd (List.length_eq_zero_iff.1 hn) h
  | succ n ih =>
    intro h hall hz
    obtain ⟨r, c, rfl⟩ : ∃ r c, t = r ++ [c] := ⟨t.dropLast, t.getLast h, (List.dropLast_concat_getLast h).symm⟩
    have hc : isDigit c = true := by simp at hall; exact hall.2
    have hr : r.all isDigit = true := by simp at hall ⊢; exact hall.1
    obtain ⟨e1, e2⟩ := u8_48 hc
    rw [decVal_app]
    by_cases hre : r = []
    · subst hre
      show Lib.decDigits (0 * 10 + (c.toNat - 48)) = [c]
      rw [Lib.decDigits, dif_pos (by omega), show 48 + (0 * 10 + (c.toNat - 48)) = 48 + (c.toNat - 48) by omega, e1]
    · have hpos : 1 ≤ decVal 0 r := by
        obtain ⟨d, r', rfl⟩ : ∃ d r', r = d :: r' := by cases r with | nil => exact absurd rfl hre | cons d r' => exact ⟨d, r', rfl⟩
        have hd : isDigit d = true := by simp at hr; exact hr.1
        have hne : d ≠ 48 := by
          rintro rfl
          have h9 := hz rfl
          simp at hn
          omega
        have hdn : d.toNat ≠ 48 := fun q => hne (UInt8.toNat_inj.1 q)
        simp only [isDigit, Bool.and_eq_true, decide_eq_true_eq] at hd
        have := decVal_le r' (0 * 10 + (d.toNat - 48))
        rw [decVal_cons]
        omega
      have hlen : r.length = n := by simp at hn; exact hn
      have := ih r hlen hre hr (by
        intro q
        obtain ⟨d, r', rfl⟩ : ∃ d r', r = d :: r' := by cases r with | nil => exact absurd rfl hre | cons d r' => exact ⟨d, r', rfl⟩
        have h9 := hz (by simpa using q)
        simp at hn
        omega)
      rw [Lib.decDigits, dif_neg (by omega), show (decVal 0 r * 10 + (c.toNat - 48)) / 10 = decVal 0 r by omega, show (decVal 0 r * 10 + (c.toNat - 48)) % 10 = c.toNat - 48 by omega, e1, this]

theorem num_text {t : List UInt8} {v : Nat} (ht : t ≠ []) (h : numOf t = .ok v) : Lib.itoa (v : Int) = t := by
  unfold numOf at h
  split at h
  · rename_i hc
    simp only [Bool.and_eq_true, Bool.not_eq_true', Bool.and_eq_false_iff, beq_eq_false_iff_ne, decide_eq_false_iff_not] at hc
    split at h
    · injection h with h
      subst h
      unfold Lib.itoa
      rw [if_neg (by omega)]
      show Lib.decDigits (decVal 0 t) = t
      refine digits_back t ht hc.1 fun q => ?_
      have : 0 < t.length := List.length_pos_iff.2 ht
      rcases hc.2 with h1 | h1
      · exact absurd q h1
      · omega
    · cases h
  · cases h

theorem txt_len : ∀ (l : List UInt8) (md h : Nat) (v l' : List UInt8), txt md h l = some (v, l') → v.length ≤ l.length
  | [], md, h, v, l', e => by simp [txt] at e
  | c :: r, md, h, v, l', e => by
    have go : ∀ {md' h'}, txt md' h' r = some (v, l') → v.length ≤ (c :: r).length := fun q => by
      have := txt_len r _ _ _ _ q
      simp only [List.length_cons]; omega
    have mp : ∀ {x : UInt8}, (txt 0 0 r).map (fun p => (x :: p.1, p.2)) = some (v, l') → v.length ≤ (c :: r).length := fun {x} q => by
      cases hq : txt 0 0 r with
      | none => rw [hq] at q; cases q
      | some p =>
        rw [hq] at q; injection q with q; injection q with q1 q2
        have := txt_len r 0 0 p.1 p.2 hq
        rw [← q1]
        simp only [List.length_cons]; omega
    unfold txt at e
    split at e
    · split at e
      · injection e with e; injection e with e _; subst e; simp
      · split at e
        · exact go e
        · exact mp e
    · split at e
      · split at e
        · exact mp e
        · split at e
          · exact mp e
          · split at e
            · exact mp e
            · split at e
              · exact go e
              · cases e
      · split at e
        · split at e
          · exact go e
          · cases e
        · split at e
          · exact mp e
          · cases e

theorem take_drop_name {L : List UInt8} : L.take (nameLen L) ++ L.drop (nameLen L) = L := List.take_append_drop _ _

/-- What a token says of the source. -/
theorem tok_facts {l : List UInt8} {k n : Nat} {S l' : List UInt8} (h : tok l = .ok (k, n, S, l')) :
    k ≠ 0 ∧ k ≤ 5 ∧ (k = 1 → n < 4611686018427387904) ∧ S.length ≤ l.length ∧ (k = 2 → l.head? = some 34) ∧ (k ≠ 2 → ∀ p, textOf (k, p, n, S) ++ l' = l) := by
  cases l with
  | nil => cases h
  | cons c r =>
    rw [tok_eq _ c r rfl] at h
    split at h
    · injection h with h; injection h with q1 h; injection h with q2 h; injection h with q3 q4
      have hk : k = 3 ∨ k = 4 ∨ k = 5 := by rw [← q1]; split <;> first | exact .inr (.inl rfl) | (split <;> first | exact .inr (.inr rfl) | exact .inl rfl)
      refine ⟨by omega, by omega, by omega, ?_, by omega, fun _ p => ?_⟩
      · rw [← q3, List.length_take]; omega
      · unfold textOf
        rw [if_neg (by show ¬ k = 1; omega), if_neg (by show ¬ k = 2; omega), if_neg (by show ¬ k = 0; omega)]
        show S ++ l' = _
        rw [← q3, ← q4]
        exact List.take_append_drop _ _
    · split at h
      · rename_i hd
        have hn : isName c = true := by unfold isName; rw [hd]; simp
        cases hnum : numOf ((c :: r).take (nameLen (c :: r))) with
        | error e => rw [hnum] at h; cases h
        | ok v =>
          rw [hnum] at h
          injection h with h; injection h with q1 h; injection h with q2 h; injection h with q3 q4
          subst q1 q2
          have h12 : ¬ (1 = 2) := by decide
          refine ⟨by decide, by decide, fun _ => numOf_ok hnum, by rw [← q3]; simp, fun q => absurd q h12, fun _ p => ?_⟩
          unfold textOf
          rw [if_pos rfl]
          show Lib.itoa (v : Int) ++ l' = _
          rw [num_text (by
            intro q
            have := nameLen_pos (r := r) hn
            have := congrArg List.length q
            rw [List.length_take] at this
            simp only [List.length_cons, List.length_nil] at this
            omega) hnum, ← q4]
          exact List.take_append_drop _ _
      · split at h
        · rename_i hq
          have hc : c = 34 := by simpa using hq
          cases ht : txt 0 0 r with
          | none => rw [ht] at h; cases h
          | some p =>
            obtain ⟨v, l1⟩ := p
            rw [ht] at h
            injection h with h; injection h with q1 h; injection h with q2 h; injection h with q3 q4
            subst q1 q2 q3
            refine ⟨by decide, by decide, fun q => (by cases q), ?_, fun _ => by rw [hc]; rfl, fun q => absurd rfl q⟩
            have := txt_len _ _ _ _ _ ht
            simp only [List.length_cons]; omega
        · split at h
          · cases h
          · injection h with h; injection h with q1 h; injection h with q2 h; injection h with q3 q4
            subst q1
            refine ⟨by decide, by decide, fun q => (by cases q), ?_, fun q => (by cases q), fun _ p => ?_⟩
            · rw [← q3]; exact (signOf_pre _).length_le
            · unfold textOf
              rw [if_neg (show ¬ (5 = 1) by decide), if_neg (show ¬ (5 = 2) by decide), if_neg (show ¬ (5 = 0) by decide)]
              show S ++ l' = _
              rw [← q3, ← q4]
              obtain ⟨w, hw⟩ := signOf_pre (c :: r)
              conv => lhs; rw [← hw]
              rw [hw]
              conv => rhs; rw [← hw]
              congr 1
              rw [← hw]
              rw [hw]
              exact (by rw [← hw]; exact List.drop_left' (by rw [hw]))

/-- A token and what stands behind it. -/
theorem Rd.at {l : List UInt8} {us : List Tk} (h : Rd l us) : ∀ i, i < us.length → ∃ (l1 l2 l3 : List UInt8) (k n : Nat) (S : List UInt8),
    us[i]? = some (k, l1.length, n, S) ∧ l1 <:+ l ∧ Lx.tok l1 = .ok (k, n, S, l2) ∧ skip 0 [] l2 = (true, l3) ∧ l3.length = left us (i + 1) := by
  induction h with
  | fin h => intro i hi; simp at hi
  | @tok l l1 l2 k n S ts h1 h2 h3 ih =>
    intro i hi
    have q1 := ((skip_suf _ _ _ _ _ h1).1 rfl)
    cases i with
    | zero =>
      refine ⟨l1, l2, (skip 0 [] l2).2, k, n, S, rfl, q1, h2, ?_, ?_⟩
      · cases h3 with
        | fin h => rw [h]
        | tok h _ _ => rw [h]
      · cases h3 with
        | fin h => rw [h]; rfl
        | tok h _ _ => rw [h]; rfl
    | succ i =>
      obtain ⟨a, b, c, k', n', S', g1, g2, g3, g4, g5⟩ := ih i (by simpa using hi)
      refine ⟨a, b, c, k', n', S', by simpa using g1, g2.trans ((tok_suf h2).1.trans q1), g3, g4, ?_⟩
      rw [g5]
      simp [left]

theorem left_end {us : List Tk} : left us us.length = 0 := by simp [left]

/-- LexParts, plainly. -/
theorem parts {s : List UInt8} {ts : List Tk} (h : lexAll s = .ok ts) (i : Nat) (hi : i < ts.length) :
    ∃ (t t' : Tk), (ts ++ [(0, s.length, 0, [])])[i]? = some t ∧ (ts ++ [(0, s.length, 0, [])])[i + 1]? = some t' ∧ t.1 ≠ 0 ∧ (t.1 = 1 → t.2.2.1 < 4611686018427387904) ∧ t.2.2.2.length ≤ s.length ∧
      t.2.1 < t'.2.1 ∧ t'.2.1 ≤ s.length ∧ (t.1 = 2 → s.getD t.2.1 0 = 34) ∧
      (t.1 ≠ 2 → t.2.1 + (textOf t).length ≤ t'.2.1 ∧ (s.take (t.2.1 + (textOf t).length)).drop t.2.1 = textOf t ∧ lexAll ((s.take t'.2.1).drop (t.2.1 + (textOf t).length)) = .ok []) := by
  obtain ⟨us, h1, rfl⟩ := lexAll_rd.1 h
  rw [List.length_map] at hi
  have hle := fun t ht => (rd_le h1 t ht).2
  obtain ⟨l1, l2, l3, k, n, S, g1, g2, g3, g4, g5⟩ := Rd.at h1 i hi
  obtain ⟨f1, _, f2, f3, f4, f5⟩ := tok_facts g3
  have hl1 := g2.length_le
  have hl2 := (tok_suf g3).2
  obtain ⟨g, hg⟩ := (skip_suf _ _ _ _ _ g4).1 rfl
  have hl3 : l3.length ≤ l2.length := by rw [← hg]; simp
  have hnext : ∃ t' : Tk, (us.map (place s.length) ++ [(0, s.length, 0, [])])[i + 1]? = some t' ∧ t'.2.1 = s.length - l3.length := by
    rw [place_left [] hle, g5]
    by_cases h2 : i + 1 < us.length
    · rw [if_pos h2, List.getElem?_eq_getElem h2]
      exact ⟨_, rfl, by simp [place, left, List.getElem?_eq_getElem h2]⟩
    · rw [if_neg h2, if_pos (by omega)]
      refine ⟨_, rfl, ?_⟩
      rw [show i + 1 = us.length by omega, left_end]; rfl
  obtain ⟨t', e1, e2⟩ := hnext
  refine ⟨place s.length (k, l1.length, n, S), t', by rw [place_left [] hle, if_pos hi, g1]; rfl, e1, f1, f2, by show S.length ≤ _; omega, by rw [e2]; show s.length - l1.length < _; omega, by omega, fun hk => ?_, fun hk => ?_⟩
  · show s.getD (s.length - l1.length) 0 = 34
    have := f4 hk
    have hd := suf_drop g2
    rw [← hd, List.head?_drop] at this
    rw [List.getD, this]; rfl
  · have hT := f5 hk (s.length - l1.length)
    have hd := suf_drop g2
    have et : place s.length (k, l1.length, n, S) = (k, s.length - l1.length, n, S) := rfl
    rw [et]
    show s.length - l1.length + (textOf (k, s.length - l1.length, n, S)).length ≤ t'.2.1 ∧ (s.take (s.length - l1.length + (textOf (k, s.length - l1.length, n, S)).length)).drop (s.length - l1.length) = textOf (k, s.length - l1.length, n, S) ∧ lexAll ((s.take t'.2.1).drop (s.length - l1.length + (textOf (k, s.length - l1.length, n, S)).length)) = .ok []
    generalize textOf (k, s.length - l1.length, n, S) = T at hT ⊢
    have hlen := congrArg List.length hT
    rw [List.length_append] at hlen
    refine ⟨by omega, ?_, ?_⟩
    · rw [List.drop_take, hd, show s.length - l1.length + T.length - (s.length - l1.length) = T.length by omega, ← hT, List.take_left' rfl]
    · have hgap : (s.take t'.2.1).drop (s.length - l1.length + T.length) = g := by
        have hlg := congrArg List.length hg
        rw [List.length_append] at hlg
        have hnum : t'.2.1 - (s.length - l1.length + T.length) = g.length := by omega
        rw [List.drop_take, hnum, ← List.drop_drop, hd, ← hT, List.drop_left' rfl, ← hg, List.take_left' rfl]
      rw [hgap]
      refine lexAll_rd.2 ⟨[], .fin ?_, rfl⟩
      rw [← hg] at g4
      have := skip_swap g 0 [] l3 g4 []
      rwa [List.append_nil] at this
end Go.Proofs.YtjeccchbeflddaaDoor.Lx
