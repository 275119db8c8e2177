/- What the lexer's answer is, told without fuel; what it says of sources cut, joined, or with a gap more. -/
import Derived.Test.YtjeccchbeflddaaDoorLa0
set_option linter.unusedVariables false
set_option linter.unusedSimpArgs false
namespace Go.Proofs.YtjeccchbeflddaaDoor.Lx

/-- A gap, passed over, says nothing of what stands behind it. -/
theorem skip_swap : ∀ (g : List UInt8) (d : Nat) (st l' : List UInt8), skip d st (g ++ l') = (true, l') → ∀ e, skip d st (g ++ e) = skip 0 [] e := by
  have small : ∀ (d : Nat) (st l' : List UInt8), d ≠ 0 → ∀ l, skip d st l = (true, l') → l'.length < l.length := fun d st l' hd l h => by
    rw [skip_com l d st hd] at h
    cases hc : com d l with
    | none => rw [hc] at h; cases h
    | some r =>
      rw [hc] at h
      have h1 := ((skip_suf r 0 st true l' h).1 rfl).length_le
      have h2 := com_len l d r hc
      omega
  have lenle : ∀ (d : Nat) (st l' : List UInt8) l, skip d st l = (true, l') → l'.length ≤ l.length := fun d st l' l h => ((skip_suf l d st true l' h).1 rfl).length_le
  intro g
  induction hn : g.length using Nat.strongRecOn generalizing g with
  | _ n ih =>
    intro d st l' h e
    match g, hn with
    | [], _ =>
      by_cases hd : d = 0
      · subst hd; exact skip_zero _ _ _
      · exact absurd (small d st l' hd _ h) (by simp)
    | [a], hn =>
      cases l' with
      | nil =>
        by_cases hd : d = 0
        · subst hd
          have ha : isBlank a = true := by
            simp only [List.cons_append, List.nil_append, skip, if_pos] at h
            by_cases hb : isBlank a = true
            · exact hb
            · rw [if_neg hb] at h; cases h
          cases e with
          | nil => simp [skip, ha]
          | cons b r =>
            show skip 0 st (a :: b :: r) = _
            rw [skip_cc, if_pos rfl, if_pos ha]
            exact skip_zero _ _ _
        · simp [skip, hd] at h
      | cons b r =>
        have h' : skip d st (a :: b :: r) = (true, b :: r) := h
        rw [skip_cc] at h'
        by_cases hd : d = 0
        · rw [if_pos hd] at h'
          by_cases ha : isBlank a = true
          · subst hd
            cases e with
            | nil => simp [skip, ha]
            | cons b' r' =>
              show skip 0 st (a :: b' :: r') = _
              rw [skip_cc, if_pos rfl, if_pos ha]
              exact skip_zero _ _ _
          · rw [if_neg ha] at h'
            split at h'
            · have := lenle _ _ _ _ h'; simp at this; omega
            · injection h' with _ h'; have := congrArg List.length h'; simp at this
        · rw [if_neg hd] at h'
          split at h'
          · have := lenle _ _ _ _ h'; simp at this; omega
          · split at h'
            · have := lenle _ _ _ _ h'; simp at this; omega
            · have := small d st _ hd _ h'; omega
    | a :: b :: g', hn =>
      have h' : skip d st (a :: b :: (g' ++ l')) = (true, l') := h
      show skip d st (a :: b :: (g' ++ e)) = _
      simp only [List.length_cons] at hn
      rw [skip_cc] at h' ⊢
      by_cases hd : d = 0
      · rw [if_pos hd] at h' ⊢
        by_cases ha : isBlank a = true
        · rw [if_pos ha] at h' ⊢
          exact ih (b :: g').length (by simp only [List.length_cons]; omega) (b :: g') rfl 0 st l' h' e
        · rw [if_neg ha] at h' ⊢
          split at h'
          · rename_i hc
            rw [if_pos hc]
            have := ih g'.length (by omega) g' rfl 1 (a :: b :: (g' ++ l')) l' h' e
            have q : skip 1 (a :: b :: (g' ++ e)) (g' ++ e) = skip 1 (a :: b :: (g' ++ l')) (g' ++ e) ∨ True := .inr trivial
            exact ih g'.length (by omega) g' rfl 1 (a :: b :: (g' ++ e)) l' (by
              rw [skip_com _ _ _ (by decide)] at h' ⊢
              cases hc2 : com 1 (g' ++ l') with
              | none => rw [hc2] at h'; cases h'
              | some r => rw [hc2] at h'; simp only at h' ⊢; rw [← h']; exact skip_zero _ _ _) e
          · injection h' with _ h'; have := congrArg List.length h'; simp at this; omega
      · rw [if_neg hd] at h' ⊢
        split at h'
        · rename_i hc; rw [if_pos hc]; exact ih g'.length (by omega) g' rfl _ st l' h' e
        · rename_i hc
          rw [if_neg hc]
          split at h'
          · rename_i hc2; rw [if_pos hc2]; exact ih g'.length (by omega) g' rfl _ st l' h' e
          · rename_i hc2; rw [if_neg hc2]; exact ih (b :: g').length (by simp only [List.length_cons]; omega) (b :: g') rfl d st l' h' e

/-- What stands behind a token may be another so far: then it ends, or a blank stands there. -/
def Mild (l e : List UInt8) : Prop := ∃ p w, e = p ++ w ∧ p <+: l ∧ (w = [] ∨ ∃ b w', w = b :: w' ∧ isBlank b = true)
theorem Mild.pre {l e : List UInt8} (h : e <+: l) : Mild l e := ⟨e, [], by simp, h, .inl rfl⟩
theorem Mild.blank (l p : List UInt8) (b : UInt8) (w : List UInt8) (hp : p <+: l) (hb : isBlank b = true) : Mild l (p ++ b :: w) := ⟨p, b :: w, rfl, hp, .inr ⟨b, w, rfl, hb⟩⟩

theorem blank_name {b : UInt8} (h : isBlank b = true) : isName b = false := by
  simp only [isBlank, Bool.or_eq_true, beq_iff_eq] at h
  rcases h with ((rfl | rfl) | rfl) | rfl <;> decide

/-- The head of what stands behind, where there is one. -/
theorem Mild.head {l e : List UInt8} (h : Mild l e) : ∀ c r, e = c :: r → isBlank c = true ∨ ∃ r', l = c :: r' := by
  intro c r he
  obtain ⟨p, w, rfl, ⟨q, rfl⟩, hw⟩ := h
  cases p with
  | nil =>
    rcases hw with rfl | ⟨b, w', rfl, hb⟩
    · cases he
    · injection he with he; subst he; exact .inl hb
  | cons a p => injection he with he; subst he; exact .inr ⟨p ++ q, rfl⟩

/-- Where no gap begins, none begins if what is behind is another. -/
theorem skip_stop_mild {x e : List UInt8} (h : skip 0 [] x = (true, x)) (hm : Mild x e) (he : ∀ c r, e = c :: r → isBlank c = false) : skip 0 [] e = (true, e) := by
  cases e with
  | nil => rfl
  | cons c r =>
    have hb := he c r rfl
    refine skip_stop c r hb ?_
    by_cases hp : [40, 42].isPrefixOf (c :: r) = true
    · exfalso
      simp only [List.isPrefixOf, Bool.and_eq_true, beq_iff_eq] at hp
      obtain ⟨rfl, hp⟩ := hp
      cases r with
      | nil => simp [List.isPrefixOf] at hp
      | cons c2 r =>
        simp only [List.isPrefixOf, Bool.and_true, beq_iff_eq] at hp
        subst hp
        obtain ⟨p, w, hpw, ⟨q, rfl⟩, hw⟩ := hm
        match p, hpw with
        | [], hpw =>
          rcases hw with rfl | ⟨b, w', rfl, hb'⟩
          · cases hpw
          · injection hpw with hpw; subst hpw; exact absurd hb' (by decide)
        | [a], hpw =>
          rcases hw with rfl | ⟨b, w', rfl, hb'⟩
          · simp at hpw
          · simp at hpw; obtain ⟨_, hpw, _⟩ := hpw; subst hpw; exact absurd hb' (by decide)
        | a :: a2 :: p, hpw =>
          simp at hpw
          obtain ⟨rfl, rfl, _⟩ := hpw
          have h' : skip 0 [] (40 :: 42 :: (p ++ q)) = (true, 40 :: 42 :: (p ++ q)) := h
          rw [skip_open] at h'
          split at h'
          · cases h'
          · rename_i l1 hl
            have h1 := ((skip_suf _ _ _ _ _ h').1 rfl).length_le
            have h2 := com_len _ _ _ hl
            omega
    · exact Bool.eq_false_iff.2 hp

theorem nameLen_swap {u l e : List UInt8} (h : (u ++ l).takeWhile isName = u) (hm : Mild l e) : (u ++ e).takeWhile isName = u := by
  have hu : ∀ c ∈ u, isName c = true := fun c hc => by
    rw [← h] at hc
    exact List.all_eq_true.1 (List.all_takeWhile (p := isName) (l := u ++ l)) c hc
  have hl : l.takeWhile isName = [] := by
    rw [List.takeWhile_append_of_pos hu] at h
    simpa using h
  rw [List.takeWhile_append_of_pos hu]
  have : e.takeWhile isName = [] := by
    cases e with
    | nil => rfl
    | cons c r =>
      rcases hm.head c r rfl with hb | ⟨r', rfl⟩
      · rw [List.takeWhile_cons_of_neg (by rw [blank_name hb]; simp)]
      · by_cases hc : isName c = true
        · rw [List.takeWhile_cons_of_pos hc] at hl; cases hl
        · rw [List.takeWhile_cons_of_neg hc]
  rw [this, List.append_nil]

/-- The longest sign there. -/
theorem better_max (l : List UInt8) : ∀ (L : List (List UInt8)) (b : List UInt8), (b.length ≤ (L.foldl (better l) b).length) ∧ ∀ s ∈ L, s <+: l → s.length ≤ (L.foldl (better l) b).length
  | [], b => ⟨Nat.le_refl _, fun s hs => by cases hs⟩
  | x :: L, b => by
    rw [List.foldl_cons]
    obtain ⟨h1, h2⟩ := better_max l L (better l b x)
    have hb : b.length ≤ (better l b x).length := by
      unfold better
      split
      · rename_i h; simp only [Bool.and_eq_true, decide_eq_true_eq] at h; omega
      · exact Nat.le_refl _
    refine ⟨Nat.le_trans hb h1, fun s hs hp => ?_⟩
    rcases List.mem_cons.1 hs with rfl | hs
    · refine Nat.le_trans ?_ h1
      unfold better
      split
      · exact Nat.le_refl _
      · rename_i h
        simp only [Bool.and_eq_true, decide_eq_true_eq, not_and, Nat.not_lt] at h
        exact h (List.isPrefixOf_iff_prefix.2 hp)
    · exact h2 s hs hp
theorem better_mem (l : List UInt8) : ∀ (L : List (List UInt8)) (b : List UInt8), L.foldl (better l) b = b ∨ L.foldl (better l) b ∈ L
  | [], b => .inl rfl
  | x :: L, b => by
    rw [List.foldl_cons]
    rcases better_mem l L (better l b x) with h | h
    · rw [h]
      unfold better
      split
      · exact .inr (List.mem_cons_self ..)
      · exact .inl rfl
    · exact .inr (List.mem_cons_of_mem _ h)
theorem signOf_max {l s : List UInt8} (hs : s ∈ signL) (hp : s <+: l) : s.length ≤ (signOf l).length := (better_max l signL []).2 s hs hp
theorem signOf_mem (l : List UInt8) : signOf l = [] ∨ signOf l ∈ signL := better_mem l signL []
theorem sign_noblank : ∀ s ∈ signL, s.all (fun b => !isBlank b) = true := by decide +kernel

theorem pre_len {a b l : List UInt8} (ha : a <+: l) (hb : b <+: l) (h : a.length = b.length) : a = b := by
  rw [List.prefix_iff_eq_take] at ha hb
  rw [ha, hb, h]

theorem signOf_swap {u l e : List UInt8} (h : signOf (u ++ l) = u) (hu : u ≠ []) (hm : Mild l e) : signOf (u ++ e) = u := by
  have hmem : u ∈ signL := by
    rcases signOf_mem (u ++ l) with q | q
    · rw [h] at q; exact absurd q hu
    · rw [h] at q; exact q
  have h1 : u.length ≤ (signOf (u ++ e)).length := signOf_max hmem (List.prefix_append u e)
  have h2 : (signOf (u ++ e)).length ≤ u.length := by
    refine Nat.le_of_not_lt fun q => ?_
    have hs : signOf (u ++ e) ∈ signL := by
      rcases signOf_mem (u ++ e) with q' | q'
      · rw [q'] at q; simp at q
      · exact q'
    have hp := signOf_pre (u ++ e)
    have hlen := signs_small _ hs
    have hul : 0 < u.length := List.length_pos_iff.2 hu
    -- u has one byte, the other two
    match u, hul, e, hm with
    | [c], _, [], _ => have := hp.length_le; simp at this q; omega
    | [c], _, d :: r, hm =>
      have e2 : signOf ([c] ++ d :: r) = [c, d] := by
        have : (signOf ([c] ++ d :: r)).length = 2 := by simp only [List.length_cons, List.length_nil] at q; omega
        exact pre_len hp ⟨r, rfl⟩ (by rw [this]; rfl)
      rcases hm.head d r rfl with hb | ⟨r', rfl⟩
      · have := List.all_eq_true.1 (sign_noblank _ hs) d (by rw [e2]; simp)
        rw [hb] at this
        cases this
      · have := signOf_max hs (l := [c] ++ d :: r') (by rw [e2]; exact ⟨r', rfl⟩)
        rw [h] at this
        omega
    | c :: d :: r, _, _, _ => simp only [List.length_cons] at q; omega
  exact pre_len (signOf_pre _) (List.prefix_append u e) (by omega)

theorem txt_swap : ∀ (u : List UInt8) (md h : Nat) (v l : List UInt8), txt md h (u ++ l) = some (v, l) → ∀ e, txt md h (u ++ e) = some (v, e)
  | [], md, h, v, l, hh, e => by have := (txt_suf _ _ _ _ _ hh).2; simp at this
  | c :: r, md, h, v, l, hh, e => by
    have mp : ∀ {x : UInt8}, (txt 0 0 (r ++ l)).map (fun p => (x :: p.1, p.2)) = some (v, l) → (txt 0 0 (r ++ e)).map (fun p => (x :: p.1, p.2)) = some (v, e) := fun q => by
      cases hq : txt 0 0 (r ++ l) with
      | none => rw [hq] at q; cases q
      | some p =>
        rw [hq] at q
        injection q with q
        injection q with q1 q2
        have := txt_swap r 0 0 p.1 l (by rw [hq, ← q2]) e
        rw [this, ← q1]
        rfl
    have nl : ∀ {l' : List UInt8}, r ++ l = l' → l' = l → r = [] := fun h1 h2 => by
      have := congrArg List.length (h1.trans h2)
      simp at this
      exact this
    simp only [List.cons_append] at hh ⊢
    unfold txt at hh ⊢
    split at hh
    · rename_i hmd
      rw [if_pos hmd]
      split at hh
      · rename_i hc
        rw [if_pos hc]
        injection hh with hh
        injection hh with h1 h2
        have : r = [] := nl rfl h2
        subst this
        rw [← h1]
        rfl
      · rename_i hc
        rw [if_neg hc]
        split at hh
        · rename_i hc2; rw [if_pos hc2]; exact txt_swap r 1 0 v l hh e
        · rename_i hc2; rw [if_neg hc2]; exact mp hh
    · rename_i hmd
      rw [if_neg hmd]
      split at hh
      · rename_i hmd1
        rw [if_pos hmd1]
        split at hh
        · rename_i hc; rw [if_pos hc]; exact mp hh
        · rename_i hc
          rw [if_neg hc]
          split at hh
          · rename_i hc; rw [if_pos hc]; exact mp hh
          · rename_i hc
            rw [if_neg hc]
            split at hh
            · rename_i hc; rw [if_pos hc]; exact mp hh
            · rename_i hc
              rw [if_neg hc]
              split at hh
              · rename_i hc; rw [if_pos hc]; exact txt_swap r 2 0 v l hh e
              · cases hh
      · rename_i hmd1
        rw [if_neg hmd1]
        split at hh
        · rename_i hmd2
          rw [if_pos hmd2]
          split at hh
          · rename_i x hx; exact txt_swap r 3 x v l hh e
          · cases hh
        · rename_i hmd2
          rw [if_neg hmd2]
          split at hh
          · rename_i y hy; exact mp hh
          · cases hh

/-- A token, read, says nothing of what stands behind it, if that is mild. -/
theorem tok_swap {u l e : List UInt8} {k n : Nat} {S : List UInt8} (h : tok (u ++ l) = .ok (k, n, S, l)) (hm : Mild l e) : tok (u ++ e) = .ok (k, n, S, e) := by
  have hu : u ≠ [] := by
    rintro rfl
    have := (tok_suf h).2
    simp at this
  obtain ⟨c, u', rfl⟩ : ∃ c u', u = c :: u' := by cases u with | nil => exact absurd rfl hu | cons c r => exact ⟨c, r, rfl⟩
  have nm : (c :: u' ++ l).drop (nameLen (c :: u' ++ l)) = l → (c :: u' ++ l).takeWhile isName = c :: u' := fun q => by
    have hp : (c :: u' ++ l).takeWhile isName <+: c :: u' ++ l := List.takeWhile_prefix _
    refine pre_len hp (List.prefix_append _ _) ?_
    have h1 := congrArg List.length q
    have h2 := hp.length_le
    unfold nameLen at h1
    simp only [List.length_drop, List.length_append] at h1 h2 ⊢
    omega
  have key : ∀ x, (c :: u' ++ x).takeWhile isName = c :: u' → nameLen (c :: u' ++ x) = (c :: u').length := fun x q => by unfold nameLen; rw [q]
  rw [tok_eq (c :: u' ++ l) c (u' ++ l) rfl] at h
  rw [tok_eq (c :: u' ++ e) c (u' ++ e) rfl]
  by_cases h1 : (isSmall c || isGreat c) = true
  · rw [if_pos h1] at h ⊢
    injection h with h; injection h with q1 h; injection h with q2 h; injection h with q3 q4
    have hn := nm q4
    have hn' := nameLen_swap hn hm
    rw [key _ hn, List.take_left'  rfl] at q1 q3
    rw [key _ hn', List.take_left' rfl, List.drop_left' rfl, q1, ← q2, q3]
  · rw [if_neg h1] at h ⊢
    by_cases h2 : isDigit c = true
    · rw [if_pos h2] at h ⊢
      cases hnum : numOf ((c :: u' ++ l).take (nameLen (c :: u' ++ l))) with
      | error k' => rw [hnum] at h; cases h
      | ok v =>
        rw [hnum] at h
        injection h with h; injection h with q1 h; injection h with q2 h; injection h with q3 q4
        have hn := nm q4
        have hn' := nameLen_swap hn hm
        rw [key _ hn, List.take_left' rfl] at hnum
        rw [key _ hn', List.take_left' rfl, List.drop_left' rfl, hnum]
        simp only [q1, q2, q3]
    · rw [if_neg h2] at h ⊢
      by_cases h3 : (c == 34) = true
      · rw [if_pos h3] at h ⊢
        cases ht : txt 0 0 (u' ++ l) with
        | none => rw [ht] at h; cases h
        | some p =>
          obtain ⟨v, l1⟩ := p
          rw [ht] at h
          injection h with h; injection h with q1 h; injection h with q2 h; injection h with q3 q4
          subst q4
          rw [txt_swap u' 0 0 v l1 ht e]
          simp only [q1, q2, q3]
      · rw [if_neg h3] at h ⊢
        by_cases h4 : signOf (c :: u' ++ l) = []
        · rw [if_pos h4] at h; cases h
        · rw [if_neg h4] at h
          injection h with h; injection h with q1 h; injection h with q2 h; injection h with q3 q4
          have hs : signOf (c :: u' ++ l) = c :: u' := by
            refine pre_len (signOf_pre _) (List.prefix_append _ _) ?_
            have h5 := congrArg List.length q4
            have h6 := (signOf_pre (c :: u' ++ l)).length_le
            simp only [List.length_drop, List.length_append] at h5 h6 ⊢
            omega
          have hs' := signOf_swap hs (by simp) hm
          rw [hs', if_neg (by simp), List.drop_left' rfl, ← q3, hs, q1, ← q2]

/-- A source's tokens, each with how many bytes stand from its first on. -/
inductive Rd : List UInt8 → List Tk → Prop where
  | fin {l : List UInt8} (h : skip 0 [] l = (true, [])) : Rd l []
  | tok {l l1 l2 : List UInt8} {k n : Nat} {S : List UInt8} {ts : List Tk} (h1 : skip 0 [] l = (true, l1)) (h2 : tok l1 = .ok (k, n, S, l2)) (h3 : Rd l2 ts) : Rd l ((k, l1.length, n, S) :: ts)

/-- From the end's count to places. -/
def place (len : Nat) (t : Tk) : Tk := (t.1, len - t.2.1, t.2.2)

theorem tok_ne {l : List UInt8} {x : Nat × Nat × List UInt8 × List UInt8} (h : tok l = .ok x) : l ≠ [] := by rintro rfl; cases h

theorem rd_of_lexF : ∀ (f len : Nat) (l : List UInt8) (ts : List Tk), lexF f len l = .ok ts → ∃ us, Rd l us ∧ ts = us.map (place len)
  | 0, len, l, ts, h => by cases h
  | f + 1, len, l, ts, h => by
    rw [lexF_succ] at h
    cases hs : skip 0 [] l with
    | mk b l1 =>
      rw [hs] at h
      cases b with
      | false => cases h
      | true =>
        simp only at h
        cases l1 with
        | nil => rw [lexT_nil] at h; injection h with h; subst h; exact ⟨[], .fin hs, rfl⟩
        | cons c r =>
          cases ht : tok (c :: r) with
          | error k => rw [lexT_cons, ht] at h; cases h
          | ok p =>
            obtain ⟨k, n, S, l2⟩ := p
            rw [lexT_ok ht] at h
            cases hl : lexF f len l2 with
            | error e => rw [hl] at h; cases h
            | ok us =>
              rw [hl] at h
              injection h with h
              subst h
              obtain ⟨vs, q1, rfl⟩ := rd_of_lexF f len l2 us hl
              exact ⟨_, .tok hs ht q1, rfl⟩

theorem lexF_of_rd {l : List UInt8} {us : List Tk} (h : Rd l us) : ∀ (f len : Nat), l.length < f → lexF f len l = .ok (us.map (place len)) := by
  induction h with
  | fin h =>
    intro f len hf
    obtain ⟨f, rfl⟩ : ∃ g, f = g + 1 := ⟨f - 1, by omega⟩
    rw [lexF_succ, h]
    rfl
  | tok h1 h2 _ ih =>
    intro f len hf
    obtain ⟨f, rfl⟩ : ∃ g, f = g + 1 := ⟨f - 1, by omega⟩
    rw [lexF_succ, h1]
    simp only
    have q1 := ((skip_suf _ _ _ _ _ h1).1 rfl).length_le
    have q2 := (tok_suf h2).2
    rw [lexT_ok h2, ih f len (by omega)]
    rfl

theorem lexAll_rd {s : List UInt8} {ts : List Tk} : lexAll s = .ok ts ↔ ∃ us, Rd s us ∧ ts = us.map (place s.length) :=
  ⟨rd_of_lexF _ _ _ _, fun ⟨us, h1, h2⟩ => by rw [h2]; exact lexF_of_rd h1 _ _ (Nat.lt_succ_self _)⟩

theorem rd_le {l : List UInt8} {us : List Tk} (h : Rd l us) : ∀ t ∈ us, 0 < t.2.1 ∧ t.2.1 ≤ l.length := by
  induction h with
  | fin h => intro t ht; cases ht
  | @tok l l1 l2 k n S ts h1 h2 h3 ih =>
    intro t ht
    have q1 := ((skip_suf _ _ _ _ _ h1).1 rfl).length_le
    have q2 := (tok_suf h2).2
    rcases List.mem_cons.1 ht with rfl | ht
    · exact ⟨List.length_pos_iff.2 (tok_ne h2), q1⟩
    · have := ih t ht; omega

/-- Where a token begins no gap does. -/
theorem skip_idem {l l1 : List UInt8} (h : skip 0 [] l = (true, l1)) : skip 0 [] l1 = (true, l1) := by
  obtain ⟨g, hg⟩ := (skip_suf _ _ _ _ _ h).1 rfl
  rw [← hg] at h
  rw [← h]
  exact (skip_swap g 0 [] l1 h l1).symm

theorem head_noblank {l : List UInt8} (h : skip 0 [] l = (true, l)) : ∀ c r, l = c :: r → isBlank c = false := by
  rintro c r rfl
  by_cases hb : isBlank c = true
  · rw [skip_blank c r hb] at h
    have := ((skip_suf _ _ _ _ _ h).1 rfl).length_le
    simp at this
    omega
  · simpa using hb

/-- One step, with something else behind. -/
theorem Rd.swap {l l1 l2 e : List UInt8} {k n : Nat} {S : List UInt8} {ts : List Tk} (h1 : skip 0 [] l = (true, l1)) (h2 : Lx.tok l1 = .ok (k, n, S, l2)) (hm : Mild l2 e) (h3 : Rd e ts) :
    Rd (l.take (l.length - l2.length) ++ e) ((k, l1.length - l2.length + e.length, n, S) :: ts) := by
  obtain ⟨g, hg⟩ := (skip_suf _ _ _ _ _ h1).1 rfl
  obtain ⟨u, hu⟩ := (tok_suf h2).1
  subst hu
  subst hg
  have hne : u ≠ [] := by
    rintro rfl
    have := (tok_suf h2).2
    simp at this
  have e1 : (g ++ (u ++ l2)).take ((g ++ (u ++ l2)).length - l2.length) = g ++ u := by
    rw [← List.append_assoc]
    exact List.take_left' (by simp only [List.length_append]; omega)
  have e2 : (u ++ l2).length - l2.length + e.length = (u ++ e).length := by simp
  rw [e1, e2, List.append_assoc]
  have hm' : Mild (u ++ l2) (u ++ e) := by
    obtain ⟨p, w, rfl, ⟨q, rfl⟩, hw⟩ := hm
    exact ⟨u ++ p, w, by simp, ⟨q, by simp⟩, hw⟩
  have hid := skip_idem h1
  have hst : skip 0 [] (u ++ e) = (true, u ++ e) := skip_stop_mild hid hm' (fun c r q => by
    cases u with
    | nil => exact absurd rfl hne
    | cons a u' => injection q with q; subst q; exact head_noblank hid a (u' ++ l2) rfl)
  exact .tok (by rw [skip_swap g 0 [] _ h1]; exact hst) (tok_swap h2 hm) h3

/-- What a token's place is, counted from the end; behind the last: none is left. -/
def left (us : List Tk) (i : Nat) : Nat := ((us[i]?).map (·.2.1)).getD 0

/-- CUT at a token. -/
theorem Rd.cut {l : List UInt8} {us : List Tk} (h : Rd l us) : ∀ i, i ≤ us.length → Rd (l.take (l.length - left us i)) ((us.take i).map fun t => (t.1, t.2.1 - left us i, t.2.2)) := by
  induction h with
  | @fin l h =>
    intro i hi
    have : i = 0 := by simpa using hi
    subst this
    simp only [left, List.getElem?_nil, Option.map_none, Option.getD_none, Nat.sub_zero, List.take_length, List.take_nil, List.map_nil]
    exact .fin h
  | @tok l l1 l2 k n S ts h1 h2 h3 ih =>
    intro i hi
    have q1 := ((skip_suf _ _ _ _ _ h1).1 rfl)
    have q2 := (tok_suf h2)
    cases i with
    | zero =>
      simp only [left, List.getElem?_cons_zero, Option.map_some, Option.getD_some, List.take_zero, List.map_nil]
      obtain ⟨g, hg⟩ := q1
      subst hg
      rw [List.take_left' (by simp)]
      refine .fin ?_
      have := skip_swap g 0 [] l1 h1 []
      rwa [List.append_nil] at this
    | succ i =>
      have hi' : i ≤ ts.length := by simpa using hi
      have e0 : left ((k, l1.length, n, S) :: ts) (i + 1) = left ts i := by simp [left]
      have hle : left ts i ≤ l2.length := by
        unfold left
        cases hq : ts[i]? with
        | none => simp
        | some t => simpa using (rd_le h3 t (List.mem_of_getElem? hq)).2
      have := Rd.swap h1 h2 (Mild.pre (List.take_prefix (l2.length - left ts i) l2)) (ih i hi')
      rw [e0]
      have e1 : l.take (l.length - l2.length) ++ l2.take (l2.length - left ts i) = l.take (l.length - left ts i) := by
        obtain ⟨g, hg⟩ := q2.1.trans q1
        subst hg
        rw [List.take_left' (by simp), show (g ++ l2).length - left ts i = g.length + (l2.length - left ts i) by simp; omega, List.take_length_add_append]
      rw [e1] at this
      have e2 : l1.length - l2.length + (l2.take (l2.length - left ts i)).length = l1.length - left ts i := by
        rw [List.length_take]
        have := q2.2
        omega
      rw [e2] at this
      exact this

theorem left_lt {l : List UInt8} {us : List Tk} (h : Rd l us) : ∀ i j, j < i → j < us.length → left us i < left us j := by
  induction h with
  | fin h => intro i j _ hj; simp at hj
  | @tok l l1 l2 k n S ts h1 h2 h3 ih =>
    intro i j hij hj
    obtain ⟨i, rfl⟩ : ∃ i', i = i' + 1 := ⟨i - 1, by omega⟩
    have e0 : left ((k, l1.length, n, S) :: ts) (i + 1) = left ts i := by simp [left]
    cases j with
    | zero =>
      rw [e0]
      have q2 := (tok_suf h2).2
      show left ts i < l1.length
      unfold left
      cases hq : ts[i]? with
      | none => simp; omega
      | some t => have := (rd_le h3 t (List.mem_of_getElem? hq)).2; simp; omega
    | succ j =>
      have e1 : left ((k, l1.length, n, S) :: ts) (j + 1) = left ts j := by simp [left]
      rw [e0, e1]
      exact ih i j (by omega) (by simpa using hj)

theorem place_left {us : List Tk} {len i : Nat} (s : List UInt8) (h : ∀ t ∈ us, t.2.1 ≤ len) : (us.map (place len) ++ [(0, len, 0, s)])[i]? = (if i < us.length then us[i]?.map (place len) else if i = us.length then some (0, len, 0, s) else none) := by
  by_cases h1 : i < us.length
  · rw [if_pos h1, List.getElem?_append_left (by simpa using h1), List.getElem?_map]
  · rw [if_neg h1, List.getElem?_append_right (by simpa using h1), List.length_map]
    by_cases h2 : i = us.length
    · rw [if_pos h2, h2]; simp
    · rw [if_neg h2]
      obtain ⟨j, hj⟩ : ∃ j, i - us.length = j + 1 := ⟨i - us.length - 1, by omega⟩
      rw [hj]; rfl

/-- LexCuts, plainly. -/
theorem cuts {s : List UInt8} {ts : List Tk} (h : lexAll s = .ok ts) (i : Nat) (hi : i ≤ ts.length) (p : Nat) (hp : ((ts ++ [(0, s.length, 0, [])])[i]?).map (·.2.1) = some p) :
    p ≤ s.length ∧ lexAll (s.take p) = .ok (ts.take i) := by
  obtain ⟨us, h1, rfl⟩ := lexAll_rd.1 h
  rw [List.length_map] at hi
  have hle := fun t ht => (rd_le h1 t ht).2
  have hp' : p = s.length - left us i := by
    rw [place_left [] hle] at hp
    unfold left
    by_cases h2 : i < us.length
    · rw [if_pos h2, List.getElem?_eq_getElem h2] at hp
      rw [List.getElem?_eq_getElem h2]
      simp [place] at hp ⊢
      omega
    · rw [if_neg h2, if_pos (by omega)] at hp
      rw [List.getElem?_eq_none (by omega)]
      simp at hp ⊢
      omega
  refine ⟨by omega, lexAll_rd.2 ⟨_, hp' ▸ Rd.cut h1 i hi, ?_⟩⟩
  rw [← List.map_take, List.map_map]
  refine List.map_congr_left fun t ht => ?_
  have hl := hle t (List.mem_of_mem_take ht)
  obtain ⟨j, hj, hjt⟩ := List.mem_take_iff_getElem.1 ht
  have hlt := left_lt h1 i j (by omega) (by omega)
  have e3 : left us j = t.2.1 := by unfold left; rw [List.getElem?_eq_getElem (by omega), hjt]; rfl
  simp only [place, Function.comp, Prod.mk.injEq, true_and, and_true, List.length_take]
  omega
end Go.Proofs.YtjeccchbeflddaaDoor.Lx
