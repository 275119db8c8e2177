/- What the lexer computes, as plain functions of lists of bytes. A place is told by what stands behind it. -/
import Derived.Lib.Bytealg
import Derived.Lib.Fields
import Derived.Lib.IndexMore
set_option linter.unusedVariables false
set_option linter.unusedSimpArgs false
namespace Go.Proofs.YtjeccchbeflddaaDoor.Lx

def isSmall (b : UInt8) : Bool := (97 ≤ b.toNat && b.toNat ≤ 122) || b.toNat == 95
def isGreat (b : UInt8) : Bool := 65 ≤ b.toNat && b.toNat ≤ 90
def isDigit (b : UInt8) : Bool := 48 ≤ b.toNat && b.toNat ≤ 57
def isName (b : UInt8) : Bool := isSmall b || isGreat b || isDigit b || b.toNat == 39
def isBlank (b : UInt8) : Bool := b == 32 || b == 9 || b == 10 || b == 13

/-- Behind a comment, so deep in it; none: it doesn't end. -/
def com : Nat → List UInt8 → Option (List UInt8)
  | _, [] => none
  | _, [_] => none
  | d, a :: b :: r =>
    if a == 40 && b == 42 then com (d + 1) r
    else if a == 42 && b == 41 then (if d = 1 then some r else com (d - 1) r)
    else com d (b :: r)

/-- Behind blanks and comments; else where the comment begins that doesn't end. -/
def skip : Nat → List UInt8 → List UInt8 → Bool × List UInt8
  | d, st, [] => if d = 0 then (true, []) else (false, st)
  | d, st, [a] => if d = 0 then (if isBlank a then (true, []) else (true, [a])) else (false, st)
  | d, st, a :: b :: r =>
    if d = 0 then
      if isBlank a then skip 0 st (b :: r)
      else if a == 40 && b == 42 then skip 1 (a :: b :: r) r
      else (true, a :: b :: r)
    else if a == 40 && b == 42 then skip (d + 1) st r
    else if a == 42 && b == 41 then skip (d - 1) st r
    else skip d st (b :: r)

def hexVal (c : UInt8) : Option Nat := if isDigit c then some (c.toNat - 48) else if 97 ≤ c.toNat && c.toNat ≤ 102 then some (c.toNat - 87) else none

/-- What a form behind a backslash stands for, and what stands behind it. -/
def form : List UInt8 → Option (UInt8 × List UInt8)
  | [] => none
  | c :: r =>
    if c == 34 || c == 92 then some (c, r)
    else if c == 110 then some (10, r)
    else if c == 116 then some (9, r)
    else if c == 120 then match r with
      | a :: b :: r => match hexVal a, hexVal b with
        | some x, some y => some (UInt8.ofNat (16 * x + y), r)
        | _, _ => none
      | _ => none
    else none

/-- A text behind its first mark (0: plain; 1: behind a backslash; 2, 3: in '\x..'): its bytes, and what stands behind it. -/
def txt : Nat → Nat → List UInt8 → Option (List UInt8 × List UInt8)
  | _, _, [] => none
  | md, h, c :: r =>
    if md = 0 then
      if c == 34 then some ([], r)
      else if c == 92 then txt 1 0 r
      else (txt 0 0 r).map fun p => (c :: p.1, p.2)
    else if md = 1 then
      if c == 34 || c == 92 then (txt 0 0 r).map fun p => (c :: p.1, p.2)
      else if c == 110 then (txt 0 0 r).map fun p => (10 :: p.1, p.2)
      else if c == 116 then (txt 0 0 r).map fun p => (9 :: p.1, p.2)
      else if c == 120 then txt 2 0 r
      else none
    else if md = 2 then match hexVal c with
      | some x => txt 3 x r
      | none => none
    else match hexVal c with
      | some y => (txt 0 0 r).map fun p => (UInt8.ofNat (16 * h + y) :: p.1, p.2)
      | none => none

theorem txt0 (h : Nat) (c : UInt8) (r : List UInt8) : txt 0 h (c :: r) = if c == 34 then some ([], r) else if c == 92 then txt 1 0 r else (txt 0 0 r).map fun p => (c :: p.1, p.2) := by
  rw [txt, if_pos rfl]
theorem txt1 (h : Nat) (c : UInt8) (r : List UInt8) : txt 1 h (c :: r) = if c == 34 || c == 92 then (txt 0 0 r).map fun p => (c :: p.1, p.2)
      else if c == 110 then (txt 0 0 r).map fun p => (10 :: p.1, p.2)
      else if c == 116 then (txt 0 0 r).map fun p => (9 :: p.1, p.2)
      else if c == 120 then txt 2 0 r
      else none := by
  rw [txt, if_neg (by decide), if_pos rfl]
theorem txt2 (h : Nat) (c : UInt8) (r : List UInt8) : txt 2 h (c :: r) = match hexVal c with
      | some x => txt 3 x r
      | none => none := by
  rw [txt, if_neg (by decide), if_neg (by decide), if_pos rfl]
theorem txt3 (h : Nat) (c : UInt8) (r : List UInt8) : txt 3 h (c :: r) = match hexVal c with
      | some y => (txt 0 0 r).map fun p => (UInt8.ofNat (16 * h + y) :: p.1, p.2)
      | none => none := by
  rw [txt, if_neg (by decide), if_neg (by decide), if_neg (by decide)]
theorem txt_nil (md h : Nat) : txt md h [] = none := by rw [txt]

theorem form_cons (c : UInt8) (r : List UInt8) : form (c :: r) = if c == 34 || c == 92 then some (c, r)
    else if c == 110 then some (10, r)
    else if c == 116 then some (9, r)
    else if c == 120 then match r with
      | a :: b :: r => match hexVal a, hexVal b with
        | some x, some y => some (UInt8.ofNat (16 * x + y), r)
        | _, _ => none
      | _ => none
    else none := rfl

theorem txt_form (r : List UInt8) : txt 1 0 r = match form r with | none => none | some (x, r') => (txt 0 0 r').map fun p => (x :: p.1, p.2) := by
  cases r with
  | nil => rfl
  | cons c r =>
    rw [txt1, form_cons]
    by_cases h1 : (c == 34 || c == 92) = true
    · rw [if_pos h1, if_pos h1]
    rw [if_neg h1, if_neg h1]
    by_cases h2 : (c == 110) = true
    · rw [if_pos h2, if_pos h2]
    rw [if_neg h2, if_neg h2]
    by_cases h3 : (c == 116) = true
    · rw [if_pos h3, if_pos h3]
    rw [if_neg h3, if_neg h3]
    by_cases h4 : (c == 120) = true
    · rw [if_pos h4, if_pos h4]
      cases r with
      | nil => rw [txt_nil]
      | cons a r =>
        rw [txt2]
        cases r with
        | nil => cases hexVal a <;> simp [txt_nil]
        | cons b r =>
          cases ha : hexVal a with
          | none => simp [ha]
          | some x =>
            simp only [ha, txt3]
            cases hb : hexVal b <;> simp
    · rw [if_neg h4, if_neg h4]

theorem skip_cc (d : Nat) (st : List UInt8) (a b : UInt8) (r : List UInt8) : skip d st (a :: b :: r) =
    if d = 0 then
      if isBlank a then skip 0 st (b :: r)
      else if a == 40 && b == 42 then skip 1 (a :: b :: r) r
      else (true, a :: b :: r)
    else if a == 40 && b == 42 then skip (d + 1) st r
    else if a == 42 && b == 41 then skip (d - 1) st r
    else skip d st (b :: r) := by rw [skip]
theorem com_cc (d : Nat) (a b : UInt8) (r : List UInt8) : com d (a :: b :: r) = if a == 40 && b == 42 then com (d + 1) r
    else if a == 42 && b == 41 then (if d = 1 then some r else com (d - 1) r)
    else com d (b :: r) := by rw [com]

theorem skip_zero (st st' : List UInt8) : ∀ (l : List UInt8), skip 0 st l = skip 0 st' l
  | [] => rfl
  | [a] => rfl
  | a :: b :: r => by
    rw [skip_cc, skip_cc, if_pos rfl, if_pos rfl, skip_zero st st' (b :: r)]

theorem skip_com : ∀ (l : List UInt8) (d : Nat) (st : List UInt8), d ≠ 0 → skip d st l = match com d l with | none => (false, st) | some r => skip 0 st r
  | [], d, st, hd => by simp [skip, com, hd]
  | [a], d, st, hd => by simp [skip, com, hd]
  | a :: b :: r, d, st, hd => by
    rw [skip_cc, com_cc, if_neg hd]
    by_cases h1 : (a == 40 && b == 42) = true
    · rw [if_pos h1, if_pos h1]
      exact skip_com r (d + 1) st (by omega)
    rw [if_neg h1, if_neg h1]
    by_cases h2 : (a == 42 && b == 41) = true
    · rw [if_pos h2, if_pos h2]
      by_cases h3 : d = 1
      · rw [if_pos h3, h3]
      · rw [if_neg h3]
        exact skip_com r (d - 1) st (by omega)
    · rw [if_neg h2, if_neg h2]
      exact skip_com (b :: r) d st hd

theorem com_open (d : Nat) (r : List UInt8) : com d (40 :: 42 :: r) = com (d + 1) r := by rw [com_cc]; rfl
theorem com_close (d : Nat) (r : List UInt8) : com d (42 :: 41 :: r) = if d = 1 then some r else com (d - 1) r := by rw [com_cc]; rfl
theorem com_on (d : Nat) (c : UInt8) (r : List UInt8) (h1 : [40, 42].isPrefixOf (c :: r) = false) (h2 : [42, 41].isPrefixOf (c :: r) = false) : com d (c :: r) = com d r := by
  cases r with
  | nil => simp [com]
  | cons b r =>
    rw [com_cc]
    simp [List.isPrefixOf] at h1 h2
    rw [if_neg (by simp; intro q1 q2; exact h1 q1.symm q2.symm), if_neg (by simp; intro q1 q2; exact h2 q1.symm q2.symm)]
theorem two_drop {a b : UInt8} {s : List UInt8} {i : Nat} (h : [a, b].isPrefixOf (s.drop i) = true) : s.drop i = a :: b :: s.drop (i + 2) ∧ i + 2 ≤ s.length := by
  have h' := List.isPrefixOf_iff_prefix.1 h
  obtain ⟨t, ht⟩ := h'
  have hl : (s.drop i).length = t.length + 2 := by rw [← ht]; simp
  simp at hl
  refine ⟨?_, by omega⟩
  rw [← List.drop_drop, ← ht]
  rfl
theorem one_drop {s : List UInt8} {i : Nat} (h : i < s.length) : s.drop i = s.getD i 0 :: s.drop (i + 1) := by
  rw [List.drop_eq_getElem_cons h]; simp [h]

theorem com_suf : ∀ (l : List UInt8) (d : Nat) (r : List UInt8), com d l = some r → r <:+ l
  | [], d, r, h => by simp [com] at h
  | [a], d, r, h => by simp [com] at h
  | a :: b :: r', d, r, h => by
    have two : r' <:+ a :: b :: r' := ⟨[a, b], rfl⟩
    rw [com_cc] at h
    split at h
    · exact (com_suf r' _ r h).trans two
    · split at h
      · split at h
        · injection h with h; subst h; exact two
        · exact (com_suf r' _ r h).trans two
      · exact (com_suf (b :: r') _ r h).trans ⟨[a], rfl⟩

theorem com_len : ∀ (l : List UInt8) (d : Nat) (r : List UInt8), com d l = some r → r.length + 2 ≤ l.length
  | [], d, r, h => by simp [com] at h
  | [a], d, r, h => by simp [com] at h
  | a :: b :: r', d, r, h => by
    rw [com_cc] at h
    simp only [List.length_cons]
    split at h
    · have := com_len r' _ r h; omega
    · split at h
      · split at h
        · injection h with h; subst h; omega
        · have := com_len r' _ r h; omega
      · have := com_len (b :: r') _ r h; simp only [List.length_cons] at this; omega
theorem suf_drop {l s : List UInt8} (h : l <:+ s) : s.drop (s.length - l.length) = l := (List.suffix_iff_eq_drop.1 h).symm
theorem form_suf {l r : List UInt8} {x : UInt8} (h : form l = some (x, r)) : r <:+ l ∧ r.length < l.length := by
  cases l with
  | nil => cases h
  | cons c l =>
    rw [form_cons] at h
    have one : l <:+ c :: l := ⟨[c], rfl⟩
    split at h
    · injection h with h; injection h with _ h; subst h; exact ⟨one, by simp⟩
    · split at h
      · injection h with h; injection h with _ h; subst h; exact ⟨one, by simp⟩
      · split at h
        · injection h with h; injection h with _ h; subst h; exact ⟨one, by simp⟩
        · split at h
          · split at h
            · rename_i a b r'
              split at h
              · injection h with h; injection h with _ h; subst h; exact ⟨⟨[c, a, b], rfl⟩, by simp; omega⟩
              · cases h
            · cases h
          · cases h
theorem com_low (d : Nat) (c : UInt8) : com d [c] = none := by simp [com]
theorem skip_nil (st : List UInt8) : skip 0 st [] = (true, []) := by simp [skip]
theorem skip_blank (c : UInt8) (r : List UInt8) (h : isBlank c = true) : skip 0 [] (c :: r) = skip 0 [] r := by
  cases r with
  | nil => simp [skip, h]
  | cons b r => rw [skip_cc, if_pos rfl, if_pos h]
theorem skip_open (r : List UInt8) : skip 0 [] (40 :: 42 :: r) = match com 0 (40 :: 42 :: r) with | none => (false, 40 :: 42 :: r) | some l => skip 0 [] l := by
  rw [skip_cc, if_pos rfl, if_neg (by decide), if_pos (by decide), com_open, Nat.zero_add, skip_com r 1 _ (by decide)]
  cases com 1 r with
  | none => rfl
  | some l => exact skip_zero _ _ _
theorem skip_stop (c : UInt8) (r : List UInt8) (h : isBlank c = false) (h1 : [40, 42].isPrefixOf (c :: r) = false) : skip 0 [] (c :: r) = (true, c :: r) := by
  cases r with
  | nil => simp [skip, h]
  | cons b r =>
    simp [List.isPrefixOf] at h1
    rw [skip_cc, if_pos rfl, if_neg (by rw [h]; simp), if_neg (by simp; intro q1 q2; exact h1 q1.symm q2.symm)]
theorem blank_idx (c : UInt8) : decide (Lib.indexByte [32, 9, 10, 13] c ≥ 0) = isBlank c := by
  by_cases h1 : c = 32
  · subst h1; decide
  by_cases h2 : c = 9
  · subst h2; decide
  by_cases h3 : c = 10
  · subst h3; decide
  by_cases h4 : c = 13
  · subst h4; decide
  have q1 : ((32 : UInt8) == c) = false := beq_eq_false_iff_ne.2 (Ne.symm h1)
  have q2 : ((9 : UInt8) == c) = false := beq_eq_false_iff_ne.2 (Ne.symm h2)
  have q3 : ((10 : UInt8) == c) = false := beq_eq_false_iff_ne.2 (Ne.symm h3)
  have q4 : ((13 : UInt8) == c) = false := beq_eq_false_iff_ne.2 (Ne.symm h4)
  simp [Lib.indexByte, isBlank, q1, q2, q3, q4, h1, h2, h3, h4]

/-- The value of a row of digits. -/
def decVal : Nat → List UInt8 → Nat
  | acc, [] => acc
  | acc, c :: r => decVal (acc * 10 + (c.toNat - 48)) r

/-- A number, read: 5: it has no number's form; 2: it is too great. -/
def numOf (t : List UInt8) : Except Nat Nat :=
  if t.all isDigit && !(t.head? == some 48 && decide (1 < t.length)) then (if decVal 0 t < 4611686018427387904 then .ok (decVal 0 t) else .error 2) else .error 5

theorem decVal_le : ∀ (t : List UInt8) (acc : Nat), acc ≤ decVal acc t
  | [], acc => Nat.le_refl _
  | c :: r, acc => by have := decVal_le r (acc * 10 + (c.toNat - 48)); unfold decVal; omega

theorem numOf_ok {t : List UInt8} {v : Nat} (h : numOf t = .ok v) : v < 4611686018427387904 := by
  unfold numOf at h
  split at h
  · split at h
    · injection h with h; omega
    · cases h
  · cases h
theorem numOf_err {t : List UInt8} {k : Nat} (h : numOf t = .error k) : k = 5 ∨ k = 2 := by
  unfold numOf at h
  split at h
  · split at h
    · cases h
    · injection h with h; exact .inr h.symm
  · injection h with h; exact .inl h.symm

def signsText : List UInt8 := [40, 32, 41, 32, 91, 32, 93, 32, 91, 124, 32, 124, 93, 32, 123, 32, 125, 32, 59, 32, 59, 59, 32, 44, 32, 58, 32, 58, 58, 32, 58, 61, 32, 60, 45, 32, 45, 62, 32, 124, 32, 124, 124, 32, 38, 38, 32, 61, 32, 60, 62, 32, 60, 32, 62, 32, 60, 61, 32, 62, 61, 32, 43, 32, 45, 32, 42, 32, 47, 32, 94, 32, 33, 32, 46, 32, 46, 40]
def signL : List (List UInt8) := [[40], [41], [91], [93], [91, 124], [124, 93], [123], [125], [59], [59, 59], [44], [58], [58, 58], [58, 61], [60, 45], [45, 62], [124], [124, 124], [38, 38], [61], [60, 62], [60], [62], [60, 61], [62, 61], [43], [45], [42], [47], [94], [33], [46], [46, 40]]
theorem signs_fields : Lib.fields signsText = signL := by decide +kernel
def better (l best s : List UInt8) : List UInt8 := if s.isPrefixOf l && decide (best.length < s.length) then s else best
/-- The longest sign at a text's beginning. -/
def signOf (l : List UInt8) : List UInt8 := signL.foldl (better l) []

theorem better_len (l : List UInt8) : ∀ (L : List (List UInt8)) (b : List UInt8), b.length ≤ 2 → (∀ x ∈ L, x.length ≤ 2) → (L.foldl (better l) b).length ≤ 2
  | [], b, hb, _ => hb
  | x :: L, b, hb, h => by
    rw [List.foldl_cons]
    refine better_len l L _ ?_ (fun y hy => h y (List.mem_cons_of_mem _ hy))
    unfold better
    split
    · exact h x (List.mem_cons_self ..)
    · exact hb
theorem better_pre (l : List UInt8) : ∀ (L : List (List UInt8)) (b : List UInt8), b <+: l → L.foldl (better l) b <+: l
  | [], b, hb => hb
  | x :: L, b, hb => by
    rw [List.foldl_cons]
    refine better_pre l L _ ?_
    unfold better
    split
    · rename_i h; simp only [Bool.and_eq_true] at h; exact List.isPrefixOf_iff_prefix.1 h.1
    · exact hb
theorem signOf_pre (l : List UInt8) : signOf l <+: l := better_pre l signL [] (List.nil_prefix)
theorem signs_small : ∀ x ∈ signL, x.length ≤ 2 := by decide +kernel
theorem signOf_len (l : List UInt8) : (signOf l).length ≤ 2 := better_len l signL [] (by simp) signs_small

def wordsText : List UInt8 := [32, 97, 110, 100, 32, 97, 115, 32, 98, 101, 103, 105, 110, 32, 100, 111, 32, 100, 111, 110, 101, 32, 100, 111, 119, 110, 116, 111, 32, 101, 108, 115, 101, 32, 101, 110, 100, 32, 101, 120, 99, 101, 112, 116, 105, 111, 110, 32, 102, 97, 108, 115, 101, 32, 102, 111, 114, 32, 102, 117, 110, 32, 102, 117, 110, 99, 116, 105, 111, 110, 32, 105, 102, 32, 105, 110, 32, 108, 101, 116, 32, 109, 97, 116, 99, 104, 32, 109, 111, 100, 32, 109, 117, 116, 97, 98, 108, 101, 32, 110, 111, 116, 32, 111, 102, 32, 114, 97, 105, 115, 101, 32, 114, 101, 99, 32, 116, 104, 101, 110, 32, 116, 111, 32, 116, 114, 117, 101, 32, 116, 114, 121, 32, 116, 121, 112, 101, 32, 119, 104, 101, 110, 32, 119, 104, 105, 108, 101, 32, 119, 105, 116, 104, 32]
theorem words_len : wordsText.length < 4294967281 := by decide +kernel
def isWord (s : List UInt8) : Bool := !(s == []) && !(Lib.contains s [32]) && Lib.contains wordsText (([32] ++ s) ++ [32])

def nameLen (l : List UInt8) : Nat := (l.takeWhile isName).length

/-- The token at a text's beginning: its kind, number, text, and what stands behind it; else what is wrong. -/
def tok : List UInt8 → Except Nat (Nat × Nat × List UInt8 × List UInt8)
  | [] => .error 0
  | c :: r =>
    if isSmall c || isGreat c then
      .ok (if isGreat c then 4 else if (c :: r).take (nameLen (c :: r)) == [95] || isWord ((c :: r).take (nameLen (c :: r))) then 5 else 3, 0, (c :: r).take (nameLen (c :: r)), (c :: r).drop (nameLen (c :: r)))
    else if isDigit c then match numOf ((c :: r).take (nameLen (c :: r))) with
      | .ok v => .ok (1, v, [], (c :: r).drop (nameLen (c :: r)))
      | .error k => .error (if k = 5 then 20 else k)
    else if c == 34 then match txt 0 0 r with
      | some (v, l) => .ok (2, 0, v, l)
      | none => .error 20
    else if signOf (c :: r) = [] then .error 20
    else .ok (5, 0, signOf (c :: r), (c :: r).drop (signOf (c :: r)).length)

theorem tok_eq (L : List UInt8) (c : UInt8) (r : List UInt8) (h : L = c :: r) : tok L =
    if isSmall c || isGreat c then
      .ok (if isGreat c then 4 else if L.take (nameLen L) == [95] || isWord (L.take (nameLen L)) then 5 else 3, 0, L.take (nameLen L), L.drop (nameLen L))
    else if isDigit c then match numOf (L.take (nameLen L)) with
      | .ok v => .ok (1, v, [], L.drop (nameLen L))
      | .error k => .error (if k = 5 then 20 else k)
    else if c == 34 then match txt 0 0 r with
      | some (v, l) => .ok (2, 0, v, l)
      | none => .error 20
    else if signOf L = [] then .error 20
    else .ok (5, 0, signOf L, L.drop (signOf L).length) := by subst h; rfl

theorem skip_suf : ∀ (l : List UInt8) (d : Nat) (st : List UInt8) (b : Bool) (l' : List UInt8), skip d st l = (b, l') → (b = true → l' <:+ l) ∧ (b = false → (d ≠ 0 ∧ l' = st) ∨ l' <:+ l)
  | [], d, st, b, l', h => by
    unfold skip at h
    split at h
    · injection h with h1 h2; subst h1 h2; exact ⟨fun _ => List.suffix_refl _, fun q => by cases q⟩
    · rename_i hd; injection h with h1 h2; subst h1 h2; exact ⟨fun q => (by cases q), fun _ => .inl ⟨hd, rfl⟩⟩
  | [a], d, st, b, l', h => by
    unfold skip at h
    split at h
    · split at h
      · injection h with h1 h2; subst h1 h2; exact ⟨fun _ => List.nil_suffix, fun q => by cases q⟩
      · injection h with h1 h2; subst h1 h2; exact ⟨fun _ => List.suffix_refl _, fun q => by cases q⟩
    · rename_i hd; injection h with h1 h2; subst h1 h2; exact ⟨fun q => (by cases q), fun _ => .inl ⟨hd, rfl⟩⟩
  | a :: c :: r, d, st, b, l', h => by
    have two : r <:+ a :: c :: r := ⟨[a, c], rfl⟩
    have one : c :: r <:+ a :: c :: r := ⟨[a], rfl⟩
    rw [skip_cc] at h
    split at h
    · split at h
      · obtain ⟨h1, h2⟩ := skip_suf (c :: r) 0 st b l' h
        exact ⟨fun q => (h1 q).trans one, fun q => (h2 q).elim (fun w => absurd rfl w.1) (fun w => .inr (w.trans one))⟩
      · split at h
        · obtain ⟨h1, h2⟩ := skip_suf r 1 (a :: c :: r) b l' h
          exact ⟨fun q => (h1 q).trans two, fun q => (h2 q).elim (fun w => .inr (w.2 ▸ List.suffix_refl _)) (fun w => .inr (w.trans two))⟩
        · injection h with h1 h2; subst h1 h2; exact ⟨fun _ => List.suffix_refl _, fun q => by cases q⟩
    · rename_i hd
      split at h
      · obtain ⟨h1, h2⟩ := skip_suf r (d + 1) st b l' h
        exact ⟨fun q => (h1 q).trans two, fun q => (h2 q).elim (fun w => .inl ⟨hd, w.2⟩) (fun w => .inr (w.trans two))⟩
      · split at h
        · obtain ⟨h1, h2⟩ := skip_suf r (d - 1) st b l' h
          exact ⟨fun q => (h1 q).trans two, fun q => (h2 q).elim (fun w => .inl ⟨hd, w.2⟩) (fun w => .inr (w.trans two))⟩
        · obtain ⟨h1, h2⟩ := skip_suf (c :: r) d st b l' h
          exact ⟨fun q => (h1 q).trans one, fun q => (h2 q).elim (fun w => .inl ⟨hd, w.2⟩) (fun w => .inr (w.trans one))⟩

theorem txt_suf : ∀ (l : List UInt8) (md h : Nat) (v l' : List UInt8), txt md h l = some (v, l') → l' <:+ l ∧ l'.length < l.length
  | [], md, h, v, l', e => by simp [txt] at e
  | c :: r, md, h, v, l', e => by
    have one : r <:+ c :: r := ⟨[c], rfl⟩
    have go : ∀ {md' h' v'}, txt md' h' r = some (v', l') → l' <:+ c :: r ∧ l'.length < (c :: r).length := fun q => by
      obtain ⟨q1, q2⟩ := txt_suf r _ _ _ l' q
      exact ⟨q1.trans one, by simp only [List.length_cons]; omega⟩
    have mp : ∀ {x : UInt8}, (txt 0 0 r).map (fun p => (x :: p.1, p.2)) = some (v, l') → l' <:+ c :: r ∧ l'.length < (c :: r).length := fun q => by
      cases hq : txt 0 0 r with
      | none => rw [hq] at q; cases q
      | some p => rw [hq] at q; injection q with q; injection q with q1 q2; exact go (v' := p.1) (by rw [hq, ← q2])
    unfold txt at e
    split at e
    · split at e
      · injection e with e; injection e with _ e; subst e; exact ⟨one, by simp⟩
      · split at e
        · exact go e
        · exact mp e
    · split at e
      · split at e
        · exact mp e
        · split at e
          · exact mp e
          · split at e
            · exact mp e
            · split at e
              · exact go e
              · cases e
      · split at e
        · split at e
          · exact go e
          · cases e
        · split at e
          · exact mp e
          · cases e

theorem nameLen_pos {c : UInt8} {r : List UInt8} (h : isName c = true) : 1 ≤ nameLen (c :: r) := by
  unfold nameLen
  rw [List.takeWhile_cons_of_pos h]
  simp

theorem drop_suf {l : List UInt8} {k : Nat} (hk : 1 ≤ k) (hl : l ≠ []) : l.drop k <:+ l ∧ (l.drop k).length < l.length := by
  refine ⟨List.drop_suffix k l, ?_⟩
  have : 0 < l.length := List.length_pos_iff.2 hl
  rw [List.length_drop]
  omega

theorem tok_suf {l : List UInt8} {k n : Nat} {S l' : List UInt8} (h : tok l = .ok (k, n, S, l')) : l' <:+ l ∧ l'.length < l.length := by
  cases l with
  | nil => cases h
  | cons c r =>
    rw [tok_eq _ c r rfl] at h
    split at h
    · rename_i hc
      have hn : isName c = true := by unfold isName; rw [hc]; rfl
      injection h with h; injection h with _ h; injection h with _ h; injection h with _ h
      subst h
      exact drop_suf (nameLen_pos hn) (by simp)
    · split at h
      · rename_i hd
        have hn : isName c = true := by unfold isName; rw [hd]; simp
        split at h
        · injection h with h; injection h with _ h; injection h with _ h; injection h with _ h
          subst h
          exact drop_suf (nameLen_pos hn) (by simp)
        · cases h
      · split at h
        · split at h
          · rename_i v l1 ht
            injection h with h; injection h with _ h; injection h with _ h; injection h with _ h
            subst h
            obtain ⟨q1, q2⟩ := txt_suf _ _ _ _ _ ht
            exact ⟨q1.trans ⟨[c], rfl⟩, by simp only [List.length_cons]; omega⟩
          · cases h
        · split at h
          · cases h
          · rename_i hs
            injection h with h; injection h with _ h; injection h with _ h; injection h with _ h
            subst h
            exact drop_suf (List.length_pos_iff.2 hs) (by simp)

/-- A token: its kind, place, number, text. -/
abbrev Tk := Nat × Nat × Nat × List UInt8

/-- A source's tokens (without the end); else what is wrong, and where. -/
def lexF : Nat → Nat → List UInt8 → Except (Nat × Nat) (List Tk)
  | 0, _, _ => .error (0, 0)
  | f + 1, len, l => match skip 0 [] l with
    | (false, st) => .error (20, len - st.length)
    | (true, []) => .ok []
    | (true, c :: r) => match tok (c :: r) with
      | .error k => .error (k, len - (c :: r).length)
      | .ok (k, n, S, l') => match lexF f len l' with
        | .ok ts => .ok ((k, len - (c :: r).length, n, S) :: ts)
        | .error e => .error e

/-- The same, behind a gap. -/
def lexT (f len : Nat) (l : List UInt8) : Except (Nat × Nat) (List Tk) := match l with
  | [] => .ok []
  | c :: r => match tok (c :: r) with
    | .error k => .error (k, len - (c :: r).length)
    | .ok (k, n, S, l') => match lexF f len l' with
      | .ok ts => .ok ((k, len - (c :: r).length, n, S) :: ts)
      | .error e => .error e

theorem lexF_succ (f len : Nat) (l : List UInt8) : lexF (f + 1) len l = match skip 0 [] l with
    | (false, st) => .error (20, len - st.length)
    | (true, l') => lexT f len l' := by
  rw [lexF]
  split
  · rename_i h; rw [h]
  · rename_i h; rw [h]; rfl
  · rename_i h; rw [h]; rfl

def lexAll (s : List UInt8) : Except (Nat × Nat) (List Tk) := lexF (s.length + 1) s.length s

/-- With tokens ahead. -/
def ahead (ts : List Tk) : Except (Nat × Nat) (List Tk) → Except (Nat × Nat) (List Tk)
  | .ok us => .ok (ts ++ us)
  | .error e => .error e

theorem ahead_ahead (a b : List Tk) (x : Except (Nat × Nat) (List Tk)) : ahead a (ahead b x) = ahead (a ++ b) x := by
  cases x with
  | error e => rfl
  | ok us => simp [ahead]
theorem ahead_nil (x : Except (Nat × Nat) (List Tk)) : ahead [] x = x := by cases x <;> rfl
theorem lexT_cons (f len : Nat) (c : UInt8) (r : List UInt8) : lexT f len (c :: r) = match tok (c :: r) with
    | .error k => .error (k, len - (c :: r).length)
    | .ok (k, n, S, l') => match lexF f len l' with
      | .ok ts => .ok ((k, len - (c :: r).length, n, S) :: ts)
      | .error e => .error e := rfl
theorem lexT_nil (f len : Nat) : lexT f len [] = .ok [] := rfl
theorem lexT_err {f len : Nat} {l : List UInt8} {k : Nat} (hl : l ≠ []) (h : tok l = .error k) : lexT f len l = .error (k, len - l.length) := by
  cases l with
  | nil => exact absurd rfl hl
  | cons c r => rw [lexT_cons, h]
theorem lexT_ok {f len : Nat} {l l' : List UInt8} {k n : Nat} {S : List UInt8} (h : tok l = .ok (k, n, S, l')) : lexT f len l = ahead [(k, len - l.length, n, S)] (lexF f len l') := by
  cases l with
  | nil => cases h
  | cons c r =>
    rw [lexT_cons, h]
    simp only
    cases lexF f len l' <;> rfl

def hexD8 (n : Nat) : UInt8 := ([48, 49, 50, 51, 52, 53, 54, 55, 56, 57, 97, 98, 99, 100, 101, 102] : List UInt8).getD n 0
/-- How a byte is written in a text's mark. -/
def quoteB (c : UInt8) : List UInt8 :=
  if c == 34 || c == 92 then [92, c]
  else if c == 10 then [92, 110]
  else if c == 9 then [92, 116]
  else if c.toNat < 32 || 126 < c.toNat then [92, 120, hexD8 (c.toNat / 16), hexD8 (c.toNat % 16)]
  else [c]
def quote (s : List UInt8) : List UInt8 := 34 :: s.flatMap quoteB ++ [34]

theorem quoteB_len (c : UInt8) : (quoteB c).length ≤ 4 := by
  unfold quoteB
  split
  · simp
  · split
    · simp
    · split
      · simp
      · split <;> simp

end Go.Proofs.YtjeccchbeflddaaDoor.Lx
