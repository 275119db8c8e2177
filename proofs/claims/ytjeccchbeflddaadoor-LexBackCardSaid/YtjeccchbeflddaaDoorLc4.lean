/- What the lexer says of tokens' texts, and of a comment more. -/
import Derived.Test.YtjeccchbeflddaaDoorLc3
set_option linter.unusedVariables false
set_option linter.unusedSimpArgs false
namespace Go.Proofs.YtjeccchbeflddaaDoor.Lx
open Ga (textOf)

theorem hexD_val : ∀ n : _root_.Fin 16, hexVal (hexD8 n.val) = some n.val := by decide
theorem quote_all : ∀ c : _root_.Fin 256, hexD8 (c.val / 16) ≠ 34 ∧ hexD8 (c.val % 16) ≠ 34 := by decide +kernel

/-- A byte, written in a text's mark, is read as that byte. -/
theorem txt_quoteB (c : UInt8) (r : List UInt8) : txt 0 0 (quoteB c ++ r) = (txt 0 0 r).map fun p => (c :: p.1, p.2) := by
  unfold quoteB
  by_cases h1 : (c == 34 || c == 92) = true
  · rw [if_pos h1]
    show txt 0 0 (92 :: c :: r) = _
    rw [txt0, if_neg (by decide), if_pos (by decide), txt1, if_pos h1]
  · rw [if_neg h1]
    by_cases h2 : (c == 10) = true
    · rw [if_pos h2]
      obtain rfl := beq_iff_eq.1 h2
      show txt 0 0 (92 :: 110 :: r) = _
      rw [txt0, if_neg (by decide), if_pos (by decide), txt1, if_neg (by decide), if_pos (by decide)]
    · rw [if_neg h2]
      by_cases h3 : (c == 9) = true
      · rw [if_pos h3]
        obtain rfl := beq_iff_eq.1 h3
        show txt 0 0 (92 :: 116 :: r) = _
        rw [txt0, if_neg (by decide), if_pos (by decide), txt1, if_neg (by decide), if_neg (by decide), if_pos (by decide)]
      · rw [if_neg h3]
        by_cases h4 : (decide (c.toNat < 32) || decide (126 < c.toNat)) = true
        · rw [if_pos (by simpa using h4)]
          show txt 0 0 (92 :: 120 :: hexD8 (c.toNat / 16) :: hexD8 (c.toNat % 16) :: r) = _
          have hc := c.toNat_lt
          have a := hexD_val ⟨c.toNat / 16, by omega⟩
          have b := hexD_val ⟨c.toNat % 16, by omega⟩
          simp only at a b
          rw [txt0, if_neg (by decide), if_pos (by decide), txt1, if_neg (by decide), if_neg (by decide), if_neg (by decide), if_pos (by decide), txt2, a]
          simp only
          rw [txt3, b]
          simp only
          have e : UInt8.ofNat (16 * (c.toNat / 16) + c.toNat % 16) = c := by
            rw [show 16 * (c.toNat / 16) + c.toNat % 16 = c.toNat by omega]
            exact UInt8.ofNat_toNat
          rw [e]
        · rw [if_neg (by simpa using h4)]
          show txt 0 0 (c :: r) = _
          have n34 : ¬ (c == 34) = true := fun q => h1 (by rw [q]; rfl)
          have n92 : ¬ (c == 92) = true := fun q => h1 (by rw [q]; simp)
          rw [txt0, if_neg n34, if_neg n92]
theorem txt_quotes (e : List UInt8) : ∀ v : List UInt8, txt 0 0 (v.flatMap quoteB ++ 34 :: e) = some (v, e)
  | [] => by
    show txt 0 0 (34 :: e) = _
    rw [txt0, if_pos (by decide)]
  | c :: v => by
    rw [List.flatMap_cons, List.append_assoc, txt_quoteB, txt_quotes e v]
    rfl

/-- A token's text with a blank behind is read as that token. -/
theorem tok_text {l : List UInt8} {k n : Nat} {S l' : List UInt8} (h : tok l = .ok (k, n, S, l')) (p : Nat) (e : List UInt8) : tok (textOf (k, p, n, S) ++ 32 :: e) = .ok (k, n, S, 32 :: e) := by
  obtain ⟨f1, f2, f3, f4, f5, f6⟩ := tok_facts h
  by_cases hk : k = 2
  · subst hk
    have hn : n = 0 := by
      cases l with
      | nil => cases h
      | cons c r =>
        rw [tok_eq _ c r rfl] at h
        split at h
        · injection h with h; injection h with q1 h; exfalso; revert q1; split <;> first | decide | (split <;> decide)
        · split at h
          · split at h
            · injection h with h; injection h with q1 h; cases q1
            · cases h
          · split at h
            · split at h
              · injection h with h; injection h with q1 h; injection h with q2 h; exact q2.symm
              · cases h
            · split at h
              · cases h
              · injection h with h; injection h with q1 h; cases q1
    subst hn
    have ht : textOf (2, p, 0, S) = 34 :: (S.flatMap quoteB ++ [34]) := by
      unfold textOf
      rw [if_neg (show ¬ (2 = 1) by decide), if_pos rfl]
      rfl
    rw [ht]
    have e1 : 34 :: (S.flatMap quoteB ++ [34]) ++ 32 :: e = 34 :: (S.flatMap quoteB ++ 34 :: (32 :: e)) := by simp
    rw [e1, tok_eq _ 34 _ rfl, if_neg (by decide), if_neg (by decide), if_pos (by decide), txt_quotes]
  · have hT := f6 hk p
    generalize textOf (k, p, n, S) = T at hT ⊢
    subst hT
    exact tok_swap h (Mild.blank l' [] 32 e List.nil_prefix (by decide))

/-- Tokens' texts, with a blank behind each. -/
def texts (us : List Tk) : List UInt8 := us.flatMap fun t => textOf t ++ [32]

theorem textOf_place (t : Tk) (p : Nat) : textOf (t.1, p, t.2.2) = textOf t := rfl

theorem texts_rd : ∀ {l : List UInt8} {us : List Tk}, Rd l us → ∃ vs, Rd (texts us ++ [32]) vs ∧ vs.map (fun t => (t.1, t.2.2)) = us.map (fun t => (t.1, t.2.2)) := by
  intro l us h
  induction h with
  | fin h => exact ⟨[], .fin (by decide), rfl⟩
  | @tok l l1 l2 k n S ts h1 h2 h3 ih =>
    obtain ⟨vs, v1, v2⟩ := ih
    have ht := tok_text h2 l1.length (texts ts ++ [32])
    have e : texts ((k, l1.length, n, S) :: ts) ++ [32] = textOf (k, l1.length, n, S) ++ 32 :: (texts ts ++ [32]) := by
      unfold texts
      rw [List.flatMap_cons]
      simp
    have hskip : skip 0 [] (textOf (k, l1.length, n, S) ++ 32 :: (texts ts ++ [32])) = (true, textOf (k, l1.length, n, S) ++ 32 :: (texts ts ++ [32])) := by
      obtain ⟨f1, f2, f3, f4, f5, f6⟩ := tok_facts h2
      by_cases hk : k = 2
      · subst hk
        have : textOf (2, l1.length, n, S) = 34 :: (S.flatMap quoteB ++ [34]) := by
          unfold textOf
          rw [if_neg (show ¬ (2 = 1) by decide), if_pos rfl]
          rfl
        rw [this]
        exact skip_stop 34 _ (by decide) rfl
      · have hT := f6 hk l1.length
        have hid := skip_idem h1
        generalize hTT : textOf (k, l1.length, n, S) = T at hT ht ⊢
        rw [← hT] at hid
        have hTne : T ≠ [] := by
          rintro rfl
          have := (tok_suf h2).2
          rw [← hT] at this
          simp at this
        refine skip_stop_mild hid ⟨T, 32 :: (texts ts ++ [32]), rfl, ⟨l2, rfl⟩, .inr ⟨32, _, rfl, by decide⟩⟩ (fun c r q => ?_)
        cases T with
        | nil => exact absurd rfl hTne
        | cons a T' => injection q with q; subst q; exact head_noblank hid a (T' ++ l2) rfl
    refine ⟨_, .tok (by rw [e]; exact hskip) ht (Rd.of_skip (skip_blank 32 _ (by decide)) v1), ?_⟩
    rw [List.map_cons, List.map_cons, v2]

/-- LexBack, plainly: the tokens' texts, with a blank behind each (and behind the end), are read as these tokens, but for their places. -/
theorem back {s : List UInt8} {ts : List Tk} (h : lexAll s = .ok ts) :
    ∃ vs, lexAll (texts ts ++ [32]) = .ok vs ∧ vs.map (fun t => (t.1, t.2.2)) = ts.map (fun t => (t.1, t.2.2)) := by
  obtain ⟨us, h1, rfl⟩ := lexAll_rd.1 h
  obtain ⟨vs, v1, v2⟩ := texts_rd h1
  have e : texts (us.map (place s.length)) = texts us := by
    unfold texts
    rw [List.flatMap_map]
    rfl
  rw [e]
  refine ⟨_, lexAll_rd.2 ⟨vs, v1, rfl⟩, ?_⟩
  rw [List.map_map, List.map_map]
  exact v2

/-- No mark of a comment in it, pair by pair. -/
def NoMarks : List UInt8 → Prop
  | a :: b :: r => (a == 40 && b == 42) = false ∧ (a == 42 && b == 41) = false ∧ NoMarks (b :: r)
  | _ => True
theorem com_say : ∀ (say : List UInt8), NoMarks say → ∀ e, com 1 (say ++ 32 :: 42 :: 41 :: e) = some e
  | [], _, e => by
    show com 1 (32 :: 42 :: 41 :: e) = _
    rw [com_cc, if_neg (by decide), if_neg (by decide), com_close, if_pos rfl]
  | [a], _, e => by
    show com 1 (a :: 32 :: 42 :: 41 :: e) = _
    rw [com_cc, if_neg (by simp), if_neg (by simp), com_cc, if_neg (by decide), if_neg (by decide), com_close, if_pos rfl]
  | a :: b :: r, h, e => by
    obtain ⟨h1, h2, h3⟩ := h
    show com 1 (a :: b :: (r ++ 32 :: 42 :: 41 :: e)) = _
    rw [com_cc, if_neg (by rw [h1]; simp), if_neg (by rw [h2]; simp)]
    exact com_say (b :: r) h3 e
/-- A comment more, blanks around it. -/
def more (say : List UInt8) : List UInt8 := 32 :: 40 :: 42 :: 32 :: (say ++ [32, 42, 41, 10])
theorem more_gap {say : List UInt8} (h : NoMarks say) : Gap (more say) := by
  intro e
  have e1 : more say ++ e = 32 :: 40 :: 42 :: 32 :: (say ++ 32 :: 42 :: 41 :: 10 :: e) := by unfold more; simp
  rw [e1, skip_blank 32 _ (by decide), skip_open, com_open]
  have : com (0 + 1) (32 :: (say ++ 32 :: 42 :: 41 :: 10 :: e)) = some (10 :: e) := by
    cases say with
    | nil =>
      show com 1 (32 :: 32 :: 42 :: 41 :: 10 :: e) = _
      rw [com_cc, if_neg (by decide), if_neg (by decide)]
      exact com_say [] trivial (10 :: e)
    | cons a r =>
      show com 1 (32 :: a :: (r ++ 32 :: 42 :: 41 :: 10 :: e)) = _
      rw [com_cc, if_neg (by simp), if_neg (by simp)]
      exact com_say (a :: r) h (10 :: e)
  rw [this]
  exact skip_blank 10 e (by decide)

/-- LexGaps, plainly. -/
theorem gaps {s say : List UInt8} {ts : List Tk} (h : lexAll s = .ok ts) (hsay : NoMarks say) (i : Nat) (hi : i ≤ ts.length) (p : Nat) (hp : ((ts ++ [(0, s.length, 0, [])])[i]?).map (·.2.1) = some p) :
    p ≤ s.length ∧ lexAll (s.take p ++ more say ++ s.drop p) = .ok (ts.take i ++ (ts.drop i).map fun t => (t.1, t.2.1 + (more say).length, t.2.2)) := by
  obtain ⟨us, h1, rfl⟩ := lexAll_rd.1 h
  rw [List.length_map] at hi
  have hle := fun t ht => (rd_le h1 t ht).2
  have hlb : left us i ≤ s.length := by
    unfold left
    cases hq : us[i]? with
    | none => simp
    | some t => simpa using hle t (List.mem_of_getElem? hq)
  have hp' : p = s.length - left us i := by
    rw [place_left [] hle] at hp
    unfold left
    by_cases h2 : i < us.length
    · rw [if_pos h2, List.getElem?_eq_getElem h2] at hp
      rw [List.getElem?_eq_getElem h2]
      simp [place] at hp ⊢
      omega
    · rw [if_neg h2, if_pos (by omega)] at hp
      rw [List.getElem?_eq_none (by omega)]
      simp at hp ⊢
      omega
  have hg := Rd.gap h1 (c := 32) (w := 40 :: 42 :: 32 :: (say ++ [32, 42, 41, 10])) (by decide) (more_gap hsay) i hi
  rw [← hp'] at hg
  refine ⟨by omega, lexAll_rd.2 ⟨_, hg, ?_⟩⟩
  have hlen : (s.take p ++ (32 :: 40 :: 42 :: 32 :: (say ++ [32, 42, 41, 10])) ++ s.drop p).length = s.length + (more say).length := by
    have : (more say).length = (32 :: 40 :: 42 :: 32 :: (say ++ [32, 42, 41, 10])).length := rfl
    rw [this, List.length_append, List.length_append, List.length_take, List.length_drop]
    omega
  have hm : (32 :: 40 :: 42 :: 32 :: (say ++ [32, 42, 41, 10])) = more say := rfl
  rw [hm] at hlen ⊢
  rw [List.map_append, List.map_map, hlen, ← List.map_take, ← List.map_drop, List.map_map]
  congr 1
  · refine List.map_congr_left fun t ht => ?_
    have := hle t (List.mem_of_mem_take ht)
    simp only [place, Function.comp, Prod.mk.injEq, true_and, and_true]
    omega
  · refine List.map_congr_left fun t ht => ?_
    have := hle t (List.mem_of_mem_drop ht)
    simp only [place, Function.comp, Prod.mk.injEq, true_and, and_true]
    omega
end Go.Proofs.YtjeccchbeflddaaDoor.Lx
